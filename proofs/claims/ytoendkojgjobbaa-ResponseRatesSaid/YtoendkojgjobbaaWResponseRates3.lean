/- The walks of ResponseRates, part 3: each Go function computes what its plain program computes. Printed by a program of ours. -/
import Derived.Test.YtoendkojgjobbaaProg
import Derived.Test.YtoendkojgjobbaaDat
import Derived.Test.YtoendkojgjobbaaSh
import Derived.Test.YtoendkojgjobbaaLibL
import Derived.KernelRfl
import Derived.Test.YtoendkojgjobbaaWResponseRates2
namespace Go.Proofs.Ytoendkojgjobbaa.Wk
open Go Go.RowKit Go.Proofs Go.Proofs.Ytoendkojgjobbaa.Sh
set_option linter.unusedVariables false
set_option linter.unusedSimpArgs false

abbrev response_copied_rd (w0 : World) (X : List Nat) (r : (List Stage)) : (Nat → Prop) → World → Value → Prop := fun S w v => ∃ (p0_0 : Option Addr) (k0_0 : Nat) (c0_0 : List Value), v = .slice p0_0 r.length k0_0 ∧ Outs X w0 S w [.row p0_0 r.length k0_0 c0_0 26 10] ∧ (RowA c0_0 r).p S w
set_option maxHeartbeats 4000000 in
set_option maxRecDepth 100000 in
theorem response_copied_ok {w0 : World} {S0 : Nat → Prop} {p2 : Option Addr} {k3 : Nat} {l1 : (List Stage)} {r : (List Stage)} (hsh : response_copied l1 = some r) (hS : ∀ b, S0 b → b < w0.heap.size) (h4 : (SlA p2 l1.length k3 l1).p S0 w0) : Calls Try.prog 48 #[.slice p2 l1.length k3] w0 (Ret ([]) w0 S0 (response_copied_rd w0 ([]) r)) := by
 refine calls_of_wp Try.func48 rfl ?_
 have hs := Sl.enter #[.slice p2 l1.length k3] 24 [(0, .slice p2 l1.length k3)] rfl ⟨rfl, trivial⟩
 have hw := Wd.enter (E := []) hS (fun _ h => (by cases h))
 have hw := hw.addE h4
 delta response_copied at hsh
 refine wp_seq ?_
 refine wp_region_lit ?_
 refine st_val hs (y_assign rfl) trivial rfl rfl fun a hs => ?_
 refine wpList_nil ?_
 refine then_normal ?_
 refine wp_seq ?_
 refine wp_region_lit ?_
 refine st_val hs (y_move rfl) trivial rfl rfl fun a hs => ?_
 obtain ⟨rv6, h5, hsh⟩ := bind_t hsh
 refine st_callR hs (slices_Clone_Lapi_Stage_api_Stage_ok h5 hw.dom (hw.envAt 0 rfl)) (do_call Try.call81 rfl) trivial rfl rfl ?_
 intro v14 Sv11 w a h12 h13 hs
 obtain ⟨p7, k8, c10, rfl, h15, h9⟩ := h13
 have hw := hw.callN h12 h15
 have hw := hw.addE (e := RowA c10 rv6) h9
 refine st_val hs (y_assign rfl) trivial rfl rfl fun a hs => ?_
 refine wpList_nil ?_
 refine then_normal ?_
 refine wp_seq ?_
 refine wp_seq ?_
 refine wp_region_lit ?_
 refine st_val hs (y_move rfl) trivial rfl rfl fun a hs => ?_
 refine st_val hs (y_len Try.runUnderlying35 rfl) trivial rfl rfl fun a hs => ?_
 refine st_val hs (y_move rfl) trivial rfl rfl fun a hs => ?_
 refine wpList_nil ?_
 refine then_normal ?_
 obtain ⟨e169, h269, hsh⟩ := bind_t hsh
 refine wp_join (fun a w => ∃ (c170 : List Value) (p171 : Option Addr) (k172 : Nat) (Sv173 : Nat → Prop), Sl 24 [(3, .slice p171 e169.length k172)] a ∧ Wd ⟨w0, S0, []⟩ Sv173 [.row p171 e169.length k172 c170 26 10] [RowA c170 e169] w) ?_ ?_
 ·refine wp_block ?_
  refine wp_while (fun sv16 a w => ∃ (c115 : List Value) (p116 : Option Addr) (k117 : Nat) (Sv118 : Nat → Prop), Sl 24 [(3, .slice p116 sv16.1.length k117), (8, .int .i64 (rv6.length : Int)), (9, .int .i64 sv16.2)] a ∧ Wd ⟨w0, S0, []⟩ Sv118 [.row p116 sv16.1.length k117 c115 26 10] [RowA c115 sv16.1] w) (rv6, 0) h269 ⟨c10, p7, k8, Sv11, (hs.wk rfl), (hw.ft [0] [0] (by decide) rfl rfl)⟩ ?_
  clear h269
  repeat clear hsh
  rintro sv16 a w tv167 ⟨c115, p116, k117, Sv118, hs, hw⟩ hsh hd166
  delta response_copied_l1 at hsh
  refine wp_seq ?_
  refine wp_region_lit ?_
  refine st_val hs (y_lss rfl rfl) trivial rfl rfl fun a hs => ?_
  refine wpList_nil ?_
  refine then_normal ?_
  refine wp_seq ?_
  refine wp_cond_split (hs.ev rfl) (fun h175 => ?_) (fun h175 => ?_)
  ·have hsh := ite_t hsh h175
   refine wp_skip ?_
   refine then_normal ?_
   refine wp_seq ?_
   refine wp_block ?_
   refine wp_seq ?_
   refine wp_region_lit ?_
   refine st_val hs (y_move rfl) trivial rfl rfl fun a hs => ?_
   refine st_val hs (y_assign rfl) trivial rfl rfl fun a hs => ?_
   refine wpList_nil ?_
   refine then_normal ?_
   refine wp_region_lit ?_
   refine st_val hs (y_move rfl) trivial rfl rfl fun a hs => ?_
   refine st_val hs (y_move rfl) trivial rfl rfl fun a hs => ?_
   refine st_val hs (y_move rfl) trivial rfl rfl fun a hs => ?_
   refine st_val hs (y_move rfl) trivial rfl rfl fun a hs => ?_
   obtain ⟨x224, h222, hsh⟩ := bind_t hsh
   obtain ⟨b231, q228, c229, h232, h225, h226, h230, h223⟩ := hw.elemRV (α := Stage) 0 rfl 0 rfl h222
   have hsv233 := hs
   have hwv234 := hw
   subst h232
   have hs := hsv233
   have hw := hwv234
   obtain ⟨_, _, _, _, _, _, _, _, _, _, rfl, rfl, rfl, rfl, rfl, rfl, rfl, rfl, ⟨p235, n236, k237, rfl, h238⟩, rfl, rfl⟩ := h223
   obtain rfl := h238.1
   have hw := hw.addE (e := SlA p235 _ k237 x224.Taps) h238
   refine st_val hs (y_indexAt Try.runUnderlying35 Try.sizeOf26 rfl rfl h225.1 h225.2 h226) trivial rfl rfl fun a hs => ?_
   refine st_val hs (y_fieldAddr (o' := q228 + 7) Try.runUnderlying26 rfl Try.sizeOf24 rfl rfl rfl) trivial rfl rfl fun a hs => ?_
   refine st_val hs (y_loadQ1 (j := 7) (hw.ownAt 0 rfl) rfl Try.isAgg24 h230 rfl) trivial rfl rfl fun a hs => ?_
   obtain ⟨rv240, h239, hsh⟩ := bind_t hsh
   refine st_callR hs (slices_Clone_Lint_int_ok h239 hw.dom (hw.envAt 0 rfl)) (do_call Try.call82 rfl) trivial rfl rfl ?_
   intro v248 Sv245 w a h246 h247 hs
   obtain ⟨p241, k242, c244, rfl, h249, h243⟩ := h247
   have hw := hw.callN h246 h249
   have hw := hw.addE (e := RowA c244 rv240) h243
   obtain ⟨x252, h250, hsh⟩ := bind_t hsh
   obtain ⟨q256, c257, h253, h254, h258, h251⟩ := hw.elemRK (α := Stage) 1 rfl 2 rfl h250
   obtain ⟨_, _, _, _, _, _, _, _, _, _, rfl, rfl, rfl, rfl, rfl, rfl, rfl, rfl, ⟨p259, n260, k261, rfl, h262⟩, rfl, rfl⟩ := h251
   obtain rfl := h262.1
   have hw := hw.addE (e := SlA p259 _ k261 x252.Taps) h262
   refine st_val hs (y_indexAt Try.runUnderlying35 Try.sizeOf26 rfl rfl h253.1 h253.2 h254) trivial rfl rfl fun a hs => ?_
   refine st_val hs (y_fieldAddr (o' := q256 + 7) Try.runUnderlying26 rfl Try.sizeOf24 rfl rfl rfl) trivial rfl rfl fun a hs => ?_
   obtain ⟨l264, h263, hsh⟩ := bind_t hsh
   obtain ⟨Sv267, hw⟩ := w_share (α := Int) hw 0 rfl 1 rfl
   refine w_storeR (α := Stage) (f := 7) (m := 1) hs hw 0 rfl 4 rfl h254 rfl rfl Try.sizeOf24 rfl rfl rfl h263 (fun es he => by rw [h258] at he; subst he; exact ⟨_, _, _, _, _, _, _, _, _, _, rfl, rfl, rfl, rfl, rfl, rfl, rfl, rfl, ⟨_, _, _, rfl, hw.envAt 0 rfl⟩, rfl, rfl⟩) trivial ?_
   intro c265 a w hs hw
   have h266 := setM_len h263
   try have hs := hs.fix 3 (.slice (some ⟨b231, 0, none⟩) l264.length k117) rfl (by rw [h266])
   try have hs := hs.fix 12 (.slice (some ⟨b231, 0, none⟩) l264.length k117) rfl (by rw [h266])
   try have hs := hs.fix 14 (.slice (some ⟨b231, 0, none⟩) l264.length k117) rfl (by rw [h266])
   refine wpList_nil ?_
   refine blk_normal ?_
   refine then_normal ?_
   refine wp_region_lit ?_
   refine st_val hs (y_add rfl rfl) trivial rfl rfl fun a hs => ?_
   refine st_val hs (y_move rfl) trivial rfl rfl fun a hs => ?_
   refine wpList_nil ?_
   refine then_normal ?_
   exact ⟨_, (Option.some.inj hsh).symm, c265, (some ⟨b231, 0, none⟩), k117, Sv267, (hs.wk rfl), (hw.ft [0] [0] (by decide) rfl rfl)⟩
  ·have hsh := ite_f hsh h175
   refine wp_exit ?_
   refine then_exit ?_
   refine then_exit ?_
   refine blk_exit ?_
   have hsh := Option.some.inj hsh
   subst hsh
   have h268 := hd166 _ rfl
   subst h268
   refine then_normal ?_
   exact ⟨c115, p116, k117, Sv118, (hs.wk rfl), (hw.ft [0] [0] (by decide) rfl rfl)⟩
 ·rintro a w ⟨c170, p171, k172, Sv173, hs, hw⟩
  refine then_normal ?_
  refine wp_seq ?_
  refine wp_region_lit ?_
  refine st_val hs (y_move rfl) trivial rfl rfl fun a hs => ?_
  refine st_val hs (y_assign rfl) trivial rfl rfl fun a hs => ?_
  refine wpList_nil ?_
  refine then_normal ?_
  have hsh := Option.some.inj hsh
  subst hsh
  refine wp_ret ?_
  exact ret1 hs rfl (rv_tmp rfl) (hw.ret ⟨p171, k172, c170, rfl, (hw.outs [0] (by decide) rfl), (hw.envAt 0 rfl)⟩)

abbrev response_Join_rd (w0 : World) (X : List Nat) (r : (Response × Int)) : (Nat → Prop) → World → Value → Prop := fun S w v => ∃ (p0_0 : Option Addr) (k0_0 : Nat) (c0_0 : List Value), v = .tuple #[.agg #[.slice p0_0 r.1.Stages.length k0_0], .int .i64 r.2] ∧ Outs X w0 S w [.row p0_0 r.1.Stages.length k0_0 c0_0 26 10] ∧ (RowA c0_0 r.1.Stages).p S w
set_option maxHeartbeats 4000000 in
set_option maxRecDepth 100000 in
theorem response_Join_ok {w0 : World} {S0 : Nat → Prop} {p2 : Option Addr} {k3 : Nat} {p6 : Option Addr} {k7 : Nat} {a1 : Response} {b5 : Response} {r : (Response × Int)} (hsh : response_Join a1 b5 = some r) (hS : ∀ b, S0 b → b < w0.heap.size) (h4 : (SlA p2 a1.Stages.length k3 a1.Stages).p S0 w0) (h8 : (SlA p6 b5.Stages.length k7 b5.Stages).p S0 w0) : Calls Try.prog 16 #[.agg #[.slice p2 a1.Stages.length k3], .agg #[.slice p6 b5.Stages.length k7]] w0 (Ret ([]) w0 S0 (response_Join_rd w0 ([]) r)) := by
 refine calls_of_wp Try.func16 rfl ?_
 have hs := Sl.enter #[.agg #[.slice p2 a1.Stages.length k3], .agg #[.slice p6 b5.Stages.length k7]] 29 [(0, .agg #[.slice p2 a1.Stages.length k3]), (1, .agg #[.slice p6 b5.Stages.length k7])] rfl ⟨rfl, rfl, trivial⟩
 have hw := Wd.enter (E := []) hS (fun _ h => (by cases h))
 have hw := hw.addE h4
 have hw := hw.addE h8
 delta response_Join at hsh
 refine wp_seq ?_
 refine wp_region_lit ?_
 refine w_box (cs := [.slice p2 a1.Stages.length k3]) hs hw rfl rfl rfl trivial ?_
 intro b9 a w hs hw
 refine w_box (cs := [.slice p6 b5.Stages.length k7]) hs hw rfl rfl rfl trivial ?_
 intro b10 a w hs hw
 refine w_alloc (cs := [.slice none ([] : List Stage).length 0]) hs hw Try.zeroValue37 rfl rfl trivial ?_
 intro b11 a w hs hw
 refine st_val hs (y_assign rfl) trivial rfl rfl fun a hs => ?_
 refine wpList_nil ?_
 refine then_normal ?_
 refine wp_seq ?_
 refine wp_seq ?_
 refine wp_region_lit ?_
 refine st_val hs (y_loadBA (hw.ownAt 2 rfl) rfl Try.isAgg37 Try.sizeOf37 rfl rfl) trivial rfl rfl fun a hs => ?_
 obtain ⟨rv13, h12, hsh⟩ := bind_t hsh
 refine st_callR hs (response_Valid_ok h12 hw.bdom (hw.bE 1 rfl)) (do_call Try.call33 rfl) trivial rfl rfl ?_
 intro v17 Sv14 w a h15 h16 hs
 subst h16
 have hw := hw.callB h15
 refine st_val hs (y_not rfl) trivial rfl rfl fun a hs => ?_
 refine st_val hs (y_move rfl) trivial rfl rfl fun a hs => ?_
 obtain ⟨c27, hc27, hsh⟩ := bind_t hsh
 refine wpl_join 4 (fun a w => ∃ (Sv28 : Nat → Prop), Sl 29 [(2, .pointer (some ⟨b9, 0, none⟩)), (3, .pointer (some ⟨b10, 0, none⟩)), (4, .pointer (some ⟨b11, 0, none⟩)), (14, .bool c27)] a ∧ Wd ⟨w0, S0, []⟩ Sv28 [.box b9 [.slice p2 a1.Stages.length k3] 37, .box b10 [.slice p6 b5.Stages.length k7] 37, .box b11 [.slice none ([] : List Stage).length 0] 37] [SlA p2 a1.Stages.length k3 a1.Stages, SlA p6 b5.Stages.length k7 b5.Stages, SlA none ([] : List Stage).length 0 ([] : List Stage)] w) ?_ ?_
 ·rcases Bool.eq_false_or_eq_true (!rv13) with h26 | h26
  ·have hs := hs.fix 10 (.bool true) rfl (vb h26)
   have hsh := ite_t hc27 h26
   refine st_skip hs rfl rfl rfl rfl rfl fun a hs => ?_
   refine st_skip hs rfl rfl rfl rfl rfl fun a hs => ?_
   refine st_skip hs rfl rfl rfl rfl rfl fun a hs => ?_
   refine st_val hs (y_pickT rfl rfl) trivial rfl rfl fun a hs => ?_
   refine wpList_nil ?_
   have hw := hw.addE (e := SlA (α := Stage) none 0 0 []) nil_sl
   have hsh := Option.some.inj hsh
   subst hsh
   refine then_normal ?_
   exact ⟨S0, (hs.wk rfl), (hw.ft [2, 1, 0] [2, 1, 0] (by decide) rfl rfl)⟩
  ·have hs := hs.fix 10 (.bool false) rfl (vb h26)
   have hsh := ite_f hc27 h26
   refine st_val hs (y_loadBA (hw.ownAt 1 rfl) rfl Try.isAgg37 Try.sizeOf37 rfl rfl) ⟨_, rfl, rfl⟩ rfl rfl fun a hs => ?_
   obtain ⟨rv30, h29, hsh⟩ := bind_t hsh
   refine st_callR hs (response_Valid_ok h29 hw.bdom (hw.bE 0 rfl)) (do_call Try.call33 rfl) ⟨_, rfl, rfl⟩ rfl rfl ?_
   intro v34 Sv31 w a h32 h33 hs
   subst h33
   have hw := hw.callB h32
   refine st_val hs (y_not rfl) ⟨_, rfl, rfl⟩ rfl rfl fun a hs => ?_
   refine st_val hs (y_pickF rfl rfl) trivial rfl rfl fun a hs => ?_
   refine wpList_nil ?_
   have hw := hw.addE (e := SlA (α := Stage) none 0 0 []) nil_sl
   have hsh := Option.some.inj hsh
   subst hsh
   refine then_normal ?_
   exact ⟨S0, (hs.wk rfl), (hw.ft [2, 1, 0] [2, 1, 0] (by decide) rfl rfl)⟩
 ·rintro a w ⟨Sv28, hs, hw⟩
  refine wpList_nil ?_
  refine then_normal ?_
  refine wp_cond_split (hs.ev rfl) (fun h37 => ?_) (fun h37 => ?_)
  ·have hsh := ite_t hsh h37
   refine wp_seq ?_
   refine wp_region_lit ?_
   refine st_val hs (y_build (vs := []) Bld37 rfl rfl) trivial rfl rfl fun a hs => ?_
   refine w_store (m := 1) (cs' := [.slice none ([] : List Stage).length 0]) hs hw 2 rfl rfl rfl Try.sizeOf37 rfl rfl rfl rfl trivial ?_
   intro a w hs hw
   refine st_val hs (y_assign rfl) trivial rfl rfl fun a hs => ?_
   refine wpList_nil ?_
   refine then_normal ?_
   have hsh := Option.some.inj hsh
   subst hsh
   have hw := hw.nilRow Stage 26
   refine wp_ret ?_
   refine then_ret ?_
   exact ret2 hs rfl (rv_cell hw 3 rfl rfl Try.isAgg37 Try.sizeOf37 rfl) (rv_tmp rfl) (hw.ret ⟨none, 0, [], rfl, (hw.outs [0] (by decide) rfl), (hw.envAt 0 rfl)⟩)
  ·have hsh := ite_f hsh h37
   refine wp_skip ?_
   refine then_normal ?_
   refine wp_seq ?_
   refine wp_region_lit ?_
   refine st_val hs (y_fieldAddr (o' := 0) Try.runUnderlying37 rfl Try.sizeOf35 rfl rfl rfl) trivial rfl rfl fun a hs => ?_
   refine st_val hs (y_loadB1 (hw.ownAt 0 rfl) rfl Try.isAgg35 rfl) trivial rfl rfl fun a hs => ?_
   refine st_val hs (y_fieldAddr (o' := 0) Try.runUnderlying37 rfl Try.sizeOf35 rfl rfl rfl) trivial rfl rfl fun a hs => ?_
   refine st_val hs (y_loadB1 (hw.ownAt 1 rfl) rfl Try.isAgg35 rfl) trivial rfl rfl fun a hs => ?_
   refine w_litSlice (α := (List Stage)) (vs := [.slice p2 a1.Stages.length k3, .slice p6 b5.Stages.length k7]) (cs := [.slice p2 a1.Stages.length k3, .slice p6 b5.Stages.length k7]) (xs := ([a1.Stages, b5.Stages] : List (List Stage))) hs hw El111 rfl rfl rfl rfl rfl rfl ⟨⟨_, rfl, ⟨_, _, _, rfl, hw.envAt 0 rfl⟩⟩, ⟨⟨_, rfl, ⟨_, _, _, rfl, hw.envAt 1 rfl⟩⟩, rfl⟩⟩ rfl trivial rfl fun b39 a w hs hw => ?_
   obtain ⟨rv41, h40, hsh⟩ := bind_t hsh
   obtain ⟨Sv46, hw⟩ := w_share (α := (List Stage)) hw 0 rfl 0 rfl
   refine st_callR hs (slices_Concat_Lapi_Stage_api_Stage_ok h40 hw.dom (hw.envAt 0 rfl)) (do_call Try.call49 rfl) trivial rfl rfl ?_
   intro v50 Sv47 w a h48 h49 hs
   obtain ⟨p42, k43, c45, rfl, h51, h44⟩ := h49
   have hw := hw.callN h48 h51
   have hw := hw.addE (e := RowA c45 rv41) h44
   obtain ⟨rv53, h52, hsh⟩ := bind_t hsh
   obtain ⟨Sv58, hw⟩ := w_share (α := Stage) hw 0 rfl 0 rfl
   refine st_callR hs (response_copied_ok h52 hw.dom (hw.envAt 0 rfl)) (do_call Try.call48 rfl) trivial rfl rfl ?_
   intro v62 Sv59 w a h60 h61 hs
   obtain ⟨p54, k55, c57, rfl, h63, h56⟩ := h61
   have hw := hw.callN h60 h63
   have hw := hw.addE (e := RowA c57 rv53) h56
   refine st_val hs (y_build (vs := [(0, .slice p54 rv53.length k55)]) Bld37 rfl rfl) trivial rfl rfl fun a hs => ?_
   refine w_alloc (cs := [.slice none ([] : List Stage).length 0]) hs hw Try.zeroValue37 rfl rfl trivial ?_
   intro b64 a w hs hw
   refine w_store (m := 1) (cs' := [.slice p54 rv53.length k55]) hs hw 0 rfl rfl rfl Try.sizeOf37 rfl rfl rfl rfl trivial ?_
   intro a w hs hw
   refine wpList_nil ?_
   refine then_normal ?_
   refine wp_seq ?_
   refine wp_seq ?_
   refine wp_region_lit ?_
   refine st_val hs (y_loadBA (hw.ownAt 0 rfl) rfl Try.isAgg37 Try.sizeOf37 rfl rfl) trivial rfl rfl fun a hs => ?_
   obtain ⟨rv66, h65, hsh⟩ := bind_t hsh
   refine st_callR hs (response_Valid_ok h65 hw.bdom (hw.bRow 1 rfl 0 rfl)) (do_call Try.call33 rfl) trivial rfl rfl ?_
   intro v70 Sv67 w a h68 h69 hs
   subst h69
   have hw := hw.callB h68
   refine st_val hs (y_not rfl) trivial rfl rfl fun a hs => ?_
   refine wpList_nil ?_
   refine then_normal ?_
   refine wp_cond_split (hs.ev rfl) (fun h73 => ?_) (fun h73 => ?_)
   ·have hsh := ite_t hsh h73
    refine wp_seq ?_
    refine wp_region_lit ?_
    refine st_val hs (y_build (vs := []) Bld37 rfl rfl) trivial rfl rfl fun a hs => ?_
    refine w_store (m := 1) (cs' := [.slice none ([] : List Stage).length 0]) hs hw 4 rfl rfl rfl Try.sizeOf37 rfl rfl rfl rfl trivial ?_
    intro a w hs hw
    refine st_val hs (y_assign rfl) trivial rfl rfl fun a hs => ?_
    refine wpList_nil ?_
    refine then_normal ?_
    have hsh := Option.some.inj hsh
    subst hsh
    have hw := hw.nilRow Stage 26
    refine wp_ret ?_
    refine then_ret ?_
    exact ret2 hs rfl (rv_cell hw 5 rfl rfl Try.isAgg37 Try.sizeOf37 rfl) (rv_tmp rfl) (hw.ret ⟨none, 0, [], rfl, (hw.outs [0] (by decide) rfl), (hw.envAt 0 rfl)⟩)
   ·have hsh := ite_f hsh h73
    refine wp_skip ?_
    refine then_normal ?_
    refine wp_seq ?_
    refine wp_region_lit ?_
    refine st_val hs (y_loadBA (hw.ownAt 0 rfl) rfl Try.isAgg37 Try.sizeOf37 rfl rfl) trivial rfl rfl fun a hs => ?_
    refine w_store (m := 1) (cs' := [.slice p54 rv53.length k55]) hs hw 4 rfl rfl rfl Try.sizeOf37 rfl rfl rfl rfl trivial ?_
    intro a w hs hw
    refine st_val hs (y_assign rfl) trivial rfl rfl fun a hs => ?_
    refine wpList_nil ?_
    refine then_normal ?_
    have hsh := Option.some.inj hsh
    subst hsh
    refine wp_ret ?_
    exact ret2 hs rfl (rv_cell hw 4 rfl rfl Try.isAgg37 Try.sizeOf37 rfl) (rv_tmp rfl) (hw.ret ⟨p54, k55, c57, rfl, (hw.outs [1] (by decide) rfl), (hw.envAt 0 rfl)⟩)

abbrev response_Factor_rd (w0 : World) (X : List Nat) (r : (Int × Int)) : (Nat → Prop) → World → Value → Prop := fun S w v => v = .tuple #[.int .i64 r.1, .int .i64 r.2]
set_option maxHeartbeats 4000000 in
set_option maxRecDepth 100000 in
theorem response_Factor_ok {w0 : World} {S0 : Nat → Prop} {p2 : Option Addr} {k3 : Nat} {r1 : Response} {r : (Int × Int)} (hsh : response_Factor r1 = some r) (hS : ∀ b, S0 b → b < w0.heap.size) (h4 : (SlA p2 r1.Stages.length k3 r1.Stages).p S0 w0) : Calls Try.prog 18 #[.agg #[.slice p2 r1.Stages.length k3]] w0 (Ret ([]) w0 S0 (response_Factor_rd w0 ([]) r)) := by
 refine calls_of_wp Try.func18 rfl ?_
 have hs := Sl.enter #[.agg #[.slice p2 r1.Stages.length k3]] 10 [(0, .agg #[.slice p2 r1.Stages.length k3])] rfl ⟨rfl, trivial⟩
 have hw := Wd.enter (E := []) hS (fun _ h => (by cases h))
 have hw := hw.addE h4
 delta response_Factor at hsh
 refine wp_seq ?_
 refine wp_region_lit ?_
 refine w_box (cs := [.slice p2 r1.Stages.length k3]) hs hw rfl rfl rfl trivial ?_
 intro b5 a w hs hw
 refine st_val hs (y_assign rfl) trivial rfl rfl fun a hs => ?_
 refine st_val hs (y_assign rfl) trivial rfl rfl fun a hs => ?_
 refine wpList_nil ?_
 refine then_normal ?_
 refine wp_seq ?_
 refine wp_seq ?_
 refine wp_region_lit ?_
 refine st_val hs (y_loadBA (hw.ownAt 0 rfl) rfl Try.isAgg37 Try.sizeOf37 rfl rfl) trivial rfl rfl fun a hs => ?_
 obtain ⟨rv7, h6, hsh⟩ := bind_t hsh
 refine st_callR hs (response_Valid_ok h6 hw.bdom (hw.bE 0 rfl)) (do_call Try.call33 rfl) trivial rfl rfl ?_
 intro v11 Sv8 w a h9 h10 hs
 subst h10
 have hw := hw.callB h9
 refine st_val hs (y_not rfl) trivial rfl rfl fun a hs => ?_
 refine wpList_nil ?_
 refine then_normal ?_
 refine wp_cond_split (hs.ev rfl) (fun h14 => ?_) (fun h14 => ?_)
 ·have hsh := ite_t hsh h14
  refine wp_seq ?_
  refine wp_region_lit ?_
  refine st_val hs (y_assign rfl) trivial rfl rfl fun a hs => ?_
  refine st_val hs (y_assign rfl) trivial rfl rfl fun a hs => ?_
  refine wpList_nil ?_
  refine then_normal ?_
  have hsh := Option.some.inj hsh
  subst hsh
  refine wp_ret ?_
  refine then_ret ?_
  exact ret2 hs rfl (rv_tmp rfl) (rv_tmp rfl) (hw.ret rfl)
 ·have hsh := ite_f hsh h14
  refine wp_skip ?_
  refine then_normal ?_
  refine wp_seq ?_
  refine wp_region_lit ?_
  refine st_val hs (y_fieldAddr (o' := 0) Try.runUnderlying37 rfl Try.sizeOf35 rfl rfl rfl) trivial rfl rfl fun a hs => ?_
  refine st_val hs (y_loadB1 (hw.ownAt 0 rfl) rfl Try.isAgg35 rfl) trivial rfl rfl fun a hs => ?_
  obtain ⟨rv16, h15, hsh⟩ := bind_t hsh
  refine st_callR hs (response_factor_ok h15 hw.bdom (hw.bE 0 rfl)) (do_call Try.call51 rfl) trivial rfl rfl ?_
  intro v20 Sv17 w a h18 h19 hs
  subst h19
  have hw := hw.callB h18
  refine st_val hs (y_assign rfl) trivial rfl rfl fun a hs => ?_
  refine st_val hs (y_assign rfl) trivial rfl rfl fun a hs => ?_
  refine wpList_nil ?_
  refine then_normal ?_
  have hsh := Option.some.inj hsh
  subst hsh
  refine wp_ret ?_
  exact ret2 hs rfl (rv_tmp rfl) (rv_tmp rfl) (hw.ret rfl)

abbrev response_Input_rd (w0 : World) (X : List Nat) (r : (Rate × Int)) : (Nat → Prop) → World → Value → Prop := fun S w v => v = .tuple #[.agg #[.int .i64 r.1.Num, .int .i64 r.1.Den], .int .i64 r.2]
set_option maxHeartbeats 4000000 in
set_option maxRecDepth 100000 in
theorem response_Input_ok {w0 : World} {S0 : Nat → Prop} {p2 : Option Addr} {k3 : Nat} {r1 : Response} {out5 : Rate} {r : (Rate × Int)} (hsh : response_Input r1 out5 = some r) (hS : ∀ b, S0 b → b < w0.heap.size) (h4 : (SlA p2 r1.Stages.length k3 r1.Stages).p S0 w0) : Calls Try.prog 19 #[.agg #[.slice p2 r1.Stages.length k3], .agg #[.int .i64 out5.Num, .int .i64 out5.Den]] w0 (Ret ([]) w0 S0 (response_Input_rd w0 ([]) r)) := by
 refine calls_of_wp Try.func19 rfl ?_
 have hs := Sl.enter #[.agg #[.slice p2 r1.Stages.length k3], .agg #[.int .i64 out5.Num, .int .i64 out5.Den]] 29 [(0, .agg #[.slice p2 r1.Stages.length k3]), (1, .agg #[.int .i64 out5.Num, .int .i64 out5.Den])] rfl ⟨rfl, rfl, trivial⟩
 have hw := Wd.enter (E := []) hS (fun _ h => (by cases h))
 have hw := hw.addE h4
 delta response_Input at hsh
 refine wp_seq ?_
 refine wp_region_lit ?_
 refine w_box (cs := [.slice p2 r1.Stages.length k3]) hs hw rfl rfl rfl trivial ?_
 intro b6 a w hs hw
 refine w_box (cs := [.int .i64 out5.Num, .int .i64 out5.Den]) hs hw rfl rfl rfl trivial ?_
 intro b7 a w hs hw
 refine w_alloc (cs := [.int .i64 0, .int .i64 0]) hs hw Try.zeroValue51 rfl rfl trivial ?_
 intro b8 a w hs hw
 refine st_val hs (y_assign rfl) trivial rfl rfl fun a hs => ?_
 refine wpList_nil ?_
 refine then_normal ?_
 refine wp_seq ?_
 refine wp_seq ?_
 refine wp_region_lit ?_
 refine st_val hs (y_loadBA (hw.ownAt 2 rfl) rfl Try.isAgg37 Try.sizeOf37 rfl rfl) trivial rfl rfl fun a hs => ?_
 obtain ⟨rv10, h9, hsh⟩ := bind_t hsh
 refine st_callR hs (response_Valid_ok h9 hw.bdom (hw.bE 0 rfl)) (do_call Try.call33 rfl) trivial rfl rfl ?_
 intro v14 Sv11 w a h12 h13 hs
 subst h13
 have hw := hw.callB h12
 refine st_val hs (y_not rfl) trivial rfl rfl fun a hs => ?_
 refine st_val hs (y_move rfl) trivial rfl rfl fun a hs => ?_
 obtain ⟨c24, hc24, hsh⟩ := bind_t hsh
 refine wpl_join 4 (fun a w => ∃ (Sv25 : Nat → Prop), Sl 29 [(2, .pointer (some ⟨b6, 0, none⟩)), (3, .pointer (some ⟨b7, 0, none⟩)), (4, .pointer (some ⟨b8, 0, none⟩)), (15, .bool c24)] a ∧ Wd ⟨w0, S0, []⟩ Sv25 [.box b6 [.slice p2 r1.Stages.length k3] 37, .box b7 [.int .i64 out5.Num, .int .i64 out5.Den] 51, .box b8 [.int .i64 0, .int .i64 0] 51] [SlA p2 r1.Stages.length k3 r1.Stages] w) ?_ ?_
 ·rcases Bool.eq_false_or_eq_true (!rv10) with h23 | h23
  ·have hs := hs.fix 11 (.bool true) rfl (vb h23)
   have hsh := ite_t hc24 h23
   refine st_skip hs rfl rfl rfl rfl rfl fun a hs => ?_
   refine st_skip hs rfl rfl rfl rfl rfl fun a hs => ?_
   refine st_skip hs rfl rfl rfl rfl rfl fun a hs => ?_
   refine st_val hs (y_pickT rfl rfl) trivial rfl rfl fun a hs => ?_
   refine wpList_nil ?_
   have hsh := Option.some.inj hsh
   subst hsh
   refine then_normal ?_
   exact ⟨S0, (hs.wk rfl), (hw.ft [2, 1, 0] [0] (by decide) rfl rfl)⟩
  ·have hs := hs.fix 11 (.bool false) rfl (vb h23)
   have hsh := ite_f hc24 h23
   refine st_val hs (y_loadBA (hw.ownAt 1 rfl) rfl Try.isAgg51 Try.sizeOf51 rfl rfl) ⟨_, rfl, rfl⟩ rfl rfl fun a hs => ?_
   obtain ⟨rv27, h26, hsh⟩ := bind_t hsh
   refine st_callR hs (rate_Valid_ok h26 hw.bdom) (do_call Try.call52 rfl) ⟨_, rfl, rfl⟩ rfl rfl ?_
   intro v31 Sv28 w a h29 h30 hs
   subst h30
   have hw := hw.callB h29
   refine st_val hs (y_not rfl) ⟨_, rfl, rfl⟩ rfl rfl fun a hs => ?_
   refine st_val hs (y_pickF rfl rfl) trivial rfl rfl fun a hs => ?_
   refine wpList_nil ?_
   have hsh := Option.some.inj hsh
   subst hsh
   refine then_normal ?_
   exact ⟨S0, (hs.wk rfl), (hw.ft [2, 1, 0] [0] (by decide) rfl rfl)⟩
 ·rintro a w ⟨Sv25, hs, hw⟩
  refine wpList_nil ?_
  refine then_normal ?_
  refine wp_cond_split (hs.ev rfl) (fun h34 => ?_) (fun h34 => ?_)
  ·have hsh := ite_t hsh h34
   refine wp_seq ?_
   refine wp_region_lit ?_
   refine st_val hs (y_build (vs := []) Bld51 rfl rfl) trivial rfl rfl fun a hs => ?_
   refine w_store (m := 2) (cs' := [.int .i64 0, .int .i64 0]) hs hw 2 rfl rfl rfl Try.sizeOf51 rfl rfl rfl rfl trivial ?_
   intro a w hs hw
   refine st_val hs (y_assign rfl) trivial rfl rfl fun a hs => ?_
   refine wpList_nil ?_
   refine then_normal ?_
   have hsh := Option.some.inj hsh
   subst hsh
   refine wp_ret ?_
   refine then_ret ?_
   exact ret2 hs rfl (rv_cell hw 2 rfl rfl Try.isAgg51 Try.sizeOf51 rfl) (rv_tmp rfl) (hw.ret rfl)
  ·have hsh := ite_f hsh h34
   refine wp_skip ?_
   refine then_normal ?_
   refine wp_seq ?_
   obtain ⟨rv36, h35, hsh⟩ := bind_t hsh
   obtain ⟨rv38, h37, hsh⟩ := bind_t hsh
   refine wp_only (fun a w => ∃ (Sv40 : Nat → Prop) (b39 : Nat), Sl 29 [(4, .pointer (some ⟨b8, 0, none⟩)), (6, .pointer (some ⟨b39, 0, none⟩)), (7, .bool rv38.2)] a ∧ Wd ⟨w0, S0, []⟩ Sv40 [.box b8 [.int .i64 0, .int .i64 0] 51, .box b39 [.int .i64 rv38.1.Num, .int .i64 rv38.1.Den] 51] [] w) ?_ ?_
   ·refine h_b (C := Cls [.box b6 [.slice p2 r1.Stages.length k3] 37, .box b7 [.int .i64 out5.Num, .int .i64 out5.Den] 51, .box b8 [.int .i64 0, .int .i64 0] 51] []) (by kernel_rfl) rfl (hw.drew.cs [0, 1, 2] [] rfl rfl) fun hC => ?_
    have hw := hw.drew
    refine h_g hs 0 rfl (by kernel_rfl) rfl rfl hC rfl (fun w hC => y_loadBA (hC.ownAt 1 rfl) rfl Try.isAgg51 Try.sizeOf51 rfl rfl) fun a hs => ?_
    refine h_g hs 1 rfl (by kernel_rfl) rfl rfl hC rfl (fun w hC => y_fieldAddr (o' := 0) Try.runUnderlying37 rfl Try.sizeOf35 rfl rfl rfl) fun a hs => ?_
    refine h_g hs 2 rfl (by kernel_rfl) rfl rfl hC rfl (fun w hC => y_loadB1 (hC.ownAt 0 rfl) rfl Try.isAgg35 rfl) fun a hs => ?_
    refine h_all (rs := [3, 8]) (by kernel_rfl) rfl ?_
    refine AllH.cons rfl ?_ ?_
    ·refine st_callR hs (response_factor_ok h35 hw.bdom (hw.bE 0 rfl)) (do_call Try.call51 rfl) trivial rfl rfl ?_
     intro v44 Sv41 w a h42 h43 hs
     subst h43
     have hw := hw.callB h42
     refine h_nx (hw.cs [0, 1, 2] [] rfl rfl) fun hC => ?_
     refine h_all (rs := [4, 8]) (by kernel_rfl) rfl ?_
     refine AllH.cons rfl ?_ ?_
     ·refine st_callR hs (response_faster_ok h37 hw.bdom) (do_call Try.call53 rfl) trivial rfl rfl ?_
      intro v49 Sv46 w a h47 h48 hs
      subst h48
      have hw := hw.callB h47
      refine h_nx (hw.cs [0, 1, 2] [] rfl rfl) fun hC => ?_
      refine h_g hs 5 rfl (by kernel_rfl) rfl rfl hC rfl (fun w hC => y_move rfl) fun a hs => ?_
      refine h_g hs 6 rfl (by kernel_rfl) rfl rfl hC rfl (fun w hC => y_extract rfl rfl) fun a hs => ?_
      refine h_g hs 7 rfl (by kernel_rfl) rfl rfl hC rfl (fun w hC => y_extract rfl rfl) fun a hs => ?_
      refine h_one (i := 8) (by kernel_rfl) rfl ?_
      refine w_alloc (cs := [.int .i64 0, .int .i64 0]) hs hw Try.zeroValue51 rfl rfl trivial ?_
      intro b39 a w hs hw
      refine h_nx (hw.cs [1, 2, 3] [] rfl rfl) fun hC => ?_
      refine h_one (i := 9) (by kernel_rfl) rfl ?_
      refine w_store (m := 2) (cs' := [.int .i64 rv38.1.Num, .int .i64 rv38.1.Den]) hs hw 0 rfl rfl rfl Try.sizeOf51 rfl rfl rfl rfl trivial ?_
      intro a w hs hw
      refine h_nx (hw.cs [1, 2, 3] [] rfl rfl) fun hC => ?_
      refine h_g hs 10 rfl (by kernel_rfl) rfl rfl hC rfl (fun w hC => y_assign rfl) fun a hs => ?_
      refine h_done (by kernel_rfl) ?_
      exact ⟨Sv25, b39, (hs.wk rfl), (hw.ft [3, 0] [] (by decide) rfl rfl)⟩
     refine AllH.cons rfl ?_ ?_
     ·refine w_alloc (cs := [.int .i64 0, .int .i64 0]) hs hw Try.zeroValue51 rfl rfl trivial ?_
      intro b39 a w hs hw
      refine h_nx (hw.cs [1, 2, 3] [] rfl rfl) fun hC => ?_
      refine h_one (i := 4) (by kernel_rfl) rfl ?_
      refine st_callR hs (response_faster_ok h37 hw.bdom) (do_call Try.call53 rfl) trivial rfl rfl ?_
      intro v54 Sv51 w a h52 h53 hs
      subst h53
      have hw := hw.callB h52
      refine h_nx (hw.cs [1, 2, 3] [] rfl rfl) fun hC => ?_
      refine h_g hs 5 rfl (by kernel_rfl) rfl rfl hC rfl (fun w hC => y_move rfl) fun a hs => ?_
      refine h_g hs 6 rfl (by kernel_rfl) rfl rfl hC rfl (fun w hC => y_extract rfl rfl) fun a hs => ?_
      refine h_g hs 7 rfl (by kernel_rfl) rfl rfl hC rfl (fun w hC => y_extract rfl rfl) fun a hs => ?_
      refine h_one (i := 9) (by kernel_rfl) rfl ?_
      refine w_store (m := 2) (cs' := [.int .i64 rv38.1.Num, .int .i64 rv38.1.Den]) hs hw 0 rfl rfl rfl Try.sizeOf51 rfl rfl rfl rfl trivial ?_
      intro a w hs hw
      refine h_nx (hw.cs [1, 2, 3] [] rfl rfl) fun hC => ?_
      refine h_g hs 10 rfl (by kernel_rfl) rfl rfl hC rfl (fun w hC => y_assign rfl) fun a hs => ?_
      refine h_done (by kernel_rfl) ?_
      exact ⟨Sv25, b39, (hs.wk rfl), (hw.ft [3, 0] [] (by decide) rfl rfl)⟩
     exact AllH.nil
    refine AllH.cons rfl ?_ ?_
    ·refine w_alloc (cs := [.int .i64 0, .int .i64 0]) hs hw Try.zeroValue51 rfl rfl trivial ?_
     intro b39 a w hs hw
     refine h_nx (hw.cs [1, 2, 3] [] rfl rfl) fun hC => ?_
     refine h_one (i := 3) (by kernel_rfl) rfl ?_
     refine st_callR hs (response_factor_ok h35 hw.bdom (hw.bE 0 rfl)) (do_call Try.call51 rfl) trivial rfl rfl ?_
     intro v59 Sv56 w a h57 h58 hs
     subst h58
     have hw := hw.callB h57
     refine h_nx (hw.cs [1, 2, 3] [] rfl rfl) fun hC => ?_
     refine h_one (i := 4) (by kernel_rfl) rfl ?_
     refine st_callR hs (response_faster_ok h37 hw.bdom) (do_call Try.call53 rfl) trivial rfl rfl ?_
     intro v64 Sv61 w a h62 h63 hs
     subst h63
     have hw := hw.callB h62
     refine h_nx (hw.cs [1, 2, 3] [] rfl rfl) fun hC => ?_
     refine h_g hs 5 rfl (by kernel_rfl) rfl rfl hC rfl (fun w hC => y_move rfl) fun a hs => ?_
     refine h_g hs 6 rfl (by kernel_rfl) rfl rfl hC rfl (fun w hC => y_extract rfl rfl) fun a hs => ?_
     refine h_g hs 7 rfl (by kernel_rfl) rfl rfl hC rfl (fun w hC => y_extract rfl rfl) fun a hs => ?_
     refine h_one (i := 9) (by kernel_rfl) rfl ?_
     refine w_store (m := 2) (cs' := [.int .i64 rv38.1.Num, .int .i64 rv38.1.Den]) hs hw 0 rfl rfl rfl Try.sizeOf51 rfl rfl rfl rfl trivial ?_
     intro a w hs hw
     refine h_nx (hw.cs [1, 2, 3] [] rfl rfl) fun hC => ?_
     refine h_g hs 10 rfl (by kernel_rfl) rfl rfl hC rfl (fun w hC => y_assign rfl) fun a hs => ?_
     refine h_done (by kernel_rfl) ?_
     exact ⟨Sv25, b39, (hs.wk rfl), (hw.ft [3, 0] [] (by decide) rfl rfl)⟩
    exact AllH.nil
   ·rintro a w ⟨Sv40, b39, hs, hw⟩
    refine then_normal ?_
    refine wp_seq ?_
    refine wp_seq ?_
    refine wp_region_lit ?_
    refine st_val hs (y_move rfl) trivial rfl rfl fun a hs => ?_
    refine st_val hs (y_not rfl) trivial rfl rfl fun a hs => ?_
    refine wpList_nil ?_
    refine then_normal ?_
    refine wp_cond_split (hs.ev rfl) (fun h67 => ?_) (fun h67 => ?_)
    ·have hsh := ite_t hsh h67
     refine wp_seq ?_
     refine wp_region_lit ?_
     refine st_val hs (y_build (vs := []) Bld51 rfl rfl) trivial rfl rfl fun a hs => ?_
     refine w_store (m := 2) (cs' := [.int .i64 0, .int .i64 0]) hs hw 0 rfl rfl rfl Try.sizeOf51 rfl rfl rfl rfl trivial ?_
     intro a w hs hw
     refine st_val hs (y_assign rfl) trivial rfl rfl fun a hs => ?_
     refine wpList_nil ?_
     refine then_normal ?_
     have hsh := Option.some.inj hsh
     subst hsh
     refine wp_ret ?_
     refine then_ret ?_
     exact ret2 hs rfl (rv_cell hw 0 rfl rfl Try.isAgg51 Try.sizeOf51 rfl) (rv_tmp rfl) (hw.ret rfl)
    ·have hsh := ite_f hsh h67
     refine wp_skip ?_
     refine then_normal ?_
     refine wp_seq ?_
     refine wp_region_lit ?_
     refine st_val hs (y_loadBA (hw.ownAt 1 rfl) rfl Try.isAgg51 Try.sizeOf51 rfl rfl) trivial rfl rfl fun a hs => ?_
     refine w_store (m := 2) (cs' := [.int .i64 rv38.1.Num, .int .i64 rv38.1.Den]) hs hw 0 rfl rfl rfl Try.sizeOf51 rfl rfl rfl rfl trivial ?_
     intro a w hs hw
     refine st_val hs (y_assign rfl) trivial rfl rfl fun a hs => ?_
     refine wpList_nil ?_
     refine then_normal ?_
     have hsh := Option.some.inj hsh
     subst hsh
     refine wp_ret ?_
     exact ret2 hs rfl (rv_cell hw 0 rfl rfl Try.isAgg51 Try.sizeOf51 rfl) (rv_tmp rfl) (hw.ret rfl)

abbrev law18_ResponseRates_rd (w0 : World) (X : List Nat) (r : Bool) : (Nat → Prop) → World → Value → Prop := fun S w v => v = .bool r
set_option maxHeartbeats 4000000 in
set_option maxRecDepth 100000 in
theorem law18_ResponseRates_ok {w0 : World} {S0 : Nat → Prop} {p2 : Option Addr} {k3 : Nat} {t1 : (List Int)} {r : Bool} (hsh : law18_ResponseRates t1 = some r) (hS : ∀ b, S0 b → b < w0.heap.size) (h4 : (SlA p2 t1.length k3 t1).p S0 w0) : Calls Try.prog 5 #[.slice p2 t1.length k3] w0 (Ret ([]) w0 S0 (law18_ResponseRates_rd w0 ([]) r)) := by
 refine calls_of_wp Try.func5 rfl ?_
 have hs := Sl.enter #[.slice p2 t1.length k3] 183 [(0, .slice p2 t1.length k3)] rfl ⟨rfl, trivial⟩
 have hw := Wd.enter (E := []) hS (fun _ h => (by cases h))
 have hw := hw.addE h4
 delta law18_ResponseRates at hsh
 refine wp_seq ?_
 refine wp_region_lit ?_
 refine st_val hs (y_assign rfl) trivial rfl rfl fun a hs => ?_
 refine wpList_nil ?_
 refine then_normal ?_
 refine wp_seq ?_
 refine wp_seq ?_
 refine wp_region_lit ?_
 refine st_val hs (y_move rfl) trivial rfl rfl fun a hs => ?_
 obtain ⟨rv6, h5, hsh⟩ := bind_t hsh
 refine st_callR hs (made_Light_ok h5 hw.bdom (hw.bE 0 rfl)) (do_call Try.call13 rfl) trivial rfl rfl ?_
 intro v10 Sv7 w a h8 h9 hs
 subst h9
 have hw := hw.callB h8
 refine st_val hs (y_not rfl) trivial rfl rfl fun a hs => ?_
 refine wpList_nil ?_
 refine then_normal ?_
 refine wp_cond_split (hs.ev rfl) (fun h20 => ?_) (fun h20 => ?_)
 ·have hsh := ite_t hsh h20
  refine wp_seq ?_
  refine wp_region_lit ?_
  obtain ⟨rv22, h21, hsh⟩ := bind_t hsh
  refine st_callR hs (law18_sane_ok h21 hw.bdom) (do_call Try.call8 rfl) trivial rfl rfl ?_
  intro v26 Sv23 w a h24 h25 hs
  subst h25
  have hw := hw.callB h24
  refine st_val hs (y_assign rfl) trivial rfl rfl fun a hs => ?_
  refine wpList_nil ?_
  refine then_normal ?_
  have hsh := Option.some.inj hsh
  subst hsh
  refine wp_ret ?_
  refine then_ret ?_
  exact ret1 hs rfl (rv_tmp rfl) (hw.ret rfl)
 ·have hsh := ite_f hsh h20
  refine wp_skip ?_
  refine then_normal ?_
  refine wp_seq ?_
  refine wp_region_lit ?_
  refine st_val hs (y_move rfl) trivial rfl rfl fun a hs => ?_
  obtain ⟨rv29, h28, hsh⟩ := bind_t hsh
  refine st_callR hs (made_Roll_ok h28 hw.dom (hw.envAt 0 rfl)) (do_call Try.call14 rfl) trivial rfl rfl ?_
  intro v37 Sv34 w a h35 h36 hs
  obtain ⟨b30, p31, k32, rfl, h38, h33⟩ := h36
  have hw := hw.callN h35 h38
  have hw := hw.addE (e := SlA p31 rv29.L.length k32 rv29.L) h33
  refine st_val hs (y_assign rfl) trivial rfl rfl fun a hs => ?_
  refine wpList_nil ?_
  refine then_normal ?_
  refine wp_seq ?_
  refine wp_region_lit ?_
  refine st_val hs (y_move rfl) trivial rfl rfl fun a hs => ?_
  obtain ⟨rv40, h39, hsh⟩ := bind_t hsh
  refine st_callR hs (made_Dice_Response_ok h39 hw.dom (hw.ins [0] (by decide) rfl) (hw.envAt 0 rfl)) (do_call Try.call15 rfl) trivial rfl rfl ?_
  intro v51 Sv48 w a h49 h50 hs
  obtain ⟨p41, k42, c44, p45, k46, rfl, h52, h43, h47⟩ := h50
  have hw := hw.callO [0] [] (by decide) rfl h49 h52
  have hw := hw.addE (e := RowA c44 rv40.1.Stages) h43
  have hw := hw.addE (e := SlA p45 rv40.2.L.length k46 rv40.2.L) h47
  refine st_val hs (y_move rfl) trivial rfl rfl fun a hs => ?_
  obtain ⟨rv54, h53, hsh⟩ := bind_t hsh
  refine st_callR hs (made_Dice_Response_ok h53 hw.dom (hw.ins [1] (by decide) rfl) (hw.envAt 0 rfl)) (do_call Try.call15 rfl) trivial rfl rfl ?_
  intro v65 Sv62 w a h63 h64 hs
  obtain ⟨p55, k56, c58, p59, k60, rfl, h66, h57, h61⟩ := h64
  have hw := hw.callO [1] [0] (by decide) rfl h63 h66
  have hw := hw.addE (e := RowA c58 rv54.1.Stages) h57
  have hw := hw.addE (e := SlA p59 rv54.2.L.length k60 rv54.2.L) h61
  refine st_val hs (y_move rfl) trivial rfl rfl fun a hs => ?_
  obtain ⟨rv68, h67, hsh⟩ := bind_t hsh
  refine st_callR hs (made_Dice_Rate_ok h67 hw.dom (hw.ins [1] (by decide) rfl) (hw.envAt 0 rfl)) (do_call Try.call17 rfl) trivial rfl rfl ?_
  intro v75 Sv72 w a h73 h74 hs
  obtain ⟨p69, k70, rfl, h76, h71⟩ := h74
  have hw := hw.callO [1] [0, 2] (by decide) rfl h73 h76
  have hw := hw.addE (e := SlA p69 rv68.2.L.length k70 rv68.2.L) h71
  refine w_alloc (cs := [.slice none ([] : List Stage).length 0]) hs hw Try.zeroValue37 rfl rfl trivial ?_
  intro b77 a w hs hw
  refine w_alloc (cs := [.slice none ([] : List Stage).length 0]) hs hw Try.zeroValue37 rfl rfl trivial ?_
  intro b78 a w hs hw
  refine w_alloc (cs := [.int .i64 0, .int .i64 0]) hs hw Try.zeroValue51 rfl rfl trivial ?_
  intro b79 a w hs hw
  refine w_store (m := 1) (cs' := [.slice p41 rv40.1.Stages.length k42]) hs hw 2 rfl rfl rfl Try.sizeOf37 rfl rfl rfl rfl trivial ?_
  intro a w hs hw
  refine w_store (m := 1) (cs' := [.slice p55 rv54.1.Stages.length k56]) hs hw 1 rfl rfl rfl Try.sizeOf37 rfl rfl rfl rfl trivial ?_
  intro a w hs hw
  refine w_store (m := 2) (cs' := [.int .i64 rv68.1.Num, .int .i64 rv68.1.Den]) hs hw 0 rfl rfl rfl Try.sizeOf51 rfl rfl rfl rfl trivial ?_
  intro a w hs hw
  refine wpList_nil ?_
  refine then_normal ?_
  refine wp_seq ?_
  refine wp_region_lit ?_
  refine st_val hs (y_loadBA (hw.ownAt 2 rfl) rfl Try.isAgg37 Try.sizeOf37 rfl rfl) trivial rfl rfl fun a hs => ?_
  refine st_val hs (y_loadBA (hw.ownAt 1 rfl) rfl Try.isAgg37 Try.sizeOf37 rfl rfl) trivial rfl rfl fun a hs => ?_
  obtain ⟨rv81, h80, hsh⟩ := bind_t hsh
  obtain ⟨Sv86, hw⟩ := w_share (α := Stage) hw 5 rfl 4 rfl
  obtain ⟨Sv87, hw⟩ := w_share (α := Stage) hw 4 rfl 3 rfl
  refine st_callR hs (response_Join_ok h80 hw.dom (hw.envAt 1 rfl) (hw.envAt 0 rfl)) (do_call Try.call16 rfl) trivial rfl rfl ?_
  intro v91 Sv88 w a h89 h90 hs
  obtain ⟨p82, k83, c85, rfl, h92, h84⟩ := h90
  have hw := hw.callN h89 h92
  have hw := hw.addE (e := RowA c85 rv81.1.Stages) h84
  refine st_val hs (y_move rfl) trivial rfl rfl fun a hs => ?_
  refine st_val hs (y_extract rfl rfl) trivial rfl rfl fun a hs => ?_
  refine st_val hs (y_extract rfl rfl) trivial rfl rfl fun a hs => ?_
  refine w_alloc (cs := [.slice none ([] : List Stage).length 0]) hs hw Try.zeroValue37 rfl rfl trivial ?_
  intro b93 a w hs hw
  refine w_store (m := 1) (cs' := [.slice p82 rv81.1.Stages.length k83]) hs hw 0 rfl rfl rfl Try.sizeOf37 rfl rfl rfl rfl trivial ?_
  intro a w hs hw
  refine st_val hs (y_assign rfl) trivial rfl rfl fun a hs => ?_
  refine wpList_nil ?_
  refine then_normal ?_
  refine wp_seq ?_
  refine wp_seq ?_
  refine wp_region_lit ?_
  refine st_val hs (y_move rfl) trivial rfl rfl fun a hs => ?_
  refine st_val hs (y_neq rfl rfl) trivial rfl rfl fun a hs => ?_
  refine wpList_nil ?_
  refine then_normal ?_
  refine wp_cond_split (hs.ev rfl) (fun h112 => ?_) (fun h112 => ?_)
  ·have hsh := ite_t hsh h112
   refine wp_seq ?_
   refine wp_region_lit ?_
   refine st_val hs (y_move rfl) trivial rfl rfl fun a hs => ?_
   refine st_val hs (y_eql rfl rfl) trivial rfl rfl fun a hs => ?_
   refine st_val hs (y_move rfl) trivial rfl rfl fun a hs => ?_
   obtain ⟨c121, hc121, hsh⟩ := bind_t hsh
   refine wpl_join 2 (fun a w => ∃ (Sv122 : Nat → Prop), Sl 183 [(51, .bool c121)] a ∧ Wd ⟨w0, S0, []⟩ Sv122 [] [] w) ?_ ?_
   ·rcases Bool.eq_false_or_eq_true (rv81.2 == 8) with h120 | h120
    ·have hs := hs.fix 49 (.bool true) rfl (vb h120)
     have hsh := ite_t hc121 h120
     obtain ⟨rv124, h123, hsh⟩ := bind_t hsh
     refine st_callR hs (law18_sane_ok h123 hw.bdom) (do_call Try.call8 rfl) ⟨_, rfl, rfl⟩ rfl rfl ?_
     intro v128 Sv125 w a h126 h127 hs
     subst h127
     have hw := hw.callB h126
     refine st_val hs (y_pickT rfl rfl) trivial rfl rfl fun a hs => ?_
     refine wpList_nil ?_
     have hsh := Option.some.inj hsh
     subst hsh
     refine then_normal ?_
     exact ⟨Sv88, (hs.wk rfl), (hw.ft [] [] (by decide) rfl rfl)⟩
    ·have hs := hs.fix 49 (.bool false) rfl (vb h120)
     have hsh := ite_f hc121 h120
     refine st_skip hs rfl rfl rfl rfl rfl fun a hs => ?_
     refine st_val hs (y_pickF rfl rfl) trivial rfl rfl fun a hs => ?_
     refine wpList_nil ?_
     have hsh := Option.some.inj hsh
     subst hsh
     refine then_normal ?_
     exact ⟨Sv88, (hs.wk rfl), (hw.ft [] [] (by decide) rfl rfl)⟩
   ·rintro a w ⟨Sv122, hs, hw⟩
    refine st_val hs (y_assign rfl) trivial rfl rfl fun a hs => ?_
    refine wpList_nil ?_
    refine then_normal ?_
    have hsh := Option.some.inj hsh
    subst hsh
    refine wp_ret ?_
    refine then_ret ?_
    exact ret1 hs rfl (rv_tmp rfl) (hw.ret rfl)
  ·have hsh := ite_f hsh h112
   refine wp_skip ?_
   refine then_normal ?_
   refine wp_seq ?_
   refine wp_region_lit ?_
   refine st_val hs (y_loadBA (hw.ownAt 4 rfl) rfl Try.isAgg37 Try.sizeOf37 rfl rfl) trivial rfl rfl fun a hs => ?_
   obtain ⟨rv131, h130, hsh⟩ := bind_t hsh
   refine st_callR hs (response_Factor_ok h130 hw.bdom (hw.bE 2 rfl)) (do_call Try.call18 rfl) trivial rfl rfl ?_
   intro v135 Sv132 w a h133 h134 hs
   subst h134
   have hw := hw.callB h133
   refine st_val hs (y_move rfl) trivial rfl rfl fun a hs => ?_
   refine st_val hs (y_extract rfl rfl) trivial rfl rfl fun a hs => ?_
   refine st_val hs (y_extract rfl rfl) trivial rfl rfl fun a hs => ?_
   refine st_val hs (y_assign rfl) trivial rfl rfl fun a hs => ?_
   refine st_val hs (y_assign rfl) trivial rfl rfl fun a hs => ?_
   refine wpList_nil ?_
   refine then_normal ?_
   refine wp_seq ?_
   refine wp_region_lit ?_
   refine st_val hs (y_loadBA (hw.ownAt 3 rfl) rfl Try.isAgg37 Try.sizeOf37 rfl rfl) trivial rfl rfl fun a hs => ?_
   obtain ⟨rv138, h137, hsh⟩ := bind_t hsh
   refine st_callR hs (response_Factor_ok h137 hw.bdom (hw.bE 1 rfl)) (do_call Try.call18 rfl) trivial rfl rfl ?_
   intro v142 Sv139 w a h140 h141 hs
   subst h141
   have hw := hw.callB h140
   refine st_val hs (y_move rfl) trivial rfl rfl fun a hs => ?_
   refine st_val hs (y_extract rfl rfl) trivial rfl rfl fun a hs => ?_
   refine st_val hs (y_extract rfl rfl) trivial rfl rfl fun a hs => ?_
   refine st_val hs (y_assign rfl) trivial rfl rfl fun a hs => ?_
   refine st_val hs (y_assign rfl) trivial rfl rfl fun a hs => ?_
   refine wpList_nil ?_
   refine then_normal ?_
   refine wp_seq ?_
   refine wp_region_lit ?_
   refine st_val hs (y_loadBA (hw.ownAt 0 rfl) rfl Try.isAgg37 Try.sizeOf37 rfl rfl) trivial rfl rfl fun a hs => ?_
   obtain ⟨rv145, h144, hsh⟩ := bind_t hsh
   refine st_callR hs (response_Factor_ok h144 hw.bdom (hw.bRow 1 rfl 0 rfl)) (do_call Try.call18 rfl) trivial rfl rfl ?_
   intro v149 Sv146 w a h147 h148 hs
   subst h148
   have hw := hw.callB h147
   refine st_val hs (y_move rfl) trivial rfl rfl fun a hs => ?_
   refine st_val hs (y_extract rfl rfl) trivial rfl rfl fun a hs => ?_
   refine st_val hs (y_extract rfl rfl) trivial rfl rfl fun a hs => ?_
   refine st_val hs (y_assign rfl) trivial rfl rfl fun a hs => ?_
   refine st_val hs (y_assign rfl) trivial rfl rfl fun a hs => ?_
   refine wpList_nil ?_
   refine then_normal ?_
   refine wp_seq ?_
   refine wp_region_lit ?_
   refine st_val hs (y_loadBA (hw.ownAt 3 rfl) rfl Try.isAgg37 Try.sizeOf37 rfl rfl) trivial rfl rfl fun a hs => ?_
   refine st_val hs (y_loadBA (hw.ownAt 2 rfl) rfl Try.isAgg51 Try.sizeOf51 rfl rfl) trivial rfl rfl fun a hs => ?_
   obtain ⟨rv152, h151, hsh⟩ := bind_t hsh
   refine st_callR hs (response_Input_ok h151 hw.bdom (hw.bE 1 rfl)) (do_call Try.call19 rfl) trivial rfl rfl ?_
   intro v156 Sv153 w a h154 h155 hs
   subst h155
   have hw := hw.callB h154
   refine st_val hs (y_move rfl) trivial rfl rfl fun a hs => ?_
   refine st_val hs (y_extract rfl rfl) trivial rfl rfl fun a hs => ?_
   refine st_val hs (y_extract rfl rfl) trivial rfl rfl fun a hs => ?_
   refine w_alloc (cs := [.int .i64 0, .int .i64 0]) hs hw Try.zeroValue51 rfl rfl trivial ?_
   intro b158 a w hs hw
   refine w_store (m := 2) (cs' := [.int .i64 rv152.1.Num, .int .i64 rv152.1.Den]) hs hw 0 rfl rfl rfl Try.sizeOf51 rfl rfl rfl rfl trivial ?_
   intro a w hs hw
   refine st_val hs (y_assign rfl) trivial rfl rfl fun a hs => ?_
   refine wpList_nil ?_
   refine then_normal ?_
   refine wp_seq ?_
   refine wp_region_lit ?_
   refine st_val hs (y_loadBA (hw.ownAt 1 rfl) rfl Try.isAgg37 Try.sizeOf37 rfl rfl) trivial rfl rfl fun a hs => ?_
   refine st_val hs (y_loadBA (hw.ownAt 3 rfl) rfl Try.isAgg51 Try.sizeOf51 rfl rfl) trivial rfl rfl fun a hs => ?_
   obtain ⟨rv160, h159, hsh⟩ := bind_t hsh
   refine st_callR hs (response_Input_ok h159 hw.bdom (hw.bRow 2 rfl 0 rfl)) (do_call Try.call19 rfl) trivial rfl rfl ?_
   intro v164 Sv161 w a h162 h163 hs
   subst h163
   have hw := hw.callB h162
   refine st_val hs (y_move rfl) trivial rfl rfl fun a hs => ?_
   refine st_val hs (y_extract rfl rfl) trivial rfl rfl fun a hs => ?_
   refine st_val hs (y_extract rfl rfl) trivial rfl rfl fun a hs => ?_
   refine w_alloc (cs := [.int .i64 0, .int .i64 0]) hs hw Try.zeroValue51 rfl rfl trivial ?_
   intro b166 a w hs hw
   refine w_store (m := 2) (cs' := [.int .i64 rv160.1.Num, .int .i64 rv160.1.Den]) hs hw 0 rfl rfl rfl Try.sizeOf51 rfl rfl rfl rfl trivial ?_
   intro a w hs hw
   refine st_val hs (y_assign rfl) trivial rfl rfl fun a hs => ?_
   refine wpList_nil ?_
   refine then_normal ?_
   refine wp_seq ?_
   refine wp_seq ?_
   refine wp_region_lit ?_
   refine st_val hs (y_move rfl) trivial rfl rfl fun a hs => ?_
   refine st_val hs (y_neq rfl rfl) trivial rfl rfl fun a hs => ?_
   refine st_val hs (y_move rfl) trivial rfl rfl fun a hs => ?_
   refine wpl_join 3 (fun a w1 => w = w1 ∧ Sl 183 [(4, .pointer (some ⟨b77, 0, none⟩)), (5, .pointer (some ⟨b78, 0, none⟩)), (6, .pointer (some ⟨b79, 0, none⟩)), (7, .pointer (some ⟨b93, 0, none⟩)), (9, .int .i64 rv131.1), (11, .int .i64 rv138.1), (13, .int .i64 rv145.1), (14, .int .i64 rv145.2), (15, .pointer (some ⟨b158, 0, none⟩)), (16, .int .i64 rv152.2), (17, .pointer (some ⟨b166, 0, none⟩)), (18, .int .i64 rv160.2), (84, .bool ((rv131.2 != 0) || (rv138.2 != 0)))] a) ?_ ?_
   ·rcases Bool.eq_false_or_eq_true (rv131.2 != 0) with h167 | h167
    ·have hs := hs.fix 81 (.bool true) rfl (vb h167)
     refine st_skip hs rfl rfl rfl rfl rfl fun a hs => ?_
     refine st_skip hs rfl rfl rfl rfl rfl fun a hs => ?_
     refine st_val hs (y_pickT rfl rfl) trivial rfl rfl fun a hs => ?_
     refine wpList_nil ?_
     refine then_normal ?_
     exact ⟨rfl, (hs.fix 84 (.bool ((rv131.2 != 0) || (rv138.2 != 0))) rfl (or_t h167)).weaken _ ⟨rfl, rfl, rfl, rfl, rfl, rfl, rfl, rfl, rfl, rfl, rfl, rfl, rfl, trivial⟩⟩
    ·have hs := hs.fix 81 (.bool false) rfl (vb h167)
     refine st_val hs (y_move rfl) ⟨_, rfl, rfl⟩ rfl rfl fun a hs => ?_
     refine st_val hs (y_neq rfl rfl) ⟨_, rfl, rfl⟩ rfl rfl fun a hs => ?_
     refine st_val hs (y_pickF rfl rfl) trivial rfl rfl fun a hs => ?_
     refine wpList_nil ?_
     refine then_normal ?_
     exact ⟨rfl, (hs.fix 84 (.bool ((rv131.2 != 0) || (rv138.2 != 0))) rfl (or_f h167)).weaken _ ⟨rfl, rfl, rfl, rfl, rfl, rfl, rfl, rfl, rfl, rfl, rfl, rfl, rfl, trivial⟩⟩
   ·rintro a w1 ⟨h307, hs⟩
    subst h307
    refine st_val hs (y_move rfl) trivial rfl rfl fun a hs => ?_
    refine wpl_join 3 (fun a w1 => w = w1 ∧ Sl 183 [(4, .pointer (some ⟨b77, 0, none⟩)), (5, .pointer (some ⟨b78, 0, none⟩)), (6, .pointer (some ⟨b79, 0, none⟩)), (7, .pointer (some ⟨b93, 0, none⟩)), (9, .int .i64 rv131.1), (11, .int .i64 rv138.1), (13, .int .i64 rv145.1), (15, .pointer (some ⟨b158, 0, none⟩)), (16, .int .i64 rv152.2), (17, .pointer (some ⟨b166, 0, none⟩)), (18, .int .i64 rv160.2), (88, .bool (((rv131.2 != 0) || (rv138.2 != 0)) || (rv145.2 != 0)))] a) ?_ ?_
    ·rcases Bool.eq_false_or_eq_true ((rv131.2 != 0) || (rv138.2 != 0)) with h168 | h168
     ·have hs := hs.fix 85 (.bool true) rfl (vb h168)
      refine st_skip hs rfl rfl rfl rfl rfl fun a hs => ?_
      refine st_skip hs rfl rfl rfl rfl rfl fun a hs => ?_
      refine st_val hs (y_pickT rfl rfl) trivial rfl rfl fun a hs => ?_
      refine wpList_nil ?_
      refine then_normal ?_
      exact ⟨rfl, (hs.fix 88 (.bool (((rv131.2 != 0) || (rv138.2 != 0)) || (rv145.2 != 0))) rfl (or_t h168)).weaken _ ⟨rfl, rfl, rfl, rfl, rfl, rfl, rfl, rfl, rfl, rfl, rfl, rfl, trivial⟩⟩
     ·have hs := hs.fix 85 (.bool false) rfl (vb h168)
      refine st_val hs (y_move rfl) ⟨_, rfl, rfl⟩ rfl rfl fun a hs => ?_
      refine st_val hs (y_neq rfl rfl) ⟨_, rfl, rfl⟩ rfl rfl fun a hs => ?_
      refine st_val hs (y_pickF rfl rfl) trivial rfl rfl fun a hs => ?_
      refine wpList_nil ?_
      refine then_normal ?_
      exact ⟨rfl, (hs.fix 88 (.bool (((rv131.2 != 0) || (rv138.2 != 0)) || (rv145.2 != 0))) rfl (or_f h168)).weaken _ ⟨rfl, rfl, rfl, rfl, rfl, rfl, rfl, rfl, rfl, rfl, rfl, rfl, trivial⟩⟩
    ·rintro a w1 ⟨h306, hs⟩
     subst h306
     refine st_val hs (y_move rfl) trivial rfl rfl fun a hs => ?_
     refine wpl_join 6 (fun a w1 => w = w1 ∧ Sl 183 [(4, .pointer (some ⟨b77, 0, none⟩)), (5, .pointer (some ⟨b78, 0, none⟩)), (6, .pointer (some ⟨b79, 0, none⟩)), (7, .pointer (some ⟨b93, 0, none⟩)), (15, .pointer (some ⟨b158, 0, none⟩)), (16, .int .i64 rv152.2), (17, .pointer (some ⟨b166, 0, none⟩)), (18, .int .i64 rv160.2), (95, .bool ((((rv131.2 != 0) || (rv138.2 != 0)) || (rv145.2 != 0)) || (rv145.1 != (w64 (rv131.1 * rv138.1)))))] a) ?_ ?_
     ·rcases Bool.eq_false_or_eq_true (((rv131.2 != 0) || (rv138.2 != 0)) || (rv145.2 != 0)) with h169 | h169
      ·have hs := hs.fix 89 (.bool true) rfl (vb h169)
       refine st_skip hs rfl rfl rfl rfl rfl fun a hs => ?_
       refine st_skip hs rfl rfl rfl rfl rfl fun a hs => ?_
       refine st_skip hs rfl rfl rfl rfl rfl fun a hs => ?_
       refine st_skip hs rfl rfl rfl rfl rfl fun a hs => ?_
       refine st_skip hs rfl rfl rfl rfl rfl fun a hs => ?_
       refine st_val hs (y_pickT rfl rfl) trivial rfl rfl fun a hs => ?_
       refine wpList_nil ?_
       refine then_normal ?_
       exact ⟨rfl, (hs.fix 95 (.bool ((((rv131.2 != 0) || (rv138.2 != 0)) || (rv145.2 != 0)) || (rv145.1 != (w64 (rv131.1 * rv138.1))))) rfl (or_t h169)).weaken _ ⟨rfl, rfl, rfl, rfl, rfl, rfl, rfl, rfl, rfl, trivial⟩⟩
      ·have hs := hs.fix 89 (.bool false) rfl (vb h169)
       refine st_val hs (y_move rfl) ⟨_, rfl, rfl⟩ rfl rfl fun a hs => ?_
       refine st_val hs (y_move rfl) ⟨_, rfl, rfl⟩ rfl rfl fun a hs => ?_
       refine st_val hs (y_move rfl) ⟨_, rfl, rfl⟩ rfl rfl fun a hs => ?_
       refine st_val hs (y_mul rfl rfl) ⟨_, rfl, rfl⟩ rfl rfl fun a hs => ?_
       refine st_val hs (y_neq rfl rfl) ⟨_, rfl, rfl⟩ rfl rfl fun a hs => ?_
       refine st_val hs (y_pickF rfl rfl) trivial rfl rfl fun a hs => ?_
       refine wpList_nil ?_
       refine then_normal ?_
       exact ⟨rfl, (hs.fix 95 (.bool ((((rv131.2 != 0) || (rv138.2 != 0)) || (rv145.2 != 0)) || (rv145.1 != (w64 (rv131.1 * rv138.1))))) rfl (or_f h169)).weaken _ ⟨rfl, rfl, rfl, rfl, rfl, rfl, rfl, rfl, rfl, trivial⟩⟩
     ·rintro a w1 ⟨h305, hs⟩
      subst h305
      refine wpList_nil ?_
      refine then_normal ?_
      refine wp_cond_split (hs.ev rfl) (fun h171 => ?_) (fun h171 => ?_)
      ·have hsh := ite_t hsh h171
       refine wp_seq ?_
       refine wp_region_lit ?_
       refine st_val hs (y_assign rfl) trivial rfl rfl fun a hs => ?_
       refine wpList_nil ?_
       refine then_normal ?_
       have hsh := Option.some.inj hsh
       subst hsh
       refine wp_ret ?_
       refine then_ret ?_
       exact ret1 hs rfl (rv_tmp rfl) (hw.ret rfl)
      ·have hsh := ite_f hsh h171
       refine wp_skip ?_
       refine then_normal ?_
       refine wp_seq ?_
       refine wp_seq ?_
       refine wp_region_lit ?_
       refine st_val hs (y_move rfl) trivial rfl rfl fun a hs => ?_
       refine st_val hs (y_neq rfl rfl) trivial rfl rfl fun a hs => ?_
       refine wpList_nil ?_
       refine then_normal ?_
       refine wp_cond_split (hs.ev rfl) (fun h190 => ?_) (fun h190 => ?_)
       ·have hsh := ite_t hsh h190
        refine wp_seq ?_
        refine wp_region_lit ?_
        refine st_val hs (y_move rfl) trivial rfl rfl fun a hs => ?_
        refine st_val hs (y_eql rfl rfl) trivial rfl rfl fun a hs => ?_
        refine st_val hs (y_move rfl) trivial rfl rfl fun a hs => ?_
        obtain ⟨c199, hc199, hsh⟩ := bind_t hsh
        refine wpl_join 2 (fun a w => ∃ (Sv200 : Nat → Prop), Sl 183 [(102, .bool c199)] a ∧ Wd ⟨w0, S0, []⟩ Sv200 [] [] w) ?_ ?_
        ·rcases Bool.eq_false_or_eq_true (rv152.2 == 8) with h198 | h198
         ·have hs := hs.fix 100 (.bool true) rfl (vb h198)
          have hsh := ite_t hc199 h198
          obtain ⟨rv202, h201, hsh⟩ := bind_t hsh
          refine st_callR hs (law18_sane_ok h201 hw.bdom) (do_call Try.call8 rfl) ⟨_, rfl, rfl⟩ rfl rfl ?_
          intro v206 Sv203 w a h204 h205 hs
          subst h205
          have hw := hw.callB h204
          refine st_val hs (y_pickT rfl rfl) trivial rfl rfl fun a hs => ?_
          refine wpList_nil ?_
          have hsh := Option.some.inj hsh
          subst hsh
          refine then_normal ?_
          exact ⟨Sv88, (hs.wk rfl), (hw.ft [] [] (by decide) rfl rfl)⟩
         ·have hs := hs.fix 100 (.bool false) rfl (vb h198)
          have hsh := ite_f hc199 h198
          refine st_skip hs rfl rfl rfl rfl rfl fun a hs => ?_
          refine st_val hs (y_pickF rfl rfl) trivial rfl rfl fun a hs => ?_
          refine wpList_nil ?_
          have hsh := Option.some.inj hsh
          subst hsh
          refine then_normal ?_
          exact ⟨Sv88, (hs.wk rfl), (hw.ft [] [] (by decide) rfl rfl)⟩
        ·rintro a w ⟨Sv200, hs, hw⟩
         refine st_val hs (y_assign rfl) trivial rfl rfl fun a hs => ?_
         refine wpList_nil ?_
         refine then_normal ?_
         have hsh := Option.some.inj hsh
         subst hsh
         refine wp_ret ?_
         refine then_ret ?_
         exact ret1 hs rfl (rv_tmp rfl) (hw.ret rfl)
       ·have hsh := ite_f hsh h190
        refine wp_skip ?_
        refine then_normal ?_
        refine wp_seq ?_
        refine wp_region_lit ?_
        refine st_val hs (y_loadBA (hw.ownAt 6 rfl) rfl Try.isAgg37 Try.sizeOf37 rfl rfl) trivial rfl rfl fun a hs => ?_
        refine st_val hs (y_loadBA (hw.ownAt 1 rfl) rfl Try.isAgg51 Try.sizeOf51 rfl rfl) trivial rfl rfl fun a hs => ?_
        obtain ⟨rv209, h208, hsh⟩ := bind_t hsh
        refine st_callR hs (response_Input_ok h208 hw.bdom (hw.bE 2 rfl)) (do_call Try.call19 rfl) trivial rfl rfl ?_
        intro v213 Sv210 w a h211 h212 hs
        subst h212
        have hw := hw.callB h211
        refine st_val hs (y_move rfl) trivial rfl rfl fun a hs => ?_
        refine st_val hs (y_extract rfl rfl) trivial rfl rfl fun a hs => ?_
        refine st_val hs (y_extract rfl rfl) trivial rfl rfl fun a hs => ?_
        refine w_alloc (cs := [.int .i64 0, .int .i64 0]) hs hw Try.zeroValue51 rfl rfl trivial ?_
        intro b215 a w hs hw
        refine w_store (m := 2) (cs' := [.int .i64 rv209.1.Num, .int .i64 rv209.1.Den]) hs hw 0 rfl rfl rfl Try.sizeOf51 rfl rfl rfl rfl trivial ?_
        intro a w hs hw
        refine st_val hs (y_assign rfl) trivial rfl rfl fun a hs => ?_
        refine wpList_nil ?_
        refine then_normal ?_
        refine wp_seq ?_
        refine wp_seq ?_
        refine wp_region_lit ?_
        refine st_val hs (y_move rfl) trivial rfl rfl fun a hs => ?_
        refine st_val hs (y_move rfl) trivial rfl rfl fun a hs => ?_
        refine st_val hs (y_neq rfl rfl) trivial rfl rfl fun a hs => ?_
        refine st_val hs (y_move rfl) trivial rfl rfl fun a hs => ?_
        refine wpl_join 4 (fun a w1 => w = w1 ∧ Sl 183 [(4, .pointer (some ⟨b77, 0, none⟩)), (5, .pointer (some ⟨b78, 0, none⟩)), (6, .pointer (some ⟨b79, 0, none⟩)), (7, .pointer (some ⟨b93, 0, none⟩)), (15, .pointer (some ⟨b158, 0, none⟩)), (116, .bool ((rv160.2 != rv209.2) || (!((rv209.1.Num == rv160.1.Num) && ((rv209.1.Den == rv160.1.Den) && true)))))] a) ?_ ?_
        ·rcases Bool.eq_false_or_eq_true (rv160.2 != rv209.2) with h216 | h216
         ·have hs := hs.fix 112 (.bool true) rfl (vb h216)
          refine st_skip hs rfl rfl rfl rfl rfl fun a hs => ?_
          refine st_skip hs rfl rfl rfl rfl rfl fun a hs => ?_
          refine st_skip hs rfl rfl rfl rfl rfl fun a hs => ?_
          refine st_val hs (y_pickT rfl rfl) trivial rfl rfl fun a hs => ?_
          refine wpList_nil ?_
          refine then_normal ?_
          exact ⟨rfl, (hs.fix 116 (.bool ((rv160.2 != rv209.2) || (!((rv209.1.Num == rv160.1.Num) && ((rv209.1.Den == rv160.1.Den) && true))))) rfl (or_t h216)).weaken _ ⟨rfl, rfl, rfl, rfl, rfl, rfl, trivial⟩⟩
         ·have hs := hs.fix 112 (.bool false) rfl (vb h216)
          refine st_val hs (y_loadBA (hw.ownAt 0 rfl) rfl Try.isAgg51 Try.sizeOf51 rfl rfl) ⟨_, rfl, rfl⟩ rfl rfl fun a hs => ?_
          refine st_val hs (y_loadBA (hw.ownAt 1 rfl) rfl Try.isAgg51 Try.sizeOf51 rfl rfl) ⟨_, rfl, rfl⟩ rfl rfl fun a hs => ?_
          refine st_val hs (y_neqA (by kernel_rfl) rfl rfl (eqv_struct Try.runUnderlying51 (by kernel_rfl) (EqF.cons1 rfl Try.isAgg3 rfl rfl (eqv_int Try.runUnderlying3) (EqF.cons1 rfl Try.isAgg3 rfl rfl (eqv_int Try.runUnderlying3) EqF.nil)))) ⟨_, rfl, rfl⟩ rfl rfl fun a hs => ?_
          refine st_val hs (y_pickF rfl rfl) trivial rfl rfl fun a hs => ?_
          refine wpList_nil ?_
          refine then_normal ?_
          exact ⟨rfl, (hs.fix 116 (.bool ((rv160.2 != rv209.2) || (!((rv209.1.Num == rv160.1.Num) && ((rv209.1.Den == rv160.1.Den) && true))))) rfl (or_f h216)).weaken _ ⟨rfl, rfl, rfl, rfl, rfl, rfl, trivial⟩⟩
        ·rintro a w1 ⟨h304, hs⟩
         subst h304
         refine wpList_nil ?_
         refine then_normal ?_
         refine wp_cond_split (hs.ev rfl) (fun h218 => ?_) (fun h218 => ?_)
         ·have hsh := ite_t hsh h218
          refine wp_seq ?_
          refine wp_region_lit ?_
          refine st_val hs (y_assign rfl) trivial rfl rfl fun a hs => ?_
          refine wpList_nil ?_
          refine then_normal ?_
          have hsh := Option.some.inj hsh
          subst hsh
          refine wp_ret ?_
          refine then_ret ?_
          exact ret1 hs rfl (rv_tmp rfl) (hw.ret rfl)
         ·have hsh := ite_f hsh h218
          refine wp_skip ?_
          refine then_normal ?_
          refine wp_seq ?_
          refine wp_region_lit ?_
          refine st_val hs (y_loadBA (hw.ownAt 7 rfl) rfl Try.isAgg37 Try.sizeOf37 rfl rfl) trivial rfl rfl fun a hs => ?_
          refine st_val hs (y_loadBA (hw.ownAt 2 rfl) rfl Try.isAgg51 Try.sizeOf51 rfl rfl) trivial rfl rfl fun a hs => ?_
          obtain ⟨rv220, h219, hsh⟩ := bind_t hsh
          refine st_callR hs (response_Delay_ok h219 hw.bdom (hw.bE 2 rfl)) (do_call Try.call20 rfl) trivial rfl rfl ?_
          intro v224 Sv221 w a h222 h223 hs
          subst h223
          have hw := hw.callB h222
          refine st_val hs (y_move rfl) trivial rfl rfl fun a hs => ?_
          refine st_val hs (y_extract rfl rfl) trivial rfl rfl fun a hs => ?_
          refine st_val hs (y_extract rfl rfl) trivial rfl rfl fun a hs => ?_
          refine w_alloc (cs := [.int .i64 0, .int .i64 0]) hs hw Try.zeroValue57 rfl rfl trivial ?_
          intro b226 a w hs hw
          refine w_store (m := 2) (cs' := [.int .i64 rv220.1.Num, .int .i64 rv220.1.Den]) hs hw 0 rfl rfl rfl Try.sizeOf57 rfl rfl rfl rfl trivial ?_
          intro a w hs hw
          refine st_val hs (y_assign rfl) trivial rfl rfl fun a hs => ?_
          refine wpList_nil ?_
          refine then_normal ?_
          refine wp_seq ?_
          refine wp_region_lit ?_
          refine st_val hs (y_loadBA (hw.ownAt 7 rfl) rfl Try.isAgg37 Try.sizeOf37 rfl rfl) trivial rfl rfl fun a hs => ?_
          refine st_val hs (y_loadBA (hw.ownAt 6 rfl) rfl Try.isAgg51 Try.sizeOf51 rfl rfl) trivial rfl rfl fun a hs => ?_
          obtain ⟨rv228, h227, hsh⟩ := bind_t hsh
          refine st_callR hs (response_Delay_ok h227 hw.bdom (hw.bE 1 rfl)) (do_call Try.call20 rfl) trivial rfl rfl ?_
          intro v232 Sv229 w a h230 h231 hs
          subst h231
          have hw := hw.callB h230
          refine st_val hs (y_move rfl) trivial rfl rfl fun a hs => ?_
          refine st_val hs (y_extract rfl rfl) trivial rfl rfl fun a hs => ?_
          refine st_val hs (y_extract rfl rfl) trivial rfl rfl fun a hs => ?_
          refine w_alloc (cs := [.int .i64 0, .int .i64 0]) hs hw Try.zeroValue57 rfl rfl trivial ?_
          intro b234 a w hs hw
          refine w_store (m := 2) (cs' := [.int .i64 rv228.1.Num, .int .i64 rv228.1.Den]) hs hw 0 rfl rfl rfl Try.sizeOf57 rfl rfl rfl rfl trivial ?_
          intro a w hs hw
          refine st_val hs (y_assign rfl) trivial rfl rfl fun a hs => ?_
          refine wpList_nil ?_
          refine then_normal ?_
          refine wp_seq ?_
          refine wp_region_lit ?_
          refine st_val hs (y_loadBA (hw.ownAt 5 rfl) rfl Try.isAgg37 Try.sizeOf37 rfl rfl) trivial rfl rfl fun a hs => ?_
          refine st_val hs (y_loadBA (hw.ownAt 7 rfl) rfl Try.isAgg51 Try.sizeOf51 rfl rfl) trivial rfl rfl fun a hs => ?_
          obtain ⟨rv236, h235, hsh⟩ := bind_t hsh
          refine st_callR hs (response_Delay_ok h235 hw.bdom (hw.bRow 6 rfl 0 rfl)) (do_call Try.call20 rfl) trivial rfl rfl ?_
          intro v240 Sv237 w a h238 h239 hs
          subst h239
          have hw := hw.callB h238
          refine st_val hs (y_move rfl) trivial rfl rfl fun a hs => ?_
          refine st_val hs (y_extract rfl rfl) trivial rfl rfl fun a hs => ?_
          refine st_val hs (y_extract rfl rfl) trivial rfl rfl fun a hs => ?_
          refine w_alloc (cs := [.int .i64 0, .int .i64 0]) hs hw Try.zeroValue57 rfl rfl trivial ?_
          intro b242 a w hs hw
          refine w_store (m := 2) (cs' := [.int .i64 rv236.1.Num, .int .i64 rv236.1.Den]) hs hw 0 rfl rfl rfl Try.sizeOf57 rfl rfl rfl rfl trivial ?_
          intro a w hs hw
          refine st_val hs (y_assign rfl) trivial rfl rfl fun a hs => ?_
          refine wpList_nil ?_
          refine then_normal ?_
          refine wp_seq ?_
          refine wp_seq ?_
          refine wp_region_lit ?_
          refine st_val hs (y_move rfl) trivial rfl rfl fun a hs => ?_
          refine st_val hs (y_neq rfl rfl) trivial rfl rfl fun a hs => ?_
          refine st_val hs (y_move rfl) trivial rfl rfl fun a hs => ?_
          refine wpl_join 3 (fun a w1 => w = w1 ∧ Sl 183 [(21, .pointer (some ⟨b226, 0, none⟩)), (22, .int .i64 rv220.2), (23, .pointer (some ⟨b234, 0, none⟩)), (24, .int .i64 rv228.2), (25, .pointer (some ⟨b242, 0, none⟩)), (26, .int .i64 rv236.2), (140, .bool ((rv220.2 != 0) || (rv228.2 != 0)))] a) ?_ ?_
          ·rcases Bool.eq_false_or_eq_true (rv220.2 != 0) with h243 | h243
           ·have hs := hs.fix 137 (.bool true) rfl (vb h243)
            refine st_skip hs rfl rfl rfl rfl rfl fun a hs => ?_
            refine st_skip hs rfl rfl rfl rfl rfl fun a hs => ?_
            refine st_val hs (y_pickT rfl rfl) trivial rfl rfl fun a hs => ?_
            refine wpList_nil ?_
            refine then_normal ?_
            exact ⟨rfl, (hs.fix 140 (.bool ((rv220.2 != 0) || (rv228.2 != 0))) rfl (or_t h243)).weaken _ ⟨rfl, rfl, rfl, rfl, rfl, rfl, rfl, trivial⟩⟩
           ·have hs := hs.fix 137 (.bool false) rfl (vb h243)
            refine st_val hs (y_move rfl) ⟨_, rfl, rfl⟩ rfl rfl fun a hs => ?_
            refine st_val hs (y_neq rfl rfl) ⟨_, rfl, rfl⟩ rfl rfl fun a hs => ?_
            refine st_val hs (y_pickF rfl rfl) trivial rfl rfl fun a hs => ?_
            refine wpList_nil ?_
            refine then_normal ?_
            exact ⟨rfl, (hs.fix 140 (.bool ((rv220.2 != 0) || (rv228.2 != 0))) rfl (or_f h243)).weaken _ ⟨rfl, rfl, rfl, rfl, rfl, rfl, rfl, trivial⟩⟩
          ·rintro a w1 ⟨h303, hs⟩
           subst h303
           refine st_val hs (y_move rfl) trivial rfl rfl fun a hs => ?_
           refine wpl_join 3 (fun a w1 => w = w1 ∧ Sl 183 [(21, .pointer (some ⟨b226, 0, none⟩)), (22, .int .i64 rv220.2), (23, .pointer (some ⟨b234, 0, none⟩)), (24, .int .i64 rv228.2), (25, .pointer (some ⟨b242, 0, none⟩)), (26, .int .i64 rv236.2), (144, .bool (((rv220.2 != 0) || (rv228.2 != 0)) || (rv236.2 != 0)))] a) ?_ ?_
           ·rcases Bool.eq_false_or_eq_true ((rv220.2 != 0) || (rv228.2 != 0)) with h244 | h244
            ·have hs := hs.fix 141 (.bool true) rfl (vb h244)
             refine st_skip hs rfl rfl rfl rfl rfl fun a hs => ?_
             refine st_skip hs rfl rfl rfl rfl rfl fun a hs => ?_
             refine st_val hs (y_pickT rfl rfl) trivial rfl rfl fun a hs => ?_
             refine wpList_nil ?_
             refine then_normal ?_
             exact ⟨rfl, (hs.fix 144 (.bool (((rv220.2 != 0) || (rv228.2 != 0)) || (rv236.2 != 0))) rfl (or_t h244)).weaken _ ⟨rfl, rfl, rfl, rfl, rfl, rfl, rfl, trivial⟩⟩
            ·have hs := hs.fix 141 (.bool false) rfl (vb h244)
             refine st_val hs (y_move rfl) ⟨_, rfl, rfl⟩ rfl rfl fun a hs => ?_
             refine st_val hs (y_neq rfl rfl) ⟨_, rfl, rfl⟩ rfl rfl fun a hs => ?_
             refine st_val hs (y_pickF rfl rfl) trivial rfl rfl fun a hs => ?_
             refine wpList_nil ?_
             refine then_normal ?_
             exact ⟨rfl, (hs.fix 144 (.bool (((rv220.2 != 0) || (rv228.2 != 0)) || (rv236.2 != 0))) rfl (or_f h244)).weaken _ ⟨rfl, rfl, rfl, rfl, rfl, rfl, rfl, trivial⟩⟩
           ·rintro a w1 ⟨h302, hs⟩
            subst h302
            refine wpList_nil ?_
            refine then_normal ?_
            refine wp_cond_split (hs.ev rfl) (fun h265 => ?_) (fun h265 => ?_)
            ·have hsh := ite_t hsh h265
             refine wp_seq ?_
             refine wp_region_lit ?_
             refine st_val hs (y_move rfl) trivial rfl rfl fun a hs => ?_
             refine st_val hs (y_eql rfl rfl) trivial rfl rfl fun a hs => ?_
             refine st_val hs (y_move rfl) trivial rfl rfl fun a hs => ?_
             refine wpl_join 3 (fun a w1 => w = w1 ∧ Sl 183 [(26, .int .i64 rv236.2), (150, .bool ((rv220.2 == 11) || (rv228.2 == 11)))] a) ?_ ?_
             ·rcases Bool.eq_false_or_eq_true (rv220.2 == 11) with h266 | h266
              ·have hs := hs.fix 147 (.bool true) rfl (vb h266)
               refine st_skip hs rfl rfl rfl rfl rfl fun a hs => ?_
               refine st_skip hs rfl rfl rfl rfl rfl fun a hs => ?_
               refine st_val hs (y_pickT rfl rfl) trivial rfl rfl fun a hs => ?_
               refine wpList_nil ?_
               refine then_normal ?_
               exact ⟨rfl, (hs.fix 150 (.bool ((rv220.2 == 11) || (rv228.2 == 11))) rfl (or_t h266)).weaken _ ⟨rfl, rfl, trivial⟩⟩
              ·have hs := hs.fix 147 (.bool false) rfl (vb h266)
               refine st_val hs (y_move rfl) ⟨_, rfl, rfl⟩ rfl rfl fun a hs => ?_
               refine st_val hs (y_eql rfl rfl) ⟨_, rfl, rfl⟩ rfl rfl fun a hs => ?_
               refine st_val hs (y_pickF rfl rfl) trivial rfl rfl fun a hs => ?_
               refine wpList_nil ?_
               refine then_normal ?_
               exact ⟨rfl, (hs.fix 150 (.bool ((rv220.2 == 11) || (rv228.2 == 11))) rfl (or_f h266)).weaken _ ⟨rfl, rfl, trivial⟩⟩
             ·rintro a w1 ⟨h284, hs⟩
              subst h284
              refine st_val hs (y_move rfl) trivial rfl rfl fun a hs => ?_
              refine st_val hs (y_eql rfl rfl) trivial rfl rfl fun a hs => ?_
              refine st_val hs (y_eqlB Try.runUnderlying4 rfl rfl) trivial rfl rfl fun a hs => ?_
              refine st_val hs (y_move rfl) trivial rfl rfl fun a hs => ?_
              obtain ⟨c275, hc275, hsh⟩ := bind_t hsh
              refine wpl_join 2 (fun a w => ∃ (Sv276 : Nat → Prop), Sl 183 [(156, .bool c275)] a ∧ Wd ⟨w0, S0, []⟩ Sv276 [] [] w) ?_ ?_
              ·rcases Bool.eq_false_or_eq_true (((rv220.2 == 11) || (rv228.2 == 11)) == (rv236.2 == 11)) with h274 | h274
               ·have hs := hs.fix 154 (.bool true) rfl (vb h274)
                have hsh := ite_t hc275 h274
                obtain ⟨rv278, h277, hsh⟩ := bind_t hsh
                refine st_callR hs (law18_sane_ok h277 hw.bdom) (do_call Try.call8 rfl) ⟨_, rfl, rfl⟩ rfl rfl ?_
                intro v282 Sv279 w a h280 h281 hs
                subst h281
                have hw := hw.callB h280
                refine st_val hs (y_pickT rfl rfl) trivial rfl rfl fun a hs => ?_
                refine wpList_nil ?_
                have hsh := Option.some.inj hsh
                subst hsh
                refine then_normal ?_
                exact ⟨Sv88, (hs.wk rfl), (hw.ft [] [] (by decide) rfl rfl)⟩
               ·have hs := hs.fix 154 (.bool false) rfl (vb h274)
                have hsh := ite_f hc275 h274
                refine st_skip hs rfl rfl rfl rfl rfl fun a hs => ?_
                refine st_val hs (y_pickF rfl rfl) trivial rfl rfl fun a hs => ?_
                refine wpList_nil ?_
                have hsh := Option.some.inj hsh
                subst hsh
                refine then_normal ?_
                exact ⟨Sv88, (hs.wk rfl), (hw.ft [] [] (by decide) rfl rfl)⟩
              ·rintro a w ⟨Sv276, hs, hw⟩
               refine st_val hs (y_assign rfl) trivial rfl rfl fun a hs => ?_
               refine wpList_nil ?_
               refine then_normal ?_
               have hsh := Option.some.inj hsh
               subst hsh
               refine wp_ret ?_
               refine then_ret ?_
               exact ret1 hs rfl (rv_tmp rfl) (hw.ret rfl)
            ·have hsh := ite_f hsh h265
             refine wp_skip ?_
             refine then_normal ?_
             refine wp_seq ?_
             refine wp_region_lit ?_
             refine st_val hs (y_fieldAddr (o' := 0) Try.runUnderlying57 rfl Try.sizeOf3 rfl rfl rfl) trivial rfl rfl fun a hs => ?_
             refine st_val hs (y_loadB1 (hw.ownAt 0 rfl) rfl Try.isAgg3 rfl) trivial rfl rfl fun a hs => ?_
             refine st_val hs (y_fieldAddr (o' := 1) Try.runUnderlying57 rfl Try.sizeOf3 rfl rfl rfl) trivial rfl rfl fun a hs => ?_
             refine st_val hs (y_loadB1 (hw.ownAt 2 rfl) rfl Try.isAgg3 rfl) trivial rfl rfl fun a hs => ?_
             refine st_val hs (y_mul rfl rfl) trivial rfl rfl fun a hs => ?_
             refine st_val hs (y_fieldAddr (o' := 1) Try.runUnderlying57 rfl Try.sizeOf3 rfl rfl rfl) trivial rfl rfl fun a hs => ?_
             refine st_val hs (y_loadB1 (hw.ownAt 1 rfl) rfl Try.isAgg3 rfl) trivial rfl rfl fun a hs => ?_
             refine st_val hs (y_mul rfl rfl) trivial rfl rfl fun a hs => ?_
             refine st_val hs (y_fieldAddr (o' := 1) Try.runUnderlying57 rfl Try.sizeOf3 rfl rfl rfl) trivial rfl rfl fun a hs => ?_
             refine st_val hs (y_loadB1 (hw.ownAt 0 rfl) rfl Try.isAgg3 rfl) trivial rfl rfl fun a hs => ?_
             refine st_val hs (y_fieldAddr (o' := 0) Try.runUnderlying57 rfl Try.sizeOf3 rfl rfl rfl) trivial rfl rfl fun a hs => ?_
             refine st_val hs (y_loadB1 (hw.ownAt 2 rfl) rfl Try.isAgg3 rfl) trivial rfl rfl fun a hs => ?_
             refine st_val hs (y_fieldAddr (o' := 1) Try.runUnderlying57 rfl Try.sizeOf3 rfl rfl rfl) trivial rfl rfl fun a hs => ?_
             refine st_val hs (y_loadB1 (hw.ownAt 1 rfl) rfl Try.isAgg3 rfl) trivial rfl rfl fun a hs => ?_
             refine st_val hs (y_mul rfl rfl) trivial rfl rfl fun a hs => ?_
             refine st_val hs (y_fieldAddr (o' := 0) Try.runUnderlying57 rfl Try.sizeOf3 rfl rfl rfl) trivial rfl rfl fun a hs => ?_
             refine st_val hs (y_loadB1 (hw.ownAt 1 rfl) rfl Try.isAgg3 rfl) trivial rfl rfl fun a hs => ?_
             refine st_val hs (y_fieldAddr (o' := 1) Try.runUnderlying57 rfl Try.sizeOf3 rfl rfl rfl) trivial rfl rfl fun a hs => ?_
             refine st_val hs (y_loadB1 (hw.ownAt 2 rfl) rfl Try.isAgg3 rfl) trivial rfl rfl fun a hs => ?_
             refine st_val hs (y_mul rfl rfl) trivial rfl rfl fun a hs => ?_
             refine st_val hs (y_add rfl rfl) trivial rfl rfl fun a hs => ?_
             refine st_val hs (y_mul rfl rfl) trivial rfl rfl fun a hs => ?_
             refine st_val hs (y_eql rfl rfl) trivial rfl rfl fun a hs => ?_
             refine st_val hs (y_move rfl) trivial rfl rfl fun a hs => ?_
             obtain ⟨c293, hc293, hsh⟩ := bind_t hsh
             refine wpl_join 2 (fun a w => ∃ (Sv294 : Nat → Prop), Sl 183 [(182, .bool c293)] a ∧ Wd ⟨w0, S0, []⟩ Sv294 [] [] w) ?_ ?_
             ·rcases Bool.eq_false_or_eq_true ((w64 ((w64 (rv236.1.Num * rv220.1.Den)) * rv228.1.Den)) == (w64 (rv236.1.Den * (w64 ((w64 (rv220.1.Num * rv228.1.Den)) + (w64 (rv228.1.Num * rv220.1.Den))))))) with h292 | h292
              ·have hs := hs.fix 180 (.bool true) rfl (vb h292)
               have hsh := ite_t hc293 h292
               obtain ⟨rv296, h295, hsh⟩ := bind_t hsh
               refine st_callR hs (law18_sane_ok h295 hw.bdom) (do_call Try.call8 rfl) ⟨_, rfl, rfl⟩ rfl rfl ?_
               intro v300 Sv297 w a h298 h299 hs
               subst h299
               have hw := hw.callB h298
               refine st_val hs (y_pickT rfl rfl) trivial rfl rfl fun a hs => ?_
               refine wpList_nil ?_
               have hsh := Option.some.inj hsh
               subst hsh
               refine then_normal ?_
               exact ⟨Sv88, (hs.wk rfl), (hw.ft [] [] (by decide) rfl rfl)⟩
              ·have hs := hs.fix 180 (.bool false) rfl (vb h292)
               have hsh := ite_f hc293 h292
               refine st_skip hs rfl rfl rfl rfl rfl fun a hs => ?_
               refine st_val hs (y_pickF rfl rfl) trivial rfl rfl fun a hs => ?_
               refine wpList_nil ?_
               have hsh := Option.some.inj hsh
               subst hsh
               refine then_normal ?_
               exact ⟨Sv88, (hs.wk rfl), (hw.ft [] [] (by decide) rfl rfl)⟩
             ·rintro a w ⟨Sv294, hs, hw⟩
              refine st_val hs (y_assign rfl) trivial rfl rfl fun a hs => ?_
              refine wpList_nil ?_
              refine then_normal ?_
              have hsh := Option.some.inj hsh
              subst hsh
              refine wp_ret ?_
              exact ret1 hs rfl (rv_tmp rfl) (hw.ret rfl)

end Go.Proofs.Ytoendkojgjobbaa.Wk

/- The walks of ResponseExact, part 4: each Go function computes what its plain program computes. Printed by a program of ours. -/
import Derived.Test.YtoendkojgjobbaaProg
import Derived.Test.YtoendkojgjobbaaDat
import Derived.Test.YtoendkojgjobbaaSh
import Derived.Test.YtoendkojgjobbaaLibL
import Derived.Test.YtoendkojgjobbaaLibZ
import Derived.Test.YtoendkojgjobbaaLibQ
import Derived.KernelRfl
import Derived.Test.YtoendkojgjobbaaWResponseExact3
namespace Go.Proofs.Ytoendkojgjobbaa.Wk
open Go Go.RowKit Go.Proofs Go.Proofs.Ytoendkojgjobbaa.Sh
set_option linter.unusedVariables false
set_option linter.unusedSimpArgs false

abbrev slices_Clone_Lint_int_rd (w0 : World) (X : List Nat) (r : (List Int)) : (Nat → Prop) → World → Value → Prop := fun S w v => ∃ (p0_0 : Option Addr) (k0_0 : Nat) (c0_0 : List Value), v = .slice p0_0 r.length k0_0 ∧ Outs X w0 S w [.row p0_0 r.length k0_0 c0_0 3 1] ∧ (RowA c0_0 r).p S w
set_option maxHeartbeats 4000000 in
set_option maxRecDepth 100000 in
theorem slices_Clone_Lint_int_ok {w0 : World} {S0 : Nat → Prop} {p2 : Option Addr} {k3 : Nat} {s1 : (List Int)} {r : (List Int)} (hsh : slices_Clone_Lint_int s1 = some r) (hS : ∀ b, S0 b → b < w0.heap.size) (h4 : (SlA p2 s1.length k3 s1).p S0 w0) : Calls Try.prog 82 #[.slice p2 s1.length k3] w0 (Ret ([]) w0 S0 (slices_Clone_Lint_int_rd w0 ([]) r)) := by
 refine calls_of_wp Try.func82 rfl ?_
 have hs := Sl.enter #[.slice p2 s1.length k3] 8 [(0, .slice p2 s1.length k3)] rfl ⟨rfl, trivial⟩
 have hw := Wd.enter (E := []) hS (fun _ h => (by cases h))
 have hw := hw.addE h4
 delta slices_Clone_Lint_int at hsh
 refine sr ?_
 refine av hs rfl rfl fun a hs => ?_
 refine nl ?_
 refine wp_seq ?_
 refine sr ?_
 refine mv hs rfl rfl fun a hs => ?_
 refine sv hs (y_eqlN Try.runUnderlying24 rfl rfl) rfl fun a hs => ?_
 refine nl ?_
 have hsv15 := hs
 have hwv16 := hw
 rcases p2 with _ | av8
 ·have hs := hsv15
  have hw := hwv16
  obtain rfl := slnil (hw.envAt 0 rfl)
  have hsh : some ([] : List Int) = some r := by simpa [appM, maxLen] using hsh
  refine wp_cond_true (hs.ev rfl) ?_
  refine sr ?_
  refine av hs rfl rfl fun a hs => ?_
  refine nl ?_
  have hsh := oi hsh
  subst hsh
  have hw := hw.nilRow Int 3
  refine wp_ret ?_
  refine then_ret ?_
  exact ret1 hs rfl (rv_tmp rfl) (hw.ret ⟨none, 0, [], rfl, (hw.outs [0] (by decide) rfl), (hw.envAt 0 rfl)⟩)
 have hs := hsv15
 have hw := hwv16
 refine wp_cond_false (hs.ev rfl) ?_
 refine wp_skip ?_
 refine then_normal ?_
 refine sr ?_
 refine w_buildSlice (α := Int) (vs := []) (cs := []) (xs := ([] : List Int)) hs hw El24 rfl rfl rfl rfl rfl rfl rfl rfl trivial fun p9 a w hs hw => ?_
 refine mv hs rfl rfl fun a hs => ?_
 obtain ⟨l11, h10, hsh⟩ := bind_t hsh
 refine w_appendE (α := Int) hs hw El24 0 rfl rfl rfl 0 rfl 1 rfl h10 rfl trivial ?_
 intro p12 k13 c14 a w hs hw
 refine av hs rfl rfl fun a hs => ?_
 refine nl ?_
 have hsh := oi hsh
 subst hsh
 refine wp_ret ?_
 exact ret1 hs rfl (rv_tmp rfl) (hw.ret ⟨p12, k13, c14, rfl, (hw.outs [0] (by decide) rfl), (hw.envAt 0 rfl)⟩)

abbrev response_copied_rd (w0 : World) (X : List Nat) (r : (List Stage)) : (Nat → Prop) → World → Value → Prop := fun S w v => ∃ (p0_0 : Option Addr) (k0_0 : Nat) (c0_0 : List Value), v = .slice p0_0 r.length k0_0 ∧ Outs X w0 S w [.row p0_0 r.length k0_0 c0_0 26 10] ∧ (RowA c0_0 r).p S w
set_option maxHeartbeats 4000000 in
set_option maxRecDepth 100000 in
theorem response_copied_ok {w0 : World} {S0 : Nat → Prop} {p2 : Option Addr} {k3 : Nat} {l1 : (List Stage)} {r : (List Stage)} (hsh : response_copied l1 = some r) (hS : ∀ b, S0 b → b < w0.heap.size) (h4 : (SlA p2 l1.length k3 l1).p S0 w0) : Calls Try.prog 48 #[.slice p2 l1.length k3] w0 (Ret ([]) w0 S0 (response_copied_rd w0 ([]) r)) := by
 refine calls_of_wp Try.func48 rfl ?_
 have hs := Sl.enter #[.slice p2 l1.length k3] 24 [(0, .slice p2 l1.length k3)] rfl ⟨rfl, trivial⟩
 have hw := Wd.enter (E := []) hS (fun _ h => (by cases h))
 have hw := hw.addE h4
 delta response_copied at hsh
 refine sr ?_
 refine av hs rfl rfl fun a hs => ?_
 refine nl ?_
 refine sr ?_
 refine mv hs rfl rfl fun a hs => ?_
 obtain ⟨rv6, h5, hsh⟩ := bind_t hsh
 refine st_callR hs (slices_Clone_Lapi_Stage_api_Stage_ok h5 hw.dom (hw.envAt 0 rfl)) (do_call Try.call81 rfl) trivial rfl rfl ?_
 intro v14 Sv11 w a h12 h13 hs
 obtain ⟨p7, k8, c10, rfl, h15, h9⟩ := h13
 have hw := hw.callN h12 h15
 have hw := hw.addE (e := RowA c10 rv6) h9
 refine av hs rfl rfl fun a hs => ?_
 refine nl ?_
 refine wp_seq ?_
 refine sr ?_
 refine mv hs rfl rfl fun a hs => ?_
 refine sv hs (y_len Try.runUnderlying35 rfl) rfl fun a hs => ?_
 refine mv hs rfl rfl fun a hs => ?_
 refine nl ?_
 obtain ⟨e169, h269, hsh⟩ := bind_t hsh
 refine wp_join (fun a w => ∃ (c170 : List Value) (p171 : Option Addr) (k172 : Nat) (Sv173 : Nat → Prop), Sl 24 [(3, .slice p171 e169.length k172)] a ∧ Wd ⟨w0, S0, []⟩ Sv173 [.row p171 e169.length k172 c170 26 10] [RowA c170 e169] w) ?_ ?_
 ·refine wp_block ?_
  refine wp_while (fun sv16 a w => ∃ (c115 : List Value) (p116 : Option Addr) (k117 : Nat) (Sv118 : Nat → Prop), Sl 24 [(3, .slice p116 sv16.1.length k117), (8, .int .i64 (rv6.length : Int)), (9, .int .i64 sv16.2)] a ∧ Wd ⟨w0, S0, []⟩ Sv118 [.row p116 sv16.1.length k117 c115 26 10] [RowA c115 sv16.1] w) (rv6, 0) h269 ⟨c10, p7, k8, Sv11, (hs.wk rfl), (hw.ft [0] [0] (by decide) rfl rfl)⟩ ?_
  clear h269
  repeat clear hsh
  rintro sv16 a w tv167 ⟨c115, p116, k117, Sv118, hs, hw⟩ hsh hd166
  delta response_copied_l1 at hsh
  refine sr ?_
  refine sv hs (y_lss rfl rfl) rfl fun a hs => ?_
  refine nl ?_
  refine wp_seq ?_
  refine wp_cond_split (hs.ev rfl) (fun h175 => ?_) (fun h175 => ?_)
  ·have hsh := ite_t hsh h175
   refine wp_skip ?_
   refine then_normal ?_
   refine wp_seq ?_
   refine wp_block ?_
   refine sr ?_
   refine mv hs rfl rfl fun a hs => ?_
   refine av hs rfl rfl fun a hs => ?_
   refine nl ?_
   refine wp_region_lit ?_
   refine mv hs rfl rfl fun a hs => ?_
   refine mv hs rfl rfl fun a hs => ?_
   refine mv hs rfl rfl fun a hs => ?_
   refine mv hs rfl rfl fun a hs => ?_
   obtain ⟨x224, h222, hsh⟩ := bind_t hsh
   obtain ⟨b231, q228, c229, h232, h225, h226, h230, h223⟩ := hw.elemRV (α := Stage) 0 rfl 0 rfl h222
   have hsv233 := hs
   have hwv234 := hw
   subst h232
   have hs := hsv233
   have hw := hwv234
   obtain ⟨_, _, _, _, _, _, _, _, _, _, rfl, rfl, rfl, rfl, rfl, rfl, rfl, rfl, ⟨p235, n236, k237, rfl, h238⟩, rfl, rfl⟩ := h223
   obtain rfl := h238.1
   have hw := hw.addE (e := SlA p235 _ k237 x224.Taps) h238
   refine sv hs (y_indexAt Try.runUnderlying35 Try.sizeOf26 rfl rfl h225.1 h225.2 h226) rfl fun a hs => ?_
   refine sv hs (y_fieldAddr (o' := q228 + 7) Try.runUnderlying26 rfl Try.sizeOf24 rfl rfl rfl) rfl fun a hs => ?_
   refine sv hs (y_loadQ1 (j := 7) (hw.ownAt 0 rfl) rfl Try.isAgg24 h230 rfl) rfl fun a hs => ?_
   obtain ⟨rv240, h239, hsh⟩ := bind_t hsh
   refine st_callR hs (slices_Clone_Lint_int_ok h239 hw.dom (hw.envAt 0 rfl)) (do_call Try.call82 rfl) trivial rfl rfl ?_
   intro v248 Sv245 w a h246 h247 hs
   obtain ⟨p241, k242, c244, rfl, h249, h243⟩ := h247
   have hw := hw.callN h246 h249
   have hw := hw.addE (e := RowA c244 rv240) h243
   obtain ⟨x252, h250, hsh⟩ := bind_t hsh
   obtain ⟨q256, c257, h253, h254, h258, h251⟩ := hw.elemRK (α := Stage) 1 rfl 2 rfl h250
   obtain ⟨_, _, _, _, _, _, _, _, _, _, rfl, rfl, rfl, rfl, rfl, rfl, rfl, rfl, ⟨p259, n260, k261, rfl, h262⟩, rfl, rfl⟩ := h251
   obtain rfl := h262.1
   have hw := hw.addE (e := SlA p259 _ k261 x252.Taps) h262
   refine sv hs (y_indexAt Try.runUnderlying35 Try.sizeOf26 rfl rfl h253.1 h253.2 h254) rfl fun a hs => ?_
   refine sv hs (y_fieldAddr (o' := q256 + 7) Try.runUnderlying26 rfl Try.sizeOf24 rfl rfl rfl) rfl fun a hs => ?_
   obtain ⟨l264, h263, hsh⟩ := bind_t hsh
   obtain ⟨Sv267, hw⟩ := w_share (α := Int) hw 0 rfl 1 rfl
   refine w_storeR (α := Stage) (f := 7) (m := 1) hs hw 0 rfl 4 rfl h254 rfl rfl Try.sizeOf24 rfl rfl rfl h263 (fun es he => by rw [h258] at he; subst he; exact ⟨_, _, _, _, _, _, _, _, _, _, rfl, rfl, rfl, rfl, rfl, rfl, rfl, rfl, ⟨_, _, _, rfl, hw.envAt 0 rfl⟩, rfl, rfl⟩) trivial ?_
   intro c265 a w hs hw
   have h266 := setM_len h263
   try have hs := hs.fl 3 rfl h266
   try have hs := hs.fl 12 rfl h266
   try have hs := hs.fl 14 rfl h266
   refine wpList_nil ?_
   refine blk_normal ?_
   refine then_normal ?_
   refine wp_region_lit ?_
   refine sv hs (y_add rfl rfl) rfl fun a hs => ?_
   refine mv hs rfl rfl fun a hs => ?_
   refine nl ?_
   exact ⟨_, (Option.some.inj hsh).symm, c265, (some ⟨b231, 0, none⟩), k117, Sv267, (hs.wk rfl), (hw.ft [0] [0] (by decide) rfl rfl)⟩
  have hsh := ite_f hsh h175
  refine wp_exit ?_
  refine then_exit ?_
  refine then_exit ?_
  refine blk_exit ?_
  have hsh := oi hsh
  subst hsh
  have h268 := hd166 _ rfl
  subst h268
  refine then_normal ?_
  exact ⟨c115, p116, k117, Sv118, (hs.wk rfl), (hw.ft [0] [0] (by decide) rfl rfl)⟩
 rintro a w ⟨c170, p171, k172, Sv173, hs, hw⟩
 refine then_normal ?_
 refine sr ?_
 refine mv hs rfl rfl fun a hs => ?_
 refine av hs rfl rfl fun a hs => ?_
 refine nl ?_
 have hsh := oi hsh
 subst hsh
 refine wp_ret ?_
 exact ret1 hs rfl (rv_tmp rfl) (hw.ret ⟨p171, k172, c170, rfl, (hw.outs [0] (by decide) rfl), (hw.envAt 0 rfl)⟩)

abbrev response_Join_rd (w0 : World) (X : List Nat) (r : (Response × Int)) : (Nat → Prop) → World → Value → Prop := fun S w v => ∃ (p0_0 : Option Addr) (k0_0 : Nat) (c0_0 : List Value), v = .tuple #[.agg #[.slice p0_0 r.1.Stages.length k0_0], .int .i64 r.2] ∧ Outs X w0 S w [.row p0_0 r.1.Stages.length k0_0 c0_0 26 10] ∧ (RowA c0_0 r.1.Stages).p S w
set_option maxHeartbeats 4000000 in
set_option maxRecDepth 100000 in
theorem response_Join_ok {w0 : World} {S0 : Nat → Prop} {p2 : Option Addr} {k3 : Nat} {p6 : Option Addr} {k7 : Nat} {a1 : Response} {b5 : Response} {r : (Response × Int)} (hsh : response_Join a1 b5 = some r) (hS : ∀ b, S0 b → b < w0.heap.size) (h4 : (SlA p2 a1.Stages.length k3 a1.Stages).p S0 w0) (h8 : (SlA p6 b5.Stages.length k7 b5.Stages).p S0 w0) : Calls Try.prog 16 #[.agg #[.slice p2 a1.Stages.length k3], .agg #[.slice p6 b5.Stages.length k7]] w0 (Ret ([]) w0 S0 (response_Join_rd w0 ([]) r)) := by
 refine calls_of_wp Try.func16 rfl ?_
 have hs := Sl.enter #[.agg #[.slice p2 a1.Stages.length k3], .agg #[.slice p6 b5.Stages.length k7]] 29 [(0, .agg #[.slice p2 a1.Stages.length k3]), (1, .agg #[.slice p6 b5.Stages.length k7])] rfl ⟨rfl, rfl, trivial⟩
 have hw := Wd.enter (E := []) hS (fun _ h => (by cases h))
 have hw := hw.addE h4
 have hw := hw.addE h8
 delta response_Join at hsh
 refine sr ?_
 refine w_box (cs := [.slice p2 a1.Stages.length k3]) hs hw rfl rfl rfl trivial ?_
 intro b9 a w hs hw
 refine w_box (cs := [.slice p6 b5.Stages.length k7]) hs hw rfl rfl rfl trivial ?_
 intro b10 a w hs hw
 refine w_alloc (cs := [.slice none ([] : List Stage).length 0]) hs hw Try.zeroValue37 rfl rfl trivial ?_
 intro b11 a w hs hw
 refine av hs rfl rfl fun a hs => ?_
 refine nl ?_
 refine wp_seq ?_
 refine sr ?_
 refine sv hs (y_loadBA (hw.ownAt 2 rfl) rfl Try.isAgg37 Try.sizeOf37 rfl rfl) rfl fun a hs => ?_
 obtain ⟨rv13, h12, hsh⟩ := bind_t hsh
 refine st_callR hs (response_Valid_ok h12 hw.bdom (hw.bE 1 rfl)) (do_call Try.call33 rfl) trivial rfl rfl ?_
 intro v17 Sv14 w a h15 h16 hs
 subst h16
 have hw := hw.callB h15
 refine sv hs (y_not rfl) rfl fun a hs => ?_
 refine mv hs rfl rfl fun a hs => ?_
 obtain ⟨c27, hc27, hsh⟩ := bind_t hsh
 refine wpl_join 4 (fun a w => ∃ (Sv28 : Nat → Prop), Sl 29 [(2, .pointer (some ⟨b9, 0, none⟩)), (3, .pointer (some ⟨b10, 0, none⟩)), (4, .pointer (some ⟨b11, 0, none⟩)), (14, .bool c27)] a ∧ Wd ⟨w0, S0, []⟩ Sv28 [.box b9 [.slice p2 a1.Stages.length k3] 37, .box b10 [.slice p6 b5.Stages.length k7] 37, .box b11 [.slice none ([] : List Stage).length 0] 37] [SlA p2 a1.Stages.length k3 a1.Stages, SlA p6 b5.Stages.length k7 b5.Stages, SlA none ([] : List Stage).length 0 ([] : List Stage)] w) ?_ ?_
 ·rcases Bool.eq_false_or_eq_true (!rv13) with h26 | h26
  ·have hs := hs.fix 10 (.bool true) rfl (vb h26)
   have hsh := ite_t hc27 h26
   refine st_skip hs rfl rfl rfl rfl rfl fun a hs => ?_
   refine st_skip hs rfl rfl rfl rfl rfl fun a hs => ?_
   refine st_skip hs rfl rfl rfl rfl rfl fun a hs => ?_
   refine sv hs (y_pickT rfl rfl) rfl fun a hs => ?_
   refine wpList_nil ?_
   have hw := hw.addE (e := SlA (α := Stage) none 0 0 []) nil_sl
   have hsh := oi hsh
   subst hsh
   refine then_normal ?_
   exact ⟨S0, (hs.wk rfl), (hw.ft [2, 1, 0] [2, 1, 0] (by decide) rfl rfl)⟩
  have hs := hs.fix 10 (.bool false) rfl (vb h26)
  have hsh := ite_f hc27 h26
  refine st_val hs (y_loadBA (hw.ownAt 1 rfl) rfl Try.isAgg37 Try.sizeOf37 rfl rfl) ⟨_, rfl, rfl⟩ rfl rfl fun a hs => ?_
  obtain ⟨rv30, h29, hsh⟩ := bind_t hsh
  refine st_callR hs (response_Valid_ok h29 hw.bdom (hw.bE 0 rfl)) (do_call Try.call33 rfl) ⟨_, rfl, rfl⟩ rfl rfl ?_
  intro v34 Sv31 w a h32 h33 hs
  subst h33
  have hw := hw.callB h32
  refine st_val hs (y_not rfl) ⟨_, rfl, rfl⟩ rfl rfl fun a hs => ?_
  refine sv hs (y_pickF rfl rfl) rfl fun a hs => ?_
  refine wpList_nil ?_
  have hw := hw.addE (e := SlA (α := Stage) none 0 0 []) nil_sl
  have hsh := oi hsh
  subst hsh
  refine then_normal ?_
  exact ⟨S0, (hs.wk rfl), (hw.ft [2, 1, 0] [2, 1, 0] (by decide) rfl rfl)⟩
 rintro a w ⟨Sv28, hs, hw⟩
 refine nl ?_
 refine wp_cond_split (hs.ev rfl) (fun h37 => ?_) (fun h37 => ?_)
 ·have hsh := ite_t hsh h37
  refine sr ?_
  refine sv hs (y_build (vs := []) Bld37 rfl rfl) rfl fun a hs => ?_
  refine w_store (m := 1) (cs' := [.slice none ([] : List Stage).length 0]) hs hw 2 rfl rfl rfl Try.sizeOf37 rfl rfl rfl rfl trivial ?_
  intro a w hs hw
  refine av hs rfl rfl fun a hs => ?_
  refine nl ?_
  have hsh := oi hsh
  subst hsh
  have hw := hw.nilRow Stage 26
  refine wp_ret ?_
  refine then_ret ?_
  exact ret2 hs rfl (rv_cell hw 3 rfl rfl Try.isAgg37 Try.sizeOf37 rfl) (rv_tmp rfl) (hw.ret ⟨none, 0, [], rfl, (hw.outs [0] (by decide) rfl), (hw.envAt 0 rfl)⟩)
 have hsh := ite_f hsh h37
 refine wp_skip ?_
 refine then_normal ?_
 refine sr ?_
 refine sv hs (y_fieldAddr (o' := 0) Try.runUnderlying37 rfl Try.sizeOf35 rfl rfl rfl) rfl fun a hs => ?_
 refine sv hs (y_loadB1 (hw.ownAt 0 rfl) rfl Try.isAgg35 rfl) rfl fun a hs => ?_
 refine sv hs (y_fieldAddr (o' := 0) Try.runUnderlying37 rfl Try.sizeOf35 rfl rfl rfl) rfl fun a hs => ?_
 refine sv hs (y_loadB1 (hw.ownAt 1 rfl) rfl Try.isAgg35 rfl) rfl fun a hs => ?_
 refine w_litSlice (α := (List Stage)) (vs := [.slice p2 a1.Stages.length k3, .slice p6 b5.Stages.length k7]) (cs := [.slice p2 a1.Stages.length k3, .slice p6 b5.Stages.length k7]) (xs := ([a1.Stages, b5.Stages] : List (List Stage))) hs hw El111 rfl rfl rfl rfl rfl rfl ⟨⟨_, rfl, ⟨_, _, _, rfl, hw.envAt 0 rfl⟩⟩, ⟨⟨_, rfl, ⟨_, _, _, rfl, hw.envAt 1 rfl⟩⟩, rfl⟩⟩ rfl trivial rfl fun b39 a w hs hw => ?_
 obtain ⟨rv41, h40, hsh⟩ := bind_t hsh
 obtain ⟨Sv46, hw⟩ := w_share (α := (List Stage)) hw 0 rfl 0 rfl
 refine st_callR hs (slices_Concat_Lapi_Stage_api_Stage_ok h40 hw.dom (hw.envAt 0 rfl)) (do_call Try.call49 rfl) trivial rfl rfl ?_
 intro v50 Sv47 w a h48 h49 hs
 obtain ⟨p42, k43, c45, rfl, h51, h44⟩ := h49
 have hw := hw.callN h48 h51
 have hw := hw.addE (e := RowA c45 rv41) h44
 obtain ⟨rv53, h52, hsh⟩ := bind_t hsh
 obtain ⟨Sv58, hw⟩ := w_share (α := Stage) hw 0 rfl 0 rfl
 refine st_callR hs (response_copied_ok h52 hw.dom (hw.envAt 0 rfl)) (do_call Try.call48 rfl) trivial rfl rfl ?_
 intro v62 Sv59 w a h60 h61 hs
 obtain ⟨p54, k55, c57, rfl, h63, h56⟩ := h61
 have hw := hw.callN h60 h63
 have hw := hw.addE (e := RowA c57 rv53) h56
 refine sv hs (y_build (vs := [(0, .slice p54 rv53.length k55)]) Bld37 rfl rfl) rfl fun a hs => ?_
 refine w_alloc (cs := [.slice none ([] : List Stage).length 0]) hs hw Try.zeroValue37 rfl rfl trivial ?_
 intro b64 a w hs hw
 refine w_store (m := 1) (cs' := [.slice p54 rv53.length k55]) hs hw 0 rfl rfl rfl Try.sizeOf37 rfl rfl rfl rfl trivial ?_
 intro a w hs hw
 refine nl ?_
 refine wp_seq ?_
 refine sr ?_
 refine sv hs (y_loadBA (hw.ownAt 0 rfl) rfl Try.isAgg37 Try.sizeOf37 rfl rfl) rfl fun a hs => ?_
 obtain ⟨rv66, h65, hsh⟩ := bind_t hsh
 refine st_callR hs (response_Valid_ok h65 hw.bdom (hw.bRow 1 rfl 0 rfl)) (do_call Try.call33 rfl) trivial rfl rfl ?_
 intro v70 Sv67 w a h68 h69 hs
 subst h69
 have hw := hw.callB h68
 refine sv hs (y_not rfl) rfl fun a hs => ?_
 refine nl ?_
 refine wp_cond_split (hs.ev rfl) (fun h73 => ?_) (fun h73 => ?_)
 ·have hsh := ite_t hsh h73
  refine sr ?_
  refine sv hs (y_build (vs := []) Bld37 rfl rfl) rfl fun a hs => ?_
  refine w_store (m := 1) (cs' := [.slice none ([] : List Stage).length 0]) hs hw 4 rfl rfl rfl Try.sizeOf37 rfl rfl rfl rfl trivial ?_
  intro a w hs hw
  refine av hs rfl rfl fun a hs => ?_
  refine nl ?_
  have hsh := oi hsh
  subst hsh
  have hw := hw.nilRow Stage 26
  refine wp_ret ?_
  refine then_ret ?_
  exact ret2 hs rfl (rv_cell hw 5 rfl rfl Try.isAgg37 Try.sizeOf37 rfl) (rv_tmp rfl) (hw.ret ⟨none, 0, [], rfl, (hw.outs [0] (by decide) rfl), (hw.envAt 0 rfl)⟩)
 have hsh := ite_f hsh h73
 refine wp_skip ?_
 refine then_normal ?_
 refine sr ?_
 refine sv hs (y_loadBA (hw.ownAt 0 rfl) rfl Try.isAgg37 Try.sizeOf37 rfl rfl) rfl fun a hs => ?_
 refine w_store (m := 1) (cs' := [.slice p54 rv53.length k55]) hs hw 4 rfl rfl rfl Try.sizeOf37 rfl rfl rfl rfl trivial ?_
 intro a w hs hw
 refine av hs rfl rfl fun a hs => ?_
 refine nl ?_
 have hsh := oi hsh
 subst hsh
 refine wp_ret ?_
 exact ret2 hs rfl (rv_cell hw 4 rfl rfl Try.isAgg37 Try.sizeOf37 rfl) (rv_tmp rfl) (hw.ret ⟨p54, k55, c57, rfl, (hw.outs [1] (by decide) rfl), (hw.envAt 0 rfl)⟩)

abbrev ref18_Join_rd (w0 : World) (X : List Nat) (r : (Response × Int)) : (Nat → Prop) → World → Value → Prop := fun S w v => ∃ (p0_0 : Option Addr) (k0_0 : Nat) (c0_0 : List Value), v = .tuple #[.agg #[.slice p0_0 r.1.Stages.length k0_0], .int .i64 r.2] ∧ Outs X w0 S w [.row p0_0 r.1.Stages.length k0_0 c0_0 26 10] ∧ (RowA c0_0 r.1.Stages).p S w
abbrev D30t1 (b10 : Nat) (b11 : Nat) (b9 : Nat) : Slots := [(2, .pointer (some ⟨b9, 0, none⟩)), (3, .pointer (some ⟨b10, 0, none⟩)), (4, .pointer (some ⟨b11, 0, none⟩))]
abbrev D30t2 (a1 : Response) (b5 : Response) (b50 : Nat) (b51 : Nat) (k3 : Nat) (k41 : Nat) (k47 : Nat) (k7 : Nat) (p2 : Option Addr) (p40 : Option Addr) (p46 : Option Addr) (p6 : Option Addr) (rv39 : Response) (rv45 : Response) : Vs := [(0, 17, .agg #[.slice p2 a1.Stages.length k3]), (1, 18, .agg #[.slice p40 rv39.Stages.length k41]), (2, 19, .agg #[.slice p6 b5.Stages.length k7]), (3, 20, .agg #[.slice p46 rv45.Stages.length k47]), (4, 6, .pointer (some ⟨b50, 0, none⟩)), (5, 7, .pointer (some ⟨b51, 0, none⟩))]
set_option maxHeartbeats 4000000 in
set_option maxRecDepth 100000 in
theorem ref18_Join_ok {w0 : World} {S0 : Nat → Prop} {p2 : Option Addr} {k3 : Nat} {p6 : Option Addr} {k7 : Nat} {a1 : Response} {b5 : Response} {r : (Response × Int)} (hsh : ref18_Join a1 b5 = some r) (hS : ∀ b, S0 b → b < w0.heap.size) (h4 : (SlA p2 a1.Stages.length k3 a1.Stages).p S0 w0) (h8 : (SlA p6 b5.Stages.length k7 b5.Stages).p S0 w0) : Calls Try.prog 30 #[.agg #[.slice p2 a1.Stages.length k3], .agg #[.slice p6 b5.Stages.length k7]] w0 (Ret ([]) w0 S0 (ref18_Join_rd w0 ([]) r)) := by
 refine calls_of_wp Try.func30 rfl ?_
 have hs := Sl.enter #[.agg #[.slice p2 a1.Stages.length k3], .agg #[.slice p6 b5.Stages.length k7]] 32 [(0, .agg #[.slice p2 a1.Stages.length k3]), (1, .agg #[.slice p6 b5.Stages.length k7])] rfl ⟨rfl, rfl, trivial⟩
 have hw := Wd.enter (E := []) hS (fun _ h => (by cases h))
 have hw := hw.addE h4
 have hw := hw.addE h8
 delta ref18_Join at hsh
 refine sr ?_
 refine w_box (cs := [.slice p2 a1.Stages.length k3]) hs hw rfl rfl rfl trivial ?_
 intro b9 a w hs hw
 refine w_box (cs := [.slice p6 b5.Stages.length k7]) hs hw rfl rfl rfl trivial ?_
 intro b10 a w hs hw
 refine w_alloc (cs := [.slice none ([] : List Stage).length 0]) hs hw Try.zeroValue37 rfl rfl trivial ?_
 intro b11 a w hs hw
 refine av hs rfl rfl fun a hs => ?_
 refine nl ?_
 refine wp_seq ?_
 refine sr ?_
 refine sv hs (y_loadBA (hw.ownAt 2 rfl) rfl Try.isAgg37 Try.sizeOf37 rfl rfl) rfl fun a hs => ?_
 obtain ⟨rv13, h12, hsh⟩ := bind_t hsh
 refine st_callR hs (ref18_Valid_ok h12 hw.bdom (hw.bE 1 rfl)) (do_call Try.call34 rfl) trivial rfl rfl ?_
 intro v17 Sv14 w a h15 h16 hs
 subst h16
 have hw := hw.callB h15
 refine sv hs (y_not rfl) rfl fun a hs => ?_
 refine mv hs rfl rfl fun a hs => ?_
 obtain ⟨c27, hc27, hsh⟩ := bind_t hsh
 refine wpl_join 4 (fun a w => ∃ (Sv28 : Nat → Prop), Sl 32 [(2, .pointer (some ⟨b9, 0, none⟩)), (3, .pointer (some ⟨b10, 0, none⟩)), (4, .pointer (some ⟨b11, 0, none⟩)), (15, .bool c27)] a ∧ Wd ⟨w0, S0, []⟩ Sv28 [.box b9 [.slice p2 a1.Stages.length k3] 37, .box b10 [.slice p6 b5.Stages.length k7] 37, .box b11 [.slice none ([] : List Stage).length 0] 37] [SlA p2 a1.Stages.length k3 a1.Stages, SlA p6 b5.Stages.length k7 b5.Stages, SlA none ([] : List Stage).length 0 ([] : List Stage)] w) ?_ ?_
 ·rcases Bool.eq_false_or_eq_true (!rv13) with h26 | h26
  ·have hs := hs.fix 11 (.bool true) rfl (vb h26)
   have hsh := ite_t hc27 h26
   refine st_skip hs rfl rfl rfl rfl rfl fun a hs => ?_
   refine st_skip hs rfl rfl rfl rfl rfl fun a hs => ?_
   refine st_skip hs rfl rfl rfl rfl rfl fun a hs => ?_
   refine sv hs (y_pickT rfl rfl) rfl fun a hs => ?_
   refine wpList_nil ?_
   have hw := hw.addE (e := SlA (α := Stage) none 0 0 []) nil_sl
   have hsh := oi hsh
   subst hsh
   refine then_normal ?_
   exact ⟨S0, (hs.wk rfl), (hw.ft [2, 1, 0] [2, 1, 0] (by decide) rfl rfl)⟩
  have hs := hs.fix 11 (.bool false) rfl (vb h26)
  have hsh := ite_f hc27 h26
  refine st_val hs (y_loadBA (hw.ownAt 1 rfl) rfl Try.isAgg37 Try.sizeOf37 rfl rfl) ⟨_, rfl, rfl⟩ rfl rfl fun a hs => ?_
  obtain ⟨rv30, h29, hsh⟩ := bind_t hsh
  refine st_callR hs (ref18_Valid_ok h29 hw.bdom (hw.bE 0 rfl)) (do_call Try.call34 rfl) ⟨_, rfl, rfl⟩ rfl rfl ?_
  intro v34 Sv31 w a h32 h33 hs
  subst h33
  have hw := hw.callB h32
  refine st_val hs (y_not rfl) ⟨_, rfl, rfl⟩ rfl rfl fun a hs => ?_
  refine sv hs (y_pickF rfl rfl) rfl fun a hs => ?_
  refine wpList_nil ?_
  have hw := hw.addE (e := SlA (α := Stage) none 0 0 []) nil_sl
  have hsh := oi hsh
  subst hsh
  refine then_normal ?_
  exact ⟨S0, (hs.wk rfl), (hw.ft [2, 1, 0] [2, 1, 0] (by decide) rfl rfl)⟩
 rintro a w ⟨Sv28, hs, hw⟩
 refine nl ?_
 refine wp_cond_split (hs.ev rfl) (fun h37 => ?_) (fun h37 => ?_)
 ·have hsh := ite_t hsh h37
  refine sr ?_
  refine sv hs (y_build (vs := []) Bld37 rfl rfl) rfl fun a hs => ?_
  refine w_store (m := 1) (cs' := [.slice none ([] : List Stage).length 0]) hs hw 2 rfl rfl rfl Try.sizeOf37 rfl rfl rfl rfl trivial ?_
  intro a w hs hw
  refine av hs rfl rfl fun a hs => ?_
  refine nl ?_
  have hsh := oi hsh
  subst hsh
  have hw := hw.nilRow Stage 26
  refine wp_ret ?_
  refine then_ret ?_
  exact ret2 hs rfl (rv_cell hw 3 rfl rfl Try.isAgg37 Try.sizeOf37 rfl) (rv_tmp rfl) (hw.ret ⟨none, 0, [], rfl, (hw.outs [0] (by decide) rfl), (hw.envAt 0 rfl)⟩)
 have hsh := ite_f hsh h37
 refine wp_skip ?_
 refine then_normal ?_
 refine wp_seq ?_
 obtain ⟨rv39, h38, hsh⟩ := bind_t hsh
 obtain ⟨rv45, h44, hsh⟩ := bind_t hsh
 refine wp_only (fun a w => ∃ (Sv52 : Nat → Prop) (b50 : Nat) (b51 : Nat) (c43 : List Value) (c49 : List Value) (k41 : Nat) (k47 : Nat) (p40 : Option Addr) (p46 : Option Addr), Sl 32 [(4, .pointer (some ⟨b11, 0, none⟩)), (6, .pointer (some ⟨b50, 0, none⟩)), (7, .pointer (some ⟨b51, 0, none⟩))] a ∧ Wd ⟨w0, S0, []⟩ Sv52 [.box b11 [.slice none ([] : List Stage).length 0] 37, .box b50 [.slice p40 rv39.Stages.length k41] 37, .box b51 [.slice p46 rv45.Stages.length k47] 37, .row p40 rv39.Stages.length k41 c43 26 10, .row p46 rv45.Stages.length k47 c49 26 10] [SlA none ([] : List Stage).length 0 ([] : List Stage), RowA c43 rv39.Stages, RowA c49 rv45.Stages] w) ?_ ?_
 ·refine wp_region_phi (n := 8) (Φ := fun l a w => ∃ (b50 : Nat) (b51 : Nat) (c43 : List Value) (c49 : List Value) (k41 : Nat) (k47 : Nat) (p40 : Option Addr) (p46 : Option Addr) (S : Nat → Prop), SlF 32 (D30t1 b10 b11 b9) (D30t2 a1 b5 b50 b51 k3 k41 k47 k7 p2 p40 p46 p6 rv39 rv45) l a ∧ Wd ⟨w0, S0, []⟩ S [.box b9 [.slice p2 a1.Stages.length k3] 37, .box b10 [.slice p6 b5.Stages.length k7] 37, .box b11 [.slice none ([] : List Stage).length 0] 37, ((bif l 1 then .row p40 rv39.Stages.length k41 c43 26 10 else emp) : Res), ((bif l 3 then .row p46 rv45.Stages.length k47 c49 26 10 else emp) : Res), ((bif l 6 then .box b50 [.slice p40 rv39.Stages.length k41] 37 else (bif l 4 then .box b50 [.slice none ([] : List Stage).length 0] 37 else emp)) : Res), ((bif l 7 then .box b51 [.slice p46 rv45.Stages.length k47] 37 else (bif l 5 then .box b51 [.slice none ([] : List Stage).length 0] 37 else emp)) : Res)] [SlA p2 a1.Stages.length k3 a1.Stages, SlA p6 b5.Stages.length k7 b5.Stages, SlA none ([] : List Stage).length 0 ([] : List Stage), optA (l 1) (RowA c43 rv39.Stages), optA (l 3) (RowA c49 rv45.Stages)] w) [1, 2, 1, 3, 1, 1, 4, 5] (by kernel_rfl) rfl (by kernel_rfl) ?_ (AllS.succ (AllS.succ (AllS.succ (AllS.succ (AllS.succ (AllS.succ (AllS.succ (AllS.succ AllS.zero ?_) ?_) ?_) ?_) ?_) ?_) ?_) ?_) ?_
  ·obtain ⟨b50, b51, c43, c49, k41, k47, p40, p46, _⟩ : ∃ (b50 : Nat) (b51 : Nat) (c43 : List Value) (c49 : List Value) (k41 : Nat) (k47 : Nat) (p40 : Option Addr) (p46 : Option Addr), True := ⟨0, 0, [], [], 0, 0, none, none, trivial⟩
   have hw := hw.drew
   have hw := hw.emp
   have hw := hw.emp
   have hw := hw.emp
   have hw := hw.emp
   have hw := hw.noE (RowA c49 rv45.Stages)
   have hw := hw.noE (RowA c43 rv39.Stages)
   exact ⟨b50, b51, c43, c49, k41, k47, p40, p46, Sv28, SlF.init (hs.wk rfl) (by kernel_rfl), hw.ft [4, 5, 6, 0, 1, 2, 3] [2, 3, 4, 0, 1] (by decide) rfl rfl⟩
  ·intro l hi hp hc a w ⟨b50, b51, c43, c49, k41, k47, p40, p46, S, hS, hw⟩
   refine S_val hS (.b (t := 2) rfl .nil) rfl rfl trivial (y_loadBA (hw.ownAt 0 rfl) rfl Try.isAgg37 Try.sizeOf37 rfl rfl) (rfl) 0 rfl fun a hS => ⟨b50, b51, c43, c49, k41, k47, p40, p46, S, hS, hw⟩
  ·intro l hi hp hc a w ⟨b50, b51, c43, c49, k41, k47, p40, p46, S, hS, hw⟩
   have h_0 := hp 0 rfl
   refine S_eff rfl ?_
   have hs := hS.open_ (.v (t := 17) 0 rfl h_0 .nil)
   refine st_callR hs (ref18_Copy_ok h38 hw.dom (hw.envAt 0 rfl)) (do_call Try.call21 rfl) trivial rfl rfl ?_
   intro v71 Sv68 w a h69 h70 hs
   obtain ⟨p40, k41, c43, rfl, h72, h42⟩ := h70
   have hw := hw.callN h69 h72
   have hw := hw.addE (e := RowA c43 rv39.Stages) h42
   have h_6 := l_neg hc 6 hi rfl
   have hw := hw.fixR 6 (r' := (bif l 4 then .box b50 [.slice none ([] : List Stage).length 0] 37 else emp)) rfl ((bF h_6))
   have hw := hw.fixR 6 (r' := (bif l 6 then .box b50 [.slice p40 rv39.Stages.length k41] 37 else (bif l 4 then .box b50 [.slice none ([] : List Stage).length 0] 37 else emp))) rfl ((bF h_6)).symm
   have hw := hw.opt 0 rfl true
   refine nl ?_
   exact ⟨b50, b51, c43, c49, k41, k47, p40, p46, Sv68, hS.close (.v (t := 17) 0 rfl h_0 .nil) hs rfl (.same (.here (.same (.same (.same (.same .nil)))))) 1 rfl, hw.ft [1, 2, 3, 0, 5, 6, 7] [2, 3, 4, 0, 6] (by decide) rfl rfl⟩
  ·intro l hi hp hc a w ⟨b50, b51, c43, c49, k41, k47, p40, p46, S, hS, hw⟩
   refine S_val hS (.b (t := 3) rfl .nil) rfl rfl trivial (y_loadBA (hw.ownAt 1 rfl) rfl Try.isAgg37 Try.sizeOf37 rfl rfl) (rfl) 2 rfl fun a hS => ⟨b50, b51, c43, c49, k41, k47, p40, p46, S, hS, hw⟩
  ·intro l hi hp hc a w ⟨b50, b51, c43, c49, k41, k47, p40, p46, S, hS, hw⟩
   have h_2 := hp 2 rfl
   refine S_eff rfl ?_
   have hs := hS.open_ (.v (t := 19) 2 rfl h_2 .nil)
   refine st_callR hs (ref18_Copy_ok h44 hw.dom (hw.envAt 1 rfl)) (do_call Try.call21 rfl) trivial rfl rfl ?_
   intro v81 Sv78 w a h79 h80 hs
   obtain ⟨p46, k47, c49, rfl, h82, h48⟩ := h80
   have hw := hw.callN h79 h82
   have hw := hw.addE (e := RowA c49 rv45.Stages) h48
   have h_7 := l_neg hc 7 hi rfl
   have hw := hw.fixR 7 (r' := (bif l 5 then .box b51 [.slice none ([] : List Stage).length 0] 37 else emp)) rfl ((bF h_7))
   have hw := hw.fixR 7 (r' := (bif l 7 then .box b51 [.slice p46 rv45.Stages.length k47] 37 else (bif l 5 then .box b51 [.slice none ([] : List Stage).length 0] 37 else emp))) rfl ((bF h_7)).symm
   have hw := hw.opt 0 rfl true
   refine nl ?_
   exact ⟨b50, b51, c43, c49, k41, k47, p40, p46, Sv78, hS.close (.v (t := 19) 2 rfl h_2 .nil) hs rfl (.same (.same (.same (.here (.same (.same .nil)))))) 3 rfl, hw.ft [1, 2, 3, 4, 0, 6, 7] [2, 3, 4, 5, 0] (by decide) rfl rfl⟩
  ·intro l hi hp hc a w ⟨b50, b51, c43, c49, k41, k47, p40, p46, S, hS, hw⟩
   refine S_eff rfl ?_
   have hs := hS.open_ .nil
   refine w_alloc (cs := [.slice none ([] : List Stage).length 0]) hs hw Try.zeroValue37 rfl rfl trivial ?_
   intro b50 a w hs hw
   have h_6 := l_neg hc 6 hi rfl
   have hw := hw.fixR 0 (r' := (bif l 6 then .box b50 [.slice p40 rv39.Stages.length k41] 37 else .box b50 [.slice none ([] : List Stage).length 0] 37)) rfl ((bF h_6)).symm
   refine nl ?_
   exact ⟨b50, b51, c43, c49, k41, k47, p40, p46, S, hS.close .nil hs rfl (.same (.same (.same (.same (.here (.same .nil)))))) 4 rfl, hw.ft [1, 2, 3, 4, 5, 0, 7] [0, 1, 2, 3, 4] (by decide) rfl rfl⟩
  ·intro l hi hp hc a w ⟨b50, b51, c43, c49, k41, k47, p40, p46, S, hS, hw⟩
   refine S_eff rfl ?_
   have hs := hS.open_ .nil
   refine w_alloc (cs := [.slice none ([] : List Stage).length 0]) hs hw Try.zeroValue37 rfl rfl trivial ?_
   intro b51 a w hs hw
   have h_7 := l_neg hc 7 hi rfl
   have hw := hw.fixR 0 (r' := (bif l 7 then .box b51 [.slice p46 rv45.Stages.length k47] 37 else .box b51 [.slice none ([] : List Stage).length 0] 37)) rfl ((bF h_7)).symm
   refine nl ?_
   exact ⟨b50, b51, c43, c49, k41, k47, p40, p46, S, hS.close .nil hs rfl (.same (.same (.same (.same (.same (.here .nil)))))) 5 rfl, hw.ft [1, 2, 3, 4, 5, 6, 0] [0, 1, 2, 3, 4] (by decide) rfl rfl⟩
  ·intro l hi hp hc a w ⟨b50, b51, c43, c49, k41, k47, p40, p46, S, hS, hw⟩
   have h_4 := hp 4 rfl
   have hw := hw.fixR 5 (r' := .box b50 [.slice none ([] : List Stage).length 0] 37) rfl ((bF hi).trans ((bT h_4)))
   have h_1 := hp 1 rfl
   refine S_eff rfl ?_
   have hs := hS.open_ (.v (t := 6) 4 rfl h_4 (.v (t := 18) 1 rfl h_1 .nil))
   refine w_store (m := 1) (cs' := [.slice p40 rv39.Stages.length k41]) hs hw 5 rfl rfl rfl Try.sizeOf37 rfl rfl rfl rfl trivial ?_
   intro a w hs hw
   refine nl ?_
   exact ⟨b50, b51, c43, c49, k41, k47, p40, p46, S, hS.close0 (.v (t := 6) 4 rfl h_4 (.v (t := 18) 1 rfl h_1 .nil)) hs rfl, hw.ft [0, 1, 2, 3, 4, 5, 6] [0, 1, 2, 3, 4] (by decide) rfl rfl⟩
  ·intro l hi hp hc a w ⟨b50, b51, c43, c49, k41, k47, p40, p46, S, hS, hw⟩
   have h_5 := hp 5 rfl
   have hw := hw.fixR 6 (r' := .box b51 [.slice none ([] : List Stage).length 0] 37) rfl ((bF hi).trans ((bT h_5)))
   have h_3 := hp 3 rfl
   refine S_eff rfl ?_
   have hs := hS.open_ (.v (t := 7) 5 rfl h_5 (.v (t := 20) 3 rfl h_3 .nil))
   refine w_store (m := 1) (cs' := [.slice p46 rv45.Stages.length k47]) hs hw 6 rfl rfl rfl Try.sizeOf37 rfl rfl rfl rfl trivial ?_
   intro a w hs hw
   refine nl ?_
   exact ⟨b50, b51, c43, c49, k41, k47, p40, p46, S, hS.close0 (.v (t := 7) 5 rfl h_5 (.v (t := 20) 3 rfl h_3 .nil)) hs rfl, hw.ft [0, 1, 2, 3, 4, 5, 6] [0, 1, 2, 3, 4] (by decide) rfl rfl⟩
  intro l a w hl ⟨b50, b51, c43, c49, k41, k47, p40, p46, S, hS, hw⟩
  have hw := hw.yes 3 rfl (hl 1 (by decide))
  have hw := hw.yes 5 rfl (hl 3 (by decide))
  have hw := hw.fixR 5 (r' := .box b50 [.slice p40 rv39.Stages.length k41] 37) rfl (bT (hl 6 (by decide)))
  have hw := hw.fixR 6 (r' := .box b51 [.slice p46 rv45.Stages.length k47] 37) rfl (bT (hl 7 (by decide)))
  have hw := hw.fixR 3 (r' := .row p40 rv39.Stages.length k41 c43 26 10) rfl (bT (hl 1 (by decide)))
  have hw := hw.fixR 4 (r' := .row p46 rv45.Stages.length k47 c49 26 10) rfl (bT (hl 3 (by decide)))
  have hs := hS.on (.b (t := 4) rfl (.v (t := 6) 4 rfl (hl 4 (by decide)) (.v (t := 7) 5 rfl (hl 5 (by decide)) .nil)))
  exact ⟨S, b50, b51, c43, c49, k41, k47, p40, p46, (hs.wk rfl), (hw.ft [2, 5, 6, 3, 4] [4, 1, 0] (by decide) rfl rfl)⟩
 rintro a w ⟨Sv52, b50, b51, c43, c49, k41, k47, p40, p46, hs, hw⟩
 refine then_normal ?_
 refine sr ?_
 refine sv hs (y_fieldAddr (o' := 0) Try.runUnderlying37 rfl Try.sizeOf35 rfl rfl rfl) rfl fun a hs => ?_
 refine sv hs (y_loadB1 (hw.ownAt 1 rfl) rfl Try.isAgg35 rfl) rfl fun a hs => ?_
 refine sv hs (y_fieldAddr (o' := 0) Try.runUnderlying37 rfl Try.sizeOf35 rfl rfl rfl) rfl fun a hs => ?_
 refine sv hs (y_loadB1 (hw.ownAt 2 rfl) rfl Try.isAgg35 rfl) rfl fun a hs => ?_
 obtain ⟨l84, h83, hsh⟩ := bind_t hsh
 refine w_appendR (α := Stage) hs hw El35 3 rfl rfl rfl 1 rfl 4 rfl 2 rfl h83 rfl trivial ?_
 intro p85 k86 c87 a w hs hw
 refine sv hs (y_fieldAddr (o' := 0) Try.runUnderlying37 rfl Try.sizeOf35 rfl rfl rfl) rfl fun a hs => ?_
 refine w_store (m := 1) (cs' := [.slice p85 l84.length k86]) hs hw 1 rfl rfl rfl Try.sizeOf35 rfl rfl rfl rfl trivial ?_
 intro a w hs hw
 refine nl ?_
 refine wp_seq ?_
 refine sr ?_
 refine sv hs (y_loadBA (hw.ownAt 1 rfl) rfl Try.isAgg37 Try.sizeOf37 rfl rfl) rfl fun a hs => ?_
 obtain ⟨rv89, h88, hsh⟩ := bind_t hsh
 refine st_callR hs (ref18_Valid_ok h88 hw.bdom (hw.bRow 3 rfl 0 rfl)) (do_call Try.call34 rfl) trivial rfl rfl ?_
 intro v93 Sv90 w a h91 h92 hs
 subst h92
 have hw := hw.callB h91
 refine sv hs (y_not rfl) rfl fun a hs => ?_
 refine nl ?_
 refine wp_cond_split (hs.ev rfl) (fun h96 => ?_) (fun h96 => ?_)
 ·have hsh := ite_t hsh h96
  refine sr ?_
  refine sv hs (y_build (vs := []) Bld37 rfl rfl) rfl fun a hs => ?_
  refine w_store (m := 1) (cs' := [.slice none ([] : List Stage).length 0]) hs hw 0 rfl rfl rfl Try.sizeOf37 rfl rfl rfl rfl trivial ?_
  intro a w hs hw
  refine av hs rfl rfl fun a hs => ?_
  refine nl ?_
  have hsh := oi hsh
  subst hsh
  have hw := hw.nilRow Stage 26
  refine wp_ret ?_
  refine then_ret ?_
  exact ret2 hs rfl (rv_cell hw 1 rfl rfl Try.isAgg37 Try.sizeOf37 rfl) (rv_tmp rfl) (hw.ret ⟨none, 0, [], rfl, (hw.outs [0] (by decide) rfl), (hw.envAt 0 rfl)⟩)
 have hsh := ite_f hsh h96
 refine wp_skip ?_
 refine then_normal ?_
 refine sr ?_
 refine sv hs (y_loadBA (hw.ownAt 1 rfl) rfl Try.isAgg37 Try.sizeOf37 rfl rfl) rfl fun a hs => ?_
 refine w_store (m := 1) (cs' := [.slice p85 l84.length k86]) hs hw 0 rfl rfl rfl Try.sizeOf37 rfl rfl rfl rfl trivial ?_
 intro a w hs hw
 refine av hs rfl rfl fun a hs => ?_
 refine nl ?_
 have hsh := oi hsh
 subst hsh
 refine wp_ret ?_
 exact ret2 hs rfl (rv_cell hw 0 rfl rfl Try.isAgg37 Try.sizeOf37 rfl) (rv_tmp rfl) (hw.ret ⟨p85, k86, c87, rfl, (hw.outs [3] (by decide) rfl), (hw.envAt 0 rfl)⟩)

abbrev response_Factor_rd (w0 : World) (X : List Nat) (r : (Int × Int)) : (Nat → Prop) → World → Value → Prop := fun S w v => v = .tuple #[.int .i64 r.1, .int .i64 r.2]
set_option maxHeartbeats 4000000 in
set_option maxRecDepth 100000 in
theorem response_Factor_ok {w0 : World} {S0 : Nat → Prop} {p2 : Option Addr} {k3 : Nat} {r1 : Response} {r : (Int × Int)} (hsh : response_Factor r1 = some r) (hS : ∀ b, S0 b → b < w0.heap.size) (h4 : (SlA p2 r1.Stages.length k3 r1.Stages).p S0 w0) : Calls Try.prog 18 #[.agg #[.slice p2 r1.Stages.length k3]] w0 (Ret ([]) w0 S0 (response_Factor_rd w0 ([]) r)) := by
 refine calls_of_wp Try.func18 rfl ?_
 have hs := Sl.enter #[.agg #[.slice p2 r1.Stages.length k3]] 10 [(0, .agg #[.slice p2 r1.Stages.length k3])] rfl ⟨rfl, trivial⟩
 have hw := Wd.enter (E := []) hS (fun _ h => (by cases h))
 have hw := hw.addE h4
 delta response_Factor at hsh
 refine sr ?_
 refine w_box (cs := [.slice p2 r1.Stages.length k3]) hs hw rfl rfl rfl trivial ?_
 intro b5 a w hs hw
 refine av hs rfl rfl fun a hs => ?_
 refine av hs rfl rfl fun a hs => ?_
 refine nl ?_
 refine wp_seq ?_
 refine sr ?_
 refine sv hs (y_loadBA (hw.ownAt 0 rfl) rfl Try.isAgg37 Try.sizeOf37 rfl rfl) rfl fun a hs => ?_
 obtain ⟨rv7, h6, hsh⟩ := bind_t hsh
 refine st_callR hs (response_Valid_ok h6 hw.bdom (hw.bE 0 rfl)) (do_call Try.call33 rfl) trivial rfl rfl ?_
 intro v11 Sv8 w a h9 h10 hs
 subst h10
 have hw := hw.callB h9
 refine sv hs (y_not rfl) rfl fun a hs => ?_
 refine nl ?_
 refine wp_cond_split (hs.ev rfl) (fun h14 => ?_) (fun h14 => ?_)
 ·have hsh := ite_t hsh h14
  refine sr ?_
  refine av hs rfl rfl fun a hs => ?_
  refine av hs rfl rfl fun a hs => ?_
  refine nl ?_
  have hsh := oi hsh
  subst hsh
  refine wp_ret ?_
  refine then_ret ?_
  exact ret2 hs rfl (rv_tmp rfl) (rv_tmp rfl) (hw.ret rfl)
 have hsh := ite_f hsh h14
 refine wp_skip ?_
 refine then_normal ?_
 refine sr ?_
 refine sv hs (y_fieldAddr (o' := 0) Try.runUnderlying37 rfl Try.sizeOf35 rfl rfl rfl) rfl fun a hs => ?_
 refine sv hs (y_loadB1 (hw.ownAt 0 rfl) rfl Try.isAgg35 rfl) rfl fun a hs => ?_
 obtain ⟨rv16, h15, hsh⟩ := bind_t hsh
 refine st_callR hs (response_factor_ok h15 hw.bdom (hw.bE 0 rfl)) (do_call Try.call51 rfl) trivial rfl rfl ?_
 intro v20 Sv17 w a h18 h19 hs
 subst h19
 have hw := hw.callB h18
 refine av hs rfl rfl fun a hs => ?_
 refine av hs rfl rfl fun a hs => ?_
 refine nl ?_
 have hsh := oi hsh
 subst hsh
 refine wp_ret ?_
 exact ret2 hs rfl (rv_tmp rfl) (rv_tmp rfl) (hw.ret rfl)

abbrev ref18_Factor_rd (w0 : World) (X : List Nat) (r : (Int × Int)) : (Nat → Prop) → World → Value → Prop := fun S w v => v = .tuple #[.int .i64 r.1, .int .i64 r.2]
set_option maxHeartbeats 4000000 in
set_option maxRecDepth 100000 in
theorem ref18_Factor_ok {w0 : World} {S0 : Nat → Prop} {p2 : Option Addr} {k3 : Nat} {r1 : Response} {r : (Int × Int)} (hsh : ref18_Factor r1 = some r) (hS : ∀ b, S0 b → b < w0.heap.size) (h4 : (SlA p2 r1.Stages.length k3 r1.Stages).p S0 w0) : Calls Try.prog 31 #[.agg #[.slice p2 r1.Stages.length k3]] w0 (Ret ([]) w0 S0 (ref18_Factor_rd w0 ([]) r)) := by
 refine calls_of_wp Try.func31 rfl ?_
 have hs := Sl.enter #[.agg #[.slice p2 r1.Stages.length k3]] 9 [(0, .agg #[.slice p2 r1.Stages.length k3])] rfl ⟨rfl, trivial⟩
 have hw := Wd.enter (E := []) hS (fun _ h => (by cases h))
 have hw := hw.addE h4
 delta ref18_Factor at hsh
 refine sr ?_
 refine w_box (cs := [.slice p2 r1.Stages.length k3]) hs hw rfl rfl rfl trivial ?_
 intro b5 a w hs hw
 refine av hs rfl rfl fun a hs => ?_
 refine av hs rfl rfl fun a hs => ?_
 refine nl ?_
 refine wp_seq ?_
 refine sr ?_
 refine sv hs (y_loadBA (hw.ownAt 0 rfl) rfl Try.isAgg37 Try.sizeOf37 rfl rfl) rfl fun a hs => ?_
 obtain ⟨rv7, h6, hsh⟩ := bind_t hsh
 refine st_callR hs (ref18_Valid_ok h6 hw.bdom (hw.bE 0 rfl)) (do_call Try.call34 rfl) trivial rfl rfl ?_
 intro v11 Sv8 w a h9 h10 hs
 subst h10
 have hw := hw.callB h9
 refine sv hs (y_not rfl) rfl fun a hs => ?_
 refine nl ?_
 refine wp_cond_split (hs.ev rfl) (fun h14 => ?_) (fun h14 => ?_)
 ·have hsh := ite_t hsh h14
  refine sr ?_
  refine av hs rfl rfl fun a hs => ?_
  refine av hs rfl rfl fun a hs => ?_
  refine nl ?_
  have hsh := oi hsh
  subst hsh
  refine wp_ret ?_
  refine then_ret ?_
  exact ret2 hs rfl (rv_tmp rfl) (rv_tmp rfl) (hw.ret rfl)
 have hsh := ite_f hsh h14
 refine wp_skip ?_
 refine then_normal ?_
 refine sr ?_
 refine sv hs (y_loadBA (hw.ownAt 0 rfl) rfl Try.isAgg37 Try.sizeOf37 rfl rfl) rfl fun a hs => ?_
 obtain ⟨rv16, h15, hsh⟩ := bind_t hsh
 refine st_callR hs (ref18_factor_ok h15 hw.bdom (hw.bE 0 rfl)) (do_call Try.call61 rfl) trivial rfl rfl ?_
 intro v20 Sv17 w a h18 h19 hs
 subst h19
 have hw := hw.callB h18
 refine av hs rfl rfl fun a hs => ?_
 refine av hs rfl rfl fun a hs => ?_
 refine nl ?_
 have hsh := oi hsh
 subst hsh
 refine wp_ret ?_
 exact ret2 hs rfl (rv_tmp rfl) (rv_tmp rfl) (hw.ret rfl)

abbrev ref18_SameStage_rd (w0 : World) (X : List Nat) (r : Bool) : (Nat → Prop) → World → Value → Prop := fun S w v => v = .bool r
set_option maxHeartbeats 4000000 in
set_option maxRecDepth 100000 in
theorem ref18_SameStage_ok {w0 : World} {S0 : Nat → Prop} {p2 : Option Addr} {k3 : Nat} {p6 : Option Addr} {k7 : Nat} {a1 : Stage} {b5 : Stage} {r : Bool} (hsh : ref18_SameStage a1 b5 = some r) (hS : ∀ b, S0 b → b < w0.heap.size) (h4 : (SlA p2 a1.Taps.length k3 a1.Taps).p S0 w0) (h8 : (SlA p6 b5.Taps.length k7 b5.Taps).p S0 w0) : Calls Try.prog 63 #[.agg #[.int .i64 a1.Kind, .int .i64 a1.Num.e0, .int .i64 a1.Num.e1, .int .i64 a1.Num.e2, .int .i64 a1.Den.e0, .int .i64 a1.Den.e1, .int .i64 a1.Den.e2, .slice p2 a1.Taps.length k3, .int .i64 a1.Factor, .int .i64 a1.Shift], .agg #[.int .i64 b5.Kind, .int .i64 b5.Num.e0, .int .i64 b5.Num.e1, .int .i64 b5.Num.e2, .int .i64 b5.Den.e0, .int .i64 b5.Den.e1, .int .i64 b5.Den.e2, .slice p6 b5.Taps.length k7, .int .i64 b5.Factor, .int .i64 b5.Shift]] w0 (Ret ([]) w0 S0 (ref18_SameStage_rd w0 ([]) r)) := by
 refine calls_of_wp Try.func63 rfl ?_
 have hs := Sl.enter #[.agg #[.int .i64 a1.Kind, .int .i64 a1.Num.e0, .int .i64 a1.Num.e1, .int .i64 a1.Num.e2, .int .i64 a1.Den.e0, .int .i64 a1.Den.e1, .int .i64 a1.Den.e2, .slice p2 a1.Taps.length k3, .int .i64 a1.Factor, .int .i64 a1.Shift], .agg #[.int .i64 b5.Kind, .int .i64 b5.Num.e0, .int .i64 b5.Num.e1, .int .i64 b5.Num.e2, .int .i64 b5.Den.e0, .int .i64 b5.Den.e1, .int .i64 b5.Den.e2, .slice p6 b5.Taps.length k7, .int .i64 b5.Factor, .int .i64 b5.Shift]] 66 [(0, .agg #[.int .i64 a1.Kind, .int .i64 a1.Num.e0, .int .i64 a1.Num.e1, .int .i64 a1.Num.e2, .int .i64 a1.Den.e0, .int .i64 a1.Den.e1, .int .i64 a1.Den.e2, .slice p2 a1.Taps.length k3, .int .i64 a1.Factor, .int .i64 a1.Shift]), (1, .agg #[.int .i64 b5.Kind, .int .i64 b5.Num.e0, .int .i64 b5.Num.e1, .int .i64 b5.Num.e2, .int .i64 b5.Den.e0, .int .i64 b5.Den.e1, .int .i64 b5.Den.e2, .slice p6 b5.Taps.length k7, .int .i64 b5.Factor, .int .i64 b5.Shift])] rfl ⟨rfl, rfl, trivial⟩
 have hw := Wd.enter (E := []) hS (fun _ h => (by cases h))
 have hw := hw.addE h4
 have hw := hw.addE h8
 delta ref18_SameStage at hsh
 refine sr ?_
 refine w_box (cs := [.int .i64 a1.Kind, .int .i64 a1.Num.e0, .int .i64 a1.Num.e1, .int .i64 a1.Num.e2, .int .i64 a1.Den.e0, .int .i64 a1.Den.e1, .int .i64 a1.Den.e2, .slice p2 a1.Taps.length k3, .int .i64 a1.Factor, .int .i64 a1.Shift]) hs hw rfl rfl rfl trivial ?_
 intro b9 a w hs hw
 refine w_box (cs := [.int .i64 b5.Kind, .int .i64 b5.Num.e0, .int .i64 b5.Num.e1, .int .i64 b5.Num.e2, .int .i64 b5.Den.e0, .int .i64 b5.Den.e1, .int .i64 b5.Den.e2, .slice p6 b5.Taps.length k7, .int .i64 b5.Factor, .int .i64 b5.Shift]) hs hw rfl rfl rfl trivial ?_
 intro b10 a w hs hw
 refine av hs rfl rfl fun a hs => ?_
 refine nl ?_
 refine wp_seq ?_
 refine sr ?_
 refine sv hs (y_fieldAddr (o' := 0) Try.runUnderlying26 rfl Try.sizeOf3 rfl rfl rfl) rfl fun a hs => ?_
 refine sv hs (y_loadB1 (hw.ownAt 1 rfl) rfl Try.isAgg3 rfl) rfl fun a hs => ?_
 refine sv hs (y_fieldAddr (o' := 0) Try.runUnderlying26 rfl Try.sizeOf3 rfl rfl rfl) rfl fun a hs => ?_
 refine sv hs (y_loadB1 (hw.ownAt 0 rfl) rfl Try.isAgg3 rfl) rfl fun a hs => ?_
 refine sv hs (y_neq rfl rfl) rfl fun a hs => ?_
 refine mv hs rfl rfl fun a hs => ?_
 refine wpl_join 6 (fun a w1 => w = w1 ∧ Sl 66 [(2, .pointer (some ⟨b9, 0, none⟩)), (3, .pointer (some ⟨b10, 0, none⟩)), (17, .bool ((a1.Kind != b5.Kind) || (!((a1.Num.e0 == b5.Num.e0) && ((a1.Num.e1 == b5.Num.e1) && ((a1.Num.e2 == b5.Num.e2) && true))))))] a) ?_ ?_
 ·rcases Bool.eq_false_or_eq_true (a1.Kind != b5.Kind) with h11 | h11
  ·have hs := hs.fix 11 (.bool true) rfl (vb h11)
   refine st_skip hs rfl rfl rfl rfl rfl fun a hs => ?_
   refine st_skip hs rfl rfl rfl rfl rfl fun a hs => ?_
   refine st_skip hs rfl rfl rfl rfl rfl fun a hs => ?_
   refine st_skip hs rfl rfl rfl rfl rfl fun a hs => ?_
   refine st_skip hs rfl rfl rfl rfl rfl fun a hs => ?_
   refine sv hs (y_pickT rfl rfl) rfl fun a hs => ?_
   refine nl ?_
   exact ⟨rfl, (hs.fix 17 (.bool ((a1.Kind != b5.Kind) || (!((a1.Num.e0 == b5.Num.e0) && ((a1.Num.e1 == b5.Num.e1) && ((a1.Num.e2 == b5.Num.e2) && true)))))) rfl (or_t h11)).weaken _ ⟨rfl, rfl, rfl, trivial⟩⟩
  have hs := hs.fix 11 (.bool false) rfl (vb h11)
  refine st_val hs (y_fieldAddr (o' := 1) Try.runUnderlying26 rfl Try.sizeOf23 rfl rfl rfl) ⟨_, rfl, rfl⟩ rfl rfl fun a hs => ?_
  refine st_val hs (y_loadBA (hw.ownAt 1 rfl) rfl Try.isAgg23 Try.sizeOf23 rfl rfl) ⟨_, rfl, rfl⟩ rfl rfl fun a hs => ?_
  refine st_val hs (y_fieldAddr (o' := 1) Try.runUnderlying26 rfl Try.sizeOf23 rfl rfl rfl) ⟨_, rfl, rfl⟩ rfl rfl fun a hs => ?_
  refine st_val hs (y_loadBA (hw.ownAt 0 rfl) rfl Try.isAgg23 Try.sizeOf23 rfl rfl) ⟨_, rfl, rfl⟩ rfl rfl fun a hs => ?_
  refine st_val hs (y_neqA (by kernel_rfl) rfl rfl (eqv_array Try.runUnderlying23 Try.sizeOf3 (EqA.cons1 Try.isAgg3 rfl rfl (eqv_int Try.runUnderlying3) (EqA.cons1 Try.isAgg3 rfl rfl (eqv_int Try.runUnderlying3) (EqA.cons1 Try.isAgg3 rfl rfl (eqv_int Try.runUnderlying3) EqA.nil))))) ⟨_, rfl, rfl⟩ rfl rfl fun a hs => ?_
  refine sv hs (y_pickF rfl rfl) rfl fun a hs => ?_
  refine nl ?_
  exact ⟨rfl, (hs.fix 17 (.bool ((a1.Kind != b5.Kind) || (!((a1.Num.e0 == b5.Num.e0) && ((a1.Num.e1 == b5.Num.e1) && ((a1.Num.e2 == b5.Num.e2) && true)))))) rfl (or_f h11)).weaken _ ⟨rfl, rfl, rfl, trivial⟩⟩
 rintro a w1 ⟨h284, hs⟩
 subst h284
 refine mv hs rfl rfl fun a hs => ?_
 refine wpl_join 6 (fun a w1 => w = w1 ∧ Sl 66 [(2, .pointer (some ⟨b9, 0, none⟩)), (3, .pointer (some ⟨b10, 0, none⟩)), (24, .bool (((a1.Kind != b5.Kind) || (!((a1.Num.e0 == b5.Num.e0) && ((a1.Num.e1 == b5.Num.e1) && ((a1.Num.e2 == b5.Num.e2) && true))))) || (!((a1.Den.e0 == b5.Den.e0) && ((a1.Den.e1 == b5.Den.e1) && ((a1.Den.e2 == b5.Den.e2) && true))))))] a) ?_ ?_
 ·rcases Bool.eq_false_or_eq_true ((a1.Kind != b5.Kind) || (!((a1.Num.e0 == b5.Num.e0) && ((a1.Num.e1 == b5.Num.e1) && ((a1.Num.e2 == b5.Num.e2) && true))))) with h12 | h12
  ·have hs := hs.fix 18 (.bool true) rfl (vb h12)
   refine st_skip hs rfl rfl rfl rfl rfl fun a hs => ?_
   refine st_skip hs rfl rfl rfl rfl rfl fun a hs => ?_
   refine st_skip hs rfl rfl rfl rfl rfl fun a hs => ?_
   refine st_skip hs rfl rfl rfl rfl rfl fun a hs => ?_
   refine st_skip hs rfl rfl rfl rfl rfl fun a hs => ?_
   refine sv hs (y_pickT rfl rfl) rfl fun a hs => ?_
   refine nl ?_
   exact ⟨rfl, (hs.fix 24 (.bool (((a1.Kind != b5.Kind) || (!((a1.Num.e0 == b5.Num.e0) && ((a1.Num.e1 == b5.Num.e1) && ((a1.Num.e2 == b5.Num.e2) && true))))) || (!((a1.Den.e0 == b5.Den.e0) && ((a1.Den.e1 == b5.Den.e1) && ((a1.Den.e2 == b5.Den.e2) && true)))))) rfl (or_t h12)).weaken _ ⟨rfl, rfl, rfl, trivial⟩⟩
  have hs := hs.fix 18 (.bool false) rfl (vb h12)
  refine st_val hs (y_fieldAddr (o' := 4) Try.runUnderlying26 rfl Try.sizeOf23 rfl rfl rfl) ⟨_, rfl, rfl⟩ rfl rfl fun a hs => ?_
  refine st_val hs (y_loadBA (hw.ownAt 1 rfl) rfl Try.isAgg23 Try.sizeOf23 rfl rfl) ⟨_, rfl, rfl⟩ rfl rfl fun a hs => ?_
  refine st_val hs (y_fieldAddr (o' := 4) Try.runUnderlying26 rfl Try.sizeOf23 rfl rfl rfl) ⟨_, rfl, rfl⟩ rfl rfl fun a hs => ?_
  refine st_val hs (y_loadBA (hw.ownAt 0 rfl) rfl Try.isAgg23 Try.sizeOf23 rfl rfl) ⟨_, rfl, rfl⟩ rfl rfl fun a hs => ?_
  refine st_val hs (y_neqA (by kernel_rfl) rfl rfl (eqv_array Try.runUnderlying23 Try.sizeOf3 (EqA.cons1 Try.isAgg3 rfl rfl (eqv_int Try.runUnderlying3) (EqA.cons1 Try.isAgg3 rfl rfl (eqv_int Try.runUnderlying3) (EqA.cons1 Try.isAgg3 rfl rfl (eqv_int Try.runUnderlying3) EqA.nil))))) ⟨_, rfl, rfl⟩ rfl rfl fun a hs => ?_
  refine sv hs (y_pickF rfl rfl) rfl fun a hs => ?_
  refine nl ?_
  exact ⟨rfl, (hs.fix 24 (.bool (((a1.Kind != b5.Kind) || (!((a1.Num.e0 == b5.Num.e0) && ((a1.Num.e1 == b5.Num.e1) && ((a1.Num.e2 == b5.Num.e2) && true))))) || (!((a1.Den.e0 == b5.Den.e0) && ((a1.Den.e1 == b5.Den.e1) && ((a1.Den.e2 == b5.Den.e2) && true)))))) rfl (or_f h12)).weaken _ ⟨rfl, rfl, rfl, trivial⟩⟩
 rintro a w1 ⟨h283, hs⟩
 subst h283
 refine mv hs rfl rfl fun a hs => ?_
 refine wpl_join 6 (fun a w1 => w = w1 ∧ Sl 66 [(2, .pointer (some ⟨b9, 0, none⟩)), (3, .pointer (some ⟨b10, 0, none⟩)), (31, .bool ((((a1.Kind != b5.Kind) || (!((a1.Num.e0 == b5.Num.e0) && ((a1.Num.e1 == b5.Num.e1) && ((a1.Num.e2 == b5.Num.e2) && true))))) || (!((a1.Den.e0 == b5.Den.e0) && ((a1.Den.e1 == b5.Den.e1) && ((a1.Den.e2 == b5.Den.e2) && true))))) || (a1.Factor != b5.Factor)))] a) ?_ ?_
 ·rcases Bool.eq_false_or_eq_true (((a1.Kind != b5.Kind) || (!((a1.Num.e0 == b5.Num.e0) && ((a1.Num.e1 == b5.Num.e1) && ((a1.Num.e2 == b5.Num.e2) && true))))) || (!((a1.Den.e0 == b5.Den.e0) && ((a1.Den.e1 == b5.Den.e1) && ((a1.Den.e2 == b5.Den.e2) && true))))) with h13 | h13
  ·have hs := hs.fix 25 (.bool true) rfl (vb h13)
   refine st_skip hs rfl rfl rfl rfl rfl fun a hs => ?_
   refine st_skip hs rfl rfl rfl rfl rfl fun a hs => ?_
   refine st_skip hs rfl rfl rfl rfl rfl fun a hs => ?_
   refine st_skip hs rfl rfl rfl rfl rfl fun a hs => ?_
   refine st_skip hs rfl rfl rfl rfl rfl fun a hs => ?_
   refine sv hs (y_pickT rfl rfl) rfl fun a hs => ?_
   refine nl ?_
   exact ⟨rfl, (hs.fix 31 (.bool ((((a1.Kind != b5.Kind) || (!((a1.Num.e0 == b5.Num.e0) && ((a1.Num.e1 == b5.Num.e1) && ((a1.Num.e2 == b5.Num.e2) && true))))) || (!((a1.Den.e0 == b5.Den.e0) && ((a1.Den.e1 == b5.Den.e1) && ((a1.Den.e2 == b5.Den.e2) && true))))) || (a1.Factor != b5.Factor))) rfl (or_t h13)).weaken _ ⟨rfl, rfl, rfl, trivial⟩⟩
  have hs := hs.fix 25 (.bool false) rfl (vb h13)
  refine st_val hs (y_fieldAddr (o' := 8) Try.runUnderlying26 rfl Try.sizeOf3 rfl rfl rfl) ⟨_, rfl, rfl⟩ rfl rfl fun a hs => ?_
  refine st_val hs (y_loadB1 (hw.ownAt 1 rfl) rfl Try.isAgg3 rfl) ⟨_, rfl, rfl⟩ rfl rfl fun a hs => ?_
  refine st_val hs (y_fieldAddr (o' := 8) Try.runUnderlying26 rfl Try.sizeOf3 rfl rfl rfl) ⟨_, rfl, rfl⟩ rfl rfl fun a hs => ?_
  refine st_val hs (y_loadB1 (hw.ownAt 0 rfl) rfl Try.isAgg3 rfl) ⟨_, rfl, rfl⟩ rfl rfl fun a hs => ?_
  refine st_val hs (y_neq rfl rfl) ⟨_, rfl, rfl⟩ rfl rfl fun a hs => ?_
  refine sv hs (y_pickF rfl rfl) rfl fun a hs => ?_
  refine nl ?_
  exact ⟨rfl, (hs.fix 31 (.bool ((((a1.Kind != b5.Kind) || (!((a1.Num.e0 == b5.Num.e0) && ((a1.Num.e1 == b5.Num.e1) && ((a1.Num.e2 == b5.Num.e2) && true))))) || (!((a1.Den.e0 == b5.Den.e0) && ((a1.Den.e1 == b5.Den.e1) && ((a1.Den.e2 == b5.Den.e2) && true))))) || (a1.Factor != b5.Factor))) rfl (or_f h13)).weaken _ ⟨rfl, rfl, rfl, trivial⟩⟩
 rintro a w1 ⟨h282, hs⟩
 subst h282
 refine mv hs rfl rfl fun a hs => ?_
 refine wpl_join 6 (fun a w1 => w = w1 ∧ Sl 66 [(2, .pointer (some ⟨b9, 0, none⟩)), (3, .pointer (some ⟨b10, 0, none⟩)), (38, .bool (((((a1.Kind != b5.Kind) || (!((a1.Num.e0 == b5.Num.e0) && ((a1.Num.e1 == b5.Num.e1) && ((a1.Num.e2 == b5.Num.e2) && true))))) || (!((a1.Den.e0 == b5.Den.e0) && ((a1.Den.e1 == b5.Den.e1) && ((a1.Den.e2 == b5.Den.e2) && true))))) || (a1.Factor != b5.Factor)) || (a1.Shift != b5.Shift)))] a) ?_ ?_
 ·rcases Bool.eq_false_or_eq_true ((((a1.Kind != b5.Kind) || (!((a1.Num.e0 == b5.Num.e0) && ((a1.Num.e1 == b5.Num.e1) && ((a1.Num.e2 == b5.Num.e2) && true))))) || (!((a1.Den.e0 == b5.Den.e0) && ((a1.Den.e1 == b5.Den.e1) && ((a1.Den.e2 == b5.Den.e2) && true))))) || (a1.Factor != b5.Factor)) with h14 | h14
  ·have hs := hs.fix 32 (.bool true) rfl (vb h14)
   refine st_skip hs rfl rfl rfl rfl rfl fun a hs => ?_
   refine st_skip hs rfl rfl rfl rfl rfl fun a hs => ?_
   refine st_skip hs rfl rfl rfl rfl rfl fun a hs => ?_
   refine st_skip hs rfl rfl rfl rfl rfl fun a hs => ?_
   refine st_skip hs rfl rfl rfl rfl rfl fun a hs => ?_
   refine sv hs (y_pickT rfl rfl) rfl fun a hs => ?_
   refine nl ?_
   exact ⟨rfl, (hs.fix 38 (.bool (((((a1.Kind != b5.Kind) || (!((a1.Num.e0 == b5.Num.e0) && ((a1.Num.e1 == b5.Num.e1) && ((a1.Num.e2 == b5.Num.e2) && true))))) || (!((a1.Den.e0 == b5.Den.e0) && ((a1.Den.e1 == b5.Den.e1) && ((a1.Den.e2 == b5.Den.e2) && true))))) || (a1.Factor != b5.Factor)) || (a1.Shift != b5.Shift))) rfl (or_t h14)).weaken _ ⟨rfl, rfl, rfl, trivial⟩⟩
  have hs := hs.fix 32 (.bool false) rfl (vb h14)
  refine st_val hs (y_fieldAddr (o' := 9) Try.runUnderlying26 rfl Try.sizeOf3 rfl rfl rfl) ⟨_, rfl, rfl⟩ rfl rfl fun a hs => ?_
  refine st_val hs (y_loadB1 (hw.ownAt 1 rfl) rfl Try.isAgg3 rfl) ⟨_, rfl, rfl⟩ rfl rfl fun a hs => ?_
  refine st_val hs (y_fieldAddr (o' := 9) Try.runUnderlying26 rfl Try.sizeOf3 rfl rfl rfl) ⟨_, rfl, rfl⟩ rfl rfl fun a hs => ?_
  refine st_val hs (y_loadB1 (hw.ownAt 0 rfl) rfl Try.isAgg3 rfl) ⟨_, rfl, rfl⟩ rfl rfl fun a hs => ?_
  refine st_val hs (y_neq rfl rfl) ⟨_, rfl, rfl⟩ rfl rfl fun a hs => ?_
  refine sv hs (y_pickF rfl rfl) rfl fun a hs => ?_
  refine nl ?_
  exact ⟨rfl, (hs.fix 38 (.bool (((((a1.Kind != b5.Kind) || (!((a1.Num.e0 == b5.Num.e0) && ((a1.Num.e1 == b5.Num.e1) && ((a1.Num.e2 == b5.Num.e2) && true))))) || (!((a1.Den.e0 == b5.Den.e0) && ((a1.Den.e1 == b5.Den.e1) && ((a1.Den.e2 == b5.Den.e2) && true))))) || (a1.Factor != b5.Factor)) || (a1.Shift != b5.Shift))) rfl (or_f h14)).weaken _ ⟨rfl, rfl, rfl, trivial⟩⟩
 rintro a w1 ⟨h281, hs⟩
 subst h281
 refine mv hs rfl rfl fun a hs => ?_
 refine wpl_join 8 (fun a w1 => w = w1 ∧ Sl 66 [(2, .pointer (some ⟨b9, 0, none⟩)), (3, .pointer (some ⟨b10, 0, none⟩)), (47, .bool ((((((a1.Kind != b5.Kind) || (!((a1.Num.e0 == b5.Num.e0) && ((a1.Num.e1 == b5.Num.e1) && ((a1.Num.e2 == b5.Num.e2) && true))))) || (!((a1.Den.e0 == b5.Den.e0) && ((a1.Den.e1 == b5.Den.e1) && ((a1.Den.e2 == b5.Den.e2) && true))))) || (a1.Factor != b5.Factor)) || (a1.Shift != b5.Shift)) || ((a1.Taps.length : Int) != (b5.Taps.length : Int))))] a) ?_ ?_
 ·rcases Bool.eq_false_or_eq_true (((((a1.Kind != b5.Kind) || (!((a1.Num.e0 == b5.Num.e0) && ((a1.Num.e1 == b5.Num.e1) && ((a1.Num.e2 == b5.Num.e2) && true))))) || (!((a1.Den.e0 == b5.Den.e0) && ((a1.Den.e1 == b5.Den.e1) && ((a1.Den.e2 == b5.Den.e2) && true))))) || (a1.Factor != b5.Factor)) || (a1.Shift != b5.Shift)) with h15 | h15
  ·have hs := hs.fix 39 (.bool true) rfl (vb h15)
   refine st_skip hs rfl rfl rfl rfl rfl fun a hs => ?_
   refine st_skip hs rfl rfl rfl rfl rfl fun a hs => ?_
   refine st_skip hs rfl rfl rfl rfl rfl fun a hs => ?_
   refine st_skip hs rfl rfl rfl rfl rfl fun a hs => ?_
   refine st_skip hs rfl rfl rfl rfl rfl fun a hs => ?_
   refine st_skip hs rfl rfl rfl rfl rfl fun a hs => ?_
   refine st_skip hs rfl rfl rfl rfl rfl fun a hs => ?_
   refine sv hs (y_pickT rfl rfl) rfl fun a hs => ?_
   refine nl ?_
   exact ⟨rfl, (hs.fix 47 (.bool ((((((a1.Kind != b5.Kind) || (!((a1.Num.e0 == b5.Num.e0) && ((a1.Num.e1 == b5.Num.e1) && ((a1.Num.e2 == b5.Num.e2) && true))))) || (!((a1.Den.e0 == b5.Den.e0) && ((a1.Den.e1 == b5.Den.e1) && ((a1.Den.e2 == b5.Den.e2) && true))))) || (a1.Factor != b5.Factor)) || (a1.Shift != b5.Shift)) || ((a1.Taps.length : Int) != (b5.Taps.length : Int)))) rfl (or_t h15)).weaken _ ⟨rfl, rfl, rfl, trivial⟩⟩
  have hs := hs.fix 39 (.bool false) rfl (vb h15)
  refine st_val hs (y_fieldAddr (o' := 7) Try.runUnderlying26 rfl Try.sizeOf24 rfl rfl rfl) ⟨_, rfl, rfl⟩ rfl rfl fun a hs => ?_
  refine st_val hs (y_loadB1 (hw.ownAt 1 rfl) rfl Try.isAgg24 rfl) ⟨_, rfl, rfl⟩ rfl rfl fun a hs => ?_
  refine st_val hs (y_len Try.runUnderlying24 rfl) ⟨_, rfl, rfl⟩ rfl rfl fun a hs => ?_
  refine st_val hs (y_fieldAddr (o' := 7) Try.runUnderlying26 rfl Try.sizeOf24 rfl rfl rfl) ⟨_, rfl, rfl⟩ rfl rfl fun a hs => ?_
  refine st_val hs (y_loadB1 (hw.ownAt 0 rfl) rfl Try.isAgg24 rfl) ⟨_, rfl, rfl⟩ rfl rfl fun a hs => ?_
  refine st_val hs (y_len Try.runUnderlying24 rfl) ⟨_, rfl, rfl⟩ rfl rfl fun a hs => ?_
  refine st_val hs (y_neq rfl rfl) ⟨_, rfl, rfl⟩ rfl rfl fun a hs => ?_
  refine sv hs (y_pickF rfl rfl) rfl fun a hs => ?_
  refine nl ?_
  exact ⟨rfl, (hs.fix 47 (.bool ((((((a1.Kind != b5.Kind) || (!((a1.Num.e0 == b5.Num.e0) && ((a1.Num.e1 == b5.Num.e1) && ((a1.Num.e2 == b5.Num.e2) && true))))) || (!((a1.Den.e0 == b5.Den.e0) && ((a1.Den.e1 == b5.Den.e1) && ((a1.Den.e2 == b5.Den.e2) && true))))) || (a1.Factor != b5.Factor)) || (a1.Shift != b5.Shift)) || ((a1.Taps.length : Int) != (b5.Taps.length : Int)))) rfl (or_f h15)).weaken _ ⟨rfl, rfl, rfl, trivial⟩⟩
 rintro a w1 ⟨h280, hs⟩
 subst h280
 refine nl ?_
 refine wp_cond_split (hs.ev rfl) (fun h17 => ?_) (fun h17 => ?_)
 ·have hsh := ite_t hsh h17
  refine sr ?_
  refine av hs rfl rfl fun a hs => ?_
  refine nl ?_
  have hsh := oi hsh
  subst hsh
  refine wp_ret ?_
  refine then_ret ?_
  exact ret1 hs rfl (rv_tmp rfl) (hw.ret rfl)
 have hsh := ite_f hsh h17
 refine wp_skip ?_
 refine then_normal ?_
 refine wp_seq ?_
 refine sr ?_
 refine av hs rfl rfl fun a hs => ?_
 refine nl ?_
 refine wp_block ?_
 refine wp_while (fun sv116 a w => ∃ (Sv180 : Nat → Prop), Sl 66 [(2, .pointer (some ⟨b9, 0, none⟩)), (3, .pointer (some ⟨b10, 0, none⟩)), (5, .int .i64 sv116)] a ∧ Wd ⟨w0, S0, []⟩ Sv180 [.box b9 [.int .i64 a1.Kind, .int .i64 a1.Num.e0, .int .i64 a1.Num.e1, .int .i64 a1.Num.e2, .int .i64 a1.Den.e0, .int .i64 a1.Den.e1, .int .i64 a1.Den.e2, .slice p2 a1.Taps.length k3, .int .i64 a1.Factor, .int .i64 a1.Shift] 26, .box b10 [.int .i64 b5.Kind, .int .i64 b5.Num.e0, .int .i64 b5.Num.e1, .int .i64 b5.Num.e2, .int .i64 b5.Den.e0, .int .i64 b5.Den.e1, .int .i64 b5.Den.e2, .slice p6 b5.Taps.length k7, .int .i64 b5.Factor, .int .i64 b5.Shift] 26] [SlA p2 a1.Taps.length k3 a1.Taps, SlA p6 b5.Taps.length k7 b5.Taps] w) 0 hsh ⟨S0, (hs.wk rfl), (hw.ft [1, 0] [1, 0] (by decide) rfl rfl)⟩ ?_
 repeat clear hsh
 rintro sv116 a w tv213 ⟨Sv180, hs, hw⟩ hsh hd212
 delta ref18_SameStage_l2 at hsh
 refine wp_seq ?_
 refine sr ?_
 refine mv hs rfl rfl fun a hs => ?_
 refine sv hs (y_fieldAddr (o' := 7) Try.runUnderlying26 rfl Try.sizeOf24 rfl rfl rfl) rfl fun a hs => ?_
 refine sv hs (y_loadB1 (hw.ownAt 0 rfl) rfl Try.isAgg24 rfl) rfl fun a hs => ?_
 refine sv hs (y_len Try.runUnderlying24 rfl) rfl fun a hs => ?_
 refine sv hs (y_lss rfl rfl) rfl fun a hs => ?_
 refine nl ?_
 refine wp_cond_split (hs.ev rfl) (fun h217 => ?_) (fun h217 => ?_)
 ·have hsh := ite_t hsh h217
  refine wp_skip ?_
  refine then_normal ?_
  refine wp_seq ?_
  refine wp_block ?_
  refine wp_seq ?_
  obtain ⟨x248, h246, hsh⟩ := bind_t hsh
  obtain ⟨b254, o255, q252, c253, h256, h249, h250, h251, h247⟩ := hw.elemV 0 rfl h246
  have hsv257 := hs
  have hwv258 := hw
  subst h256
  have hs := hsv257
  have hw := hwv258
  obtain ⟨_, rfl, rfl⟩ := h247
  have hw := hw.addE h251
  obtain ⟨x261, h259, hsh⟩ := bind_t hsh
  obtain ⟨b267, o268, q265, c266, h269, h262, h263, h264, h260⟩ := hw.elemV 2 rfl h259
  have hsv270 := hs
  have hwv271 := hw
  subst h269
  have hs := hsv270
  have hw := hwv271
  obtain ⟨_, rfl, rfl⟩ := h260
  have hw := hw.addE h264
  refine wp_only (fun a w => ∃ (Sv272 : Nat → Prop), Sl 66 [(2, .pointer (some ⟨b9, 0, none⟩)), (3, .pointer (some ⟨b10, 0, none⟩)), (5, .int .i64 sv116), (65, .bool (x248 != x261))] a ∧ Wd ⟨w0, S0, []⟩ Sv272 [.box b9 [.int .i64 a1.Kind, .int .i64 a1.Num.e0, .int .i64 a1.Num.e1, .int .i64 a1.Num.e2, .int .i64 a1.Den.e0, .int .i64 a1.Den.e1, .int .i64 a1.Den.e2, .slice (some ⟨b254, o255, none⟩) a1.Taps.length k3, .int .i64 a1.Factor, .int .i64 a1.Shift] 26, .box b10 [.int .i64 b5.Kind, .int .i64 b5.Num.e0, .int .i64 b5.Num.e1, .int .i64 b5.Num.e2, .int .i64 b5.Den.e0, .int .i64 b5.Den.e1, .int .i64 b5.Den.e2, .slice (some ⟨b267, o268, none⟩) b5.Taps.length k7, .int .i64 b5.Factor, .int .i64 b5.Shift] 26] [SlA (some ⟨b254, o255, none⟩) a1.Taps.length k3 a1.Taps, SlA (some ⟨b267, o268, none⟩) b5.Taps.length k7 b5.Taps] w) ?_ ?_
  ·refine h_b (C := Cls [.box b9 [.int .i64 a1.Kind, .int .i64 a1.Num.e0, .int .i64 a1.Num.e1, .int .i64 a1.Num.e2, .int .i64 a1.Den.e0, .int .i64 a1.Den.e1, .int .i64 a1.Den.e2, .slice (some ⟨b254, o255, none⟩) a1.Taps.length k3, .int .i64 a1.Factor, .int .i64 a1.Shift] 26, .box b10 [.int .i64 b5.Kind, .int .i64 b5.Num.e0, .int .i64 b5.Num.e1, .int .i64 b5.Num.e2, .int .i64 b5.Den.e0, .int .i64 b5.Den.e1, .int .i64 b5.Den.e2, .slice (some ⟨b267, o268, none⟩) b5.Taps.length k7, .int .i64 b5.Factor, .int .i64 b5.Shift] 26] [CeA b267 q265 [.int .i64 x261], CeA b254 q252 [.int .i64 x248]]) (by kernel_rfl) rfl (hw.drew.cs [0, 1] [0, 1] rfl rfl) fun hC => ?_
   have hw := hw.drew
   refine gv hs 0 rfl rfl hC (fun w hC => y_fieldAddr (o' := 7) Try.runUnderlying26 rfl Try.sizeOf24 rfl rfl rfl) fun a hs => ?_
   refine gv hs 1 rfl rfl hC (fun w hC => y_loadB1 (hC.ownAt 0 rfl) rfl Try.isAgg24 rfl) fun a hs => ?_
   refine gm hs 2 rfl rfl rfl hC fun a hs => ?_
   refine gv hs 3 rfl rfl hC (fun w hC => y_indexAt Try.runUnderlying24 Try.sizeOf3 rfl rfl h249.1 h249.2 h250) fun a hs => ?_
   refine gv hs 4 rfl rfl hC (fun w hC => y_loadE1 (j := 0) (hC.ceAt 1 rfl) rfl Try.isAgg3 rfl) fun a hs => ?_
   refine gv hs 5 rfl rfl hC (fun w hC => y_fieldAddr (o' := 7) Try.runUnderlying26 rfl Try.sizeOf24 rfl rfl rfl) fun a hs => ?_
   refine gv hs 6 rfl rfl hC (fun w hC => y_loadB1 (hC.ownAt 1 rfl) rfl Try.isAgg24 rfl) fun a hs => ?_
   refine gm hs 7 rfl rfl rfl hC fun a hs => ?_
   refine gv hs 8 rfl rfl hC (fun w hC => y_indexAt Try.runUnderlying24 Try.sizeOf3 rfl rfl h262.1 h262.2 h263) fun a hs => ?_
   refine gv hs 9 rfl rfl hC (fun w hC => y_loadE1 (j := 0) (hC.ceAt 0 rfl) rfl Try.isAgg3 rfl) fun a hs => ?_
   refine gv hs 10 rfl rfl hC (fun w hC => y_neq rfl rfl) fun a hs => ?_
   refine h_done (by kernel_rfl) ?_
   exact ⟨Sv180, (hs.wk rfl), (hw.ft [0, 1] [2, 3] (by decide) rfl rfl)⟩
  rintro a w ⟨Sv272, hs, hw⟩
  refine then_normal ?_
  refine wp_cond_split (hs.ev rfl) (fun h274 => ?_) (fun h274 => ?_)
  ·have hsh := ite_t hsh h274
   refine sr ?_
   refine av hs rfl rfl fun a hs => ?_
   refine nl ?_
   have hsh := oi hsh
   subst hsh
   have h275 := hd212 _ rfl
   subst h275
   refine wp_ret ?_
   refine blk_ret ?_
   refine then_ret ?_
   refine then_ret ?_
   refine blk_ret ?_
   refine then_ret ?_
   exact ret1 hs rfl (rv_tmp rfl) (hw.ret rfl)
  have hsh := ite_f hsh h274
  refine wp_skip ?_
  refine blk_normal ?_
  refine then_normal ?_
  refine wp_region_lit ?_
  refine mv hs rfl rfl fun a hs => ?_
  refine sv hs (y_add rfl rfl) rfl fun a hs => ?_
  obtain ⟨i277, h276, hsh⟩ := bind_t hsh
  refine sv hs (y_assignI rfl h276) rfl fun a hs => ?_
  refine nl ?_
  exact ⟨_, (Option.some.inj hsh).symm, Sv272, (hs.wk rfl), (hw.ft [0, 1] [0, 1] (by decide) rfl rfl)⟩
 have hsh := ite_f hsh h217
 obtain ⟨rv278, hsh, h279⟩ := map_t hsh
 have h279 := (hd212 _ h279.symm).symm
 subst h279
 refine wp_exit ?_
 refine then_exit ?_
 refine then_exit ?_
 refine blk_exit ?_
 refine then_normal ?_
 refine sr ?_
 refine av hs rfl rfl fun a hs => ?_
 refine nl ?_
 have hsh := oi hsh
 subst hsh
 refine wp_ret ?_
 exact ret1 hs rfl (rv_tmp rfl) (hw.ret rfl)

abbrev ref18_Same_rd (w0 : World) (X : List Nat) (r : Bool) : (Nat → Prop) → World → Value → Prop := fun S w v => v = .bool r
set_option maxHeartbeats 4000000 in
set_option maxRecDepth 100000 in
theorem ref18_Same_ok {w0 : World} {S0 : Nat → Prop} {p2 : Option Addr} {k3 : Nat} {p6 : Option Addr} {k7 : Nat} {a1 : Response} {b5 : Response} {r : Bool} (hsh : ref18_Same a1 b5 = some r) (hS : ∀ b, S0 b → b < w0.heap.size) (h4 : (SlA p2 a1.Stages.length k3 a1.Stages).p S0 w0) (h8 : (SlA p6 b5.Stages.length k7 b5.Stages).p S0 w0) : Calls Try.prog 32 #[.agg #[.slice p2 a1.Stages.length k3], .agg #[.slice p6 b5.Stages.length k7]] w0 (Ret ([]) w0 S0 (ref18_Same_rd w0 ([]) r)) := by
 refine calls_of_wp Try.func32 rfl ?_
 have hs := Sl.enter #[.agg #[.slice p2 a1.Stages.length k3], .agg #[.slice p6 b5.Stages.length k7]] 32 [(0, .agg #[.slice p2 a1.Stages.length k3]), (1, .agg #[.slice p6 b5.Stages.length k7])] rfl ⟨rfl, rfl, trivial⟩
 have hw := Wd.enter (E := []) hS (fun _ h => (by cases h))
 have hw := hw.addE h4
 have hw := hw.addE h8
 delta ref18_Same at hsh
 refine sr ?_
 refine w_box (cs := [.slice p2 a1.Stages.length k3]) hs hw rfl rfl rfl trivial ?_
 intro b9 a w hs hw
 refine w_box (cs := [.slice p6 b5.Stages.length k7]) hs hw rfl rfl rfl trivial ?_
 intro b10 a w hs hw
 refine av hs rfl rfl fun a hs => ?_
 refine nl ?_
 refine wp_seq ?_
 refine sr ?_
 refine sv hs (y_fieldAddr (o' := 0) Try.runUnderlying37 rfl Try.sizeOf35 rfl rfl rfl) rfl fun a hs => ?_
 refine sv hs (y_loadB1 (hw.ownAt 1 rfl) rfl Try.isAgg35 rfl) rfl fun a hs => ?_
 refine sv hs (y_len Try.runUnderlying35 rfl) rfl fun a hs => ?_
 refine sv hs (y_fieldAddr (o' := 0) Try.runUnderlying37 rfl Try.sizeOf35 rfl rfl rfl) rfl fun a hs => ?_
 refine sv hs (y_loadB1 (hw.ownAt 0 rfl) rfl Try.isAgg35 rfl) rfl fun a hs => ?_
 refine sv hs (y_len Try.runUnderlying35 rfl) rfl fun a hs => ?_
 refine sv hs (y_neq rfl rfl) rfl fun a hs => ?_
 refine nl ?_
 refine wp_cond_split (hs.ev rfl) (fun h12 => ?_) (fun h12 => ?_)
 ·have hsh := ite_t hsh h12
  refine sr ?_
  refine av hs rfl rfl fun a hs => ?_
  refine nl ?_
  have hsh := oi hsh
  subst hsh
  refine wp_ret ?_
  refine then_ret ?_
  exact ret1 hs rfl (rv_tmp rfl) (hw.ret rfl)
 have hsh := ite_f hsh h12
 refine wp_skip ?_
 refine then_normal ?_
 refine wp_seq ?_
 refine sr ?_
 refine av hs rfl rfl fun a hs => ?_
 refine nl ?_
 refine wp_block ?_
 refine wp_while (fun sv141 a w => ∃ (Sv225 : Nat → Prop), Sl 32 [(2, .pointer (some ⟨b9, 0, none⟩)), (3, .pointer (some ⟨b10, 0, none⟩)), (5, .int .i64 sv141)] a ∧ Wd ⟨w0, S0, []⟩ Sv225 [.box b9 [.slice p2 a1.Stages.length k3] 37, .box b10 [.slice p6 b5.Stages.length k7] 37] [SlA p2 a1.Stages.length k3 a1.Stages, SlA p6 b5.Stages.length k7 b5.Stages] w) 0 hsh ⟨S0, (hs.wk rfl), (hw.ft [1, 0] [1, 0] (by decide) rfl rfl)⟩ ?_
 repeat clear hsh
 rintro sv141 a w tv268 ⟨Sv225, hs, hw⟩ hsh hd267
 delta ref18_Same_l2 at hsh
 refine wp_seq ?_
 refine sr ?_
 refine mv hs rfl rfl fun a hs => ?_
 refine sv hs (y_fieldAddr (o' := 0) Try.runUnderlying37 rfl Try.sizeOf35 rfl rfl rfl) rfl fun a hs => ?_
 refine sv hs (y_loadB1 (hw.ownAt 0 rfl) rfl Try.isAgg35 rfl) rfl fun a hs => ?_
 refine sv hs (y_len Try.runUnderlying35 rfl) rfl fun a hs => ?_
 refine sv hs (y_lss rfl rfl) rfl fun a hs => ?_
 refine nl ?_
 refine wp_cond_split (hs.ev rfl) (fun h272 => ?_) (fun h272 => ?_)
 ·have hsh := ite_t hsh h272
  refine wp_skip ?_
  refine then_normal ?_
  refine wp_seq ?_
  refine wp_block ?_
  refine wp_seq ?_
  obtain ⟨x313, h311, hsh⟩ := bind_t hsh
  obtain ⟨b319, o320, q317, c318, h321, h314, h315, h316, h312⟩ := hw.elemV 0 rfl h311
  have hsv322 := hs
  have hwv323 := hw
  subst h321
  have hs := hsv322
  have hw := hwv323
  obtain ⟨_, _, _, _, _, _, _, _, _, _, rfl, rfl, rfl, rfl, rfl, rfl, rfl, rfl, ⟨p324, n325, k326, rfl, h327⟩, rfl, rfl⟩ := h312
  obtain rfl := h327.1
  have hw := hw.addE (e := SlA p324 _ k326 x313.Taps) h327
  have hw := hw.addE h316
  obtain ⟨x330, h328, hsh⟩ := bind_t hsh
  obtain ⟨b336, o337, q334, c335, h338, h331, h332, h333, h329⟩ := hw.elemV 3 rfl h328
  have hsv339 := hs
  have hwv340 := hw
  subst h338
  have hs := hsv339
  have hw := hwv340
  obtain ⟨_, _, _, _, _, _, _, _, _, _, rfl, rfl, rfl, rfl, rfl, rfl, rfl, rfl, ⟨p341, n342, k343, rfl, h344⟩, rfl, rfl⟩ := h329
  obtain rfl := h344.1
  have hw := hw.addE (e := SlA p341 _ k343 x330.Taps) h344
  have hw := hw.addE h333
  obtain ⟨rv346, h345, hsh⟩ := bind_t hsh
  refine wp_only (fun a w => ∃ (Sv347 : Nat → Prop), Sl 32 [(2, .pointer (some ⟨b9, 0, none⟩)), (3, .pointer (some ⟨b10, 0, none⟩)), (5, .int .i64 sv141), (31, .bool (!rv346))] a ∧ Wd ⟨w0, S0, []⟩ Sv347 [.box b9 [.slice (some ⟨b319, o320, none⟩) a1.Stages.length k3] 37, .box b10 [.slice (some ⟨b336, o337, none⟩) b5.Stages.length k7] 37] [SlA (some ⟨b319, o320, none⟩) a1.Stages.length k3 a1.Stages, SlA (some ⟨b336, o337, none⟩) b5.Stages.length k7 b5.Stages] w) ?_ ?_
  ·refine h_b (C := Cls [.box b9 [.slice (some ⟨b319, o320, none⟩) a1.Stages.length k3] 37, .box b10 [.slice (some ⟨b336, o337, none⟩) b5.Stages.length k7] 37] [CeA b336 q334 [.int .i64 x330.Kind, .int .i64 x330.Num.e0, .int .i64 x330.Num.e1, .int .i64 x330.Num.e2, .int .i64 x330.Den.e0, .int .i64 x330.Den.e1, .int .i64 x330.Den.e2, .slice p341 x330.Taps.length k343, .int .i64 x330.Factor, .int .i64 x330.Shift], CeA b319 q317 [.int .i64 x313.Kind, .int .i64 x313.Num.e0, .int .i64 x313.Num.e1, .int .i64 x313.Num.e2, .int .i64 x313.Den.e0, .int .i64 x313.Den.e1, .int .i64 x313.Den.e2, .slice p324 x313.Taps.length k326, .int .i64 x313.Factor, .int .i64 x313.Shift]]) (by kernel_rfl) rfl (hw.drew.cs [0, 1] [0, 2] rfl rfl) fun hC => ?_
   have hw := hw.drew
   refine gv hs 0 rfl rfl hC (fun w hC => y_fieldAddr (o' := 0) Try.runUnderlying37 rfl Try.sizeOf35 rfl rfl rfl) fun a hs => ?_
   refine gv hs 1 rfl rfl hC (fun w hC => y_loadB1 (hC.ownAt 0 rfl) rfl Try.isAgg35 rfl) fun a hs => ?_
   refine gm hs 2 rfl rfl rfl hC fun a hs => ?_
   refine gv hs 3 rfl rfl hC (fun w hC => y_indexAt Try.runUnderlying35 Try.sizeOf26 rfl rfl h314.1 h314.2 h315) fun a hs => ?_
   refine gv hs 4 rfl rfl hC (fun w hC => y_loadEA (j := 0) (hC.ceAt 1 rfl) rfl Try.isAgg26 Try.sizeOf26 rfl rfl) fun a hs => ?_
   refine gv hs 5 rfl rfl hC (fun w hC => y_fieldAddr (o' := 0) Try.runUnderlying37 rfl Try.sizeOf35 rfl rfl rfl) fun a hs => ?_
   refine gv hs 6 rfl rfl hC (fun w hC => y_loadB1 (hC.ownAt 1 rfl) rfl Try.isAgg35 rfl) fun a hs => ?_
   refine gm hs 7 rfl rfl rfl hC fun a hs => ?_
   refine gv hs 8 rfl rfl hC (fun w hC => y_indexAt Try.runUnderlying35 Try.sizeOf26 rfl rfl h331.1 h331.2 h332) fun a hs => ?_
   refine gv hs 9 rfl rfl hC (fun w hC => y_loadEA (j := 0) (hC.ceAt 0 rfl) rfl Try.isAgg26 Try.sizeOf26 rfl rfl) fun a hs => ?_
   refine ho 10 rfl ?_
   refine st_callR hs (ref18_SameStage_ok h345 hw.bdom (hw.bE 3 rfl) (hw.bE 1 rfl)) (do_call Try.call63 rfl) trivial rfl rfl ?_
   intro v351 Sv348 w a h349 h350 hs
   subst h350
   have hw := hw.callB h349
   refine h_nx (hw.cs [0, 1] [0, 2] rfl rfl) fun hC => ?_
   refine gv hs 11 rfl rfl hC (fun w hC => y_not rfl) fun a hs => ?_
   refine h_done (by kernel_rfl) ?_
   exact ⟨Sv225, (hs.wk rfl), (hw.ft [0, 1] [4, 5] (by decide) rfl rfl)⟩
  rintro a w ⟨Sv347, hs, hw⟩
  refine then_normal ?_
  refine wp_cond_split (hs.ev rfl) (fun h354 => ?_) (fun h354 => ?_)
  ·have hsh := ite_t hsh h354
   refine sr ?_
   refine av hs rfl rfl fun a hs => ?_
   refine nl ?_
   have hsh := oi hsh
   subst hsh
   have h355 := hd267 _ rfl
   subst h355
   refine wp_ret ?_
   refine blk_ret ?_
   refine then_ret ?_
   refine then_ret ?_
   refine blk_ret ?_
   refine then_ret ?_
   exact ret1 hs rfl (rv_tmp rfl) (hw.ret rfl)
  have hsh := ite_f hsh h354
  refine wp_skip ?_
  refine blk_normal ?_
  refine then_normal ?_
  refine wp_region_lit ?_
  refine mv hs rfl rfl fun a hs => ?_
  refine sv hs (y_add rfl rfl) rfl fun a hs => ?_
  obtain ⟨i357, h356, hsh⟩ := bind_t hsh
  refine sv hs (y_assignI rfl h356) rfl fun a hs => ?_
  refine nl ?_
  exact ⟨_, (Option.some.inj hsh).symm, Sv347, (hs.wk rfl), (hw.ft [0, 1] [0, 1] (by decide) rfl rfl)⟩
 have hsh := ite_f hsh h272
 obtain ⟨rv358, hsh, h359⟩ := map_t hsh
 have h359 := (hd267 _ h359.symm).symm
 subst h359
 refine wp_exit ?_
 refine then_exit ?_
 refine then_exit ?_
 refine blk_exit ?_
 refine then_normal ?_
 refine sr ?_
 refine av hs rfl rfl fun a hs => ?_
 refine nl ?_
 have hsh := oi hsh
 subst hsh
 refine wp_ret ?_
 exact ret1 hs rfl (rv_tmp rfl) (hw.ret rfl)

abbrev slices_EqualFunc_Lapi_Stage_Lapi_Stage_api_Stage_api_Stage_rd (w0 : World) (X : List Nat) (r : Bool) : (Nat → Prop) → World → Value → Prop := fun S w v => v = .bool r
set_option maxHeartbeats 4000000 in
set_option maxRecDepth 100000 in
theorem slices_EqualFunc_Lapi_Stage_Lapi_Stage_api_Stage_api_Stage_ok {w0 : World} {S0 : Nat → Prop} {p2 : Option Addr} {k3 : Nat} {p6 : Option Addr} {k7 : Nat} {g10 : Nat} {f11 : List Value} {cp12 : List Value} {s1_1 : (List Stage)} {s2_5 : (List Stage)} {eq9 : Stage → Stage → Option Bool} {r : Bool} (hsh : slices_EqualFunc_Lapi_Stage_Lapi_Stage_api_Stage_api_Stage s1_1 s2_5 eq9 = some r) (hS : ∀ b, S0 b → b < w0.heap.size) (h4 : (SlA p2 s1_1.length k3 s1_1).p S0 w0) (h8 : (SlA p6 s2_5.length k7 s2_5).p S0 w0) (h13 : (FnA2 Try.prog g10 f11 cp12 eq9).p S0 w0) : Calls Try.prog 66 #[.slice p2 s1_1.length k3, .slice p6 s2_5.length k7, .func (.func g10) f11.toArray cp12.toArray] w0 (Ret ([]) w0 S0 (slices_EqualFunc_Lapi_Stage_Lapi_Stage_api_Stage_api_Stage_rd w0 ([]) r)) := by
 refine calls_of_wp Try.func66 rfl ?_
 have hs := Sl.enter #[.slice p2 s1_1.length k3, .slice p6 s2_5.length k7, .func (.func g10) f11.toArray cp12.toArray] 32 [(0, .slice p2 s1_1.length k3), (1, .slice p6 s2_5.length k7), (2, .func (.func g10) f11.toArray cp12.toArray)] rfl ⟨rfl, rfl, rfl, trivial⟩
 have hw := Wd.enter (E := []) hS (fun _ h => (by cases h))
 have hw := hw.addE h4
 have hw := hw.addE h8
 have hw := hw.addE h13
 delta slices_EqualFunc_Lapi_Stage_Lapi_Stage_api_Stage_api_Stage at hsh
 refine sr ?_
 refine av hs rfl rfl fun a hs => ?_
 refine nl ?_
 refine wp_seq ?_
 refine sr ?_
 refine mv hs rfl rfl fun a hs => ?_
 refine sv hs (y_len Try.runUnderlying35 rfl) rfl fun a hs => ?_
 refine mv hs rfl rfl fun a hs => ?_
 refine sv hs (y_len Try.runUnderlying35 rfl) rfl fun a hs => ?_
 refine sv hs (y_neq rfl rfl) rfl fun a hs => ?_
 refine nl ?_
 refine wp_cond_split (hs.ev rfl) (fun h15 => ?_) (fun h15 => ?_)
 ·have hsh := ite_t hsh h15
  refine sr ?_
  refine av hs rfl rfl fun a hs => ?_
  refine nl ?_
  have hsh := oi hsh
  subst hsh
  refine wp_ret ?_
  refine then_ret ?_
  exact ret1 hs rfl (rv_tmp rfl) (hw.ret rfl)
 have hsh := ite_f hsh h15
 refine wp_skip ?_
 refine then_normal ?_
 refine wp_seq ?_
 refine sr ?_
 refine mv hs rfl rfl fun a hs => ?_
 refine sv hs (y_len Try.runUnderlying35 rfl) rfl fun a hs => ?_
 refine mv hs rfl rfl fun a hs => ?_
 refine nl ?_
 refine wp_block ?_
 refine wp_while (fun sv153 a w => ∃ (Sv243 : Nat → Prop), Sl 32 [(1, .slice p6 s2_5.length k7), (2, .func (.func g10) f11.toArray cp12.toArray), (15, .slice p2 s1_1.length k3), (16, .int .i64 (s1_1.length : Int)), (17, .int .i64 sv153)] a ∧ Wd ⟨w0, S0, []⟩ Sv243 [] [SlA p6 s2_5.length k7 s2_5, FnA2 Try.prog g10 f11 cp12 eq9, SlA p2 s1_1.length k3 s1_1] w) 0 hsh ⟨S0, (hs.wk rfl), (hw.ft [] [1, 0, 2] (by decide) rfl rfl)⟩ ?_
 repeat clear hsh
 rintro sv153 a w tv289 ⟨Sv243, hs, hw⟩ hsh hd288
 delta slices_EqualFunc_Lapi_Stage_Lapi_Stage_api_Stage_api_Stage_l2 at hsh
 refine sr ?_
 refine sv hs (y_lss rfl rfl) rfl fun a hs => ?_
 refine nl ?_
 refine wp_seq ?_
 refine wp_cond_split (hs.ev rfl) (fun h293 => ?_) (fun h293 => ?_)
 ·have hsh := ite_t hsh h293
  refine wp_skip ?_
  refine then_normal ?_
  refine wp_seq ?_
  refine wp_block ?_
  refine sr ?_
  refine mv hs rfl rfl fun a hs => ?_
  obtain ⟨x339, h337, hsh⟩ := bind_t hsh
  obtain ⟨b345, o346, q343, c344, h347, h340, h341, h342, h338⟩ := hw.elemV 2 rfl h337
  have hsv348 := hs
  have hwv349 := hw
  subst h347
  have hs := hsv348
  have hw := hwv349
  obtain ⟨_, _, _, _, _, _, _, _, _, _, rfl, rfl, rfl, rfl, rfl, rfl, rfl, rfl, ⟨p350, n351, k352, rfl, h353⟩, rfl, rfl⟩ := h338
  obtain rfl := h353.1
  have hw := hw.addE (e := SlA p350 _ k352 x339.Taps) h353
  have hw := hw.addE h342
  refine sv hs (y_indexAt Try.runUnderlying35 Try.sizeOf26 rfl rfl h340.1 h340.2 h341) rfl fun a hs => ?_
  refine sv hs (y_loadEA (j := 0) (hw.ceAt 0 rfl) rfl Try.isAgg26 Try.sizeOf26 rfl rfl) rfl fun a hs => ?_
  refine w_alloc (cs := [.int .i64 0, .int .i64 0, .int .i64 0, .int .i64 0, .int .i64 0, .int .i64 0, .int .i64 0, .slice none ([] : List Int).length 0, .int .i64 0, .int .i64 0]) hs hw Try.zeroValue26 rfl rfl trivial ?_
  intro b354 a w hs hw
  refine av hs rfl rfl fun a hs => ?_
  refine w_store (m := 10) (cs' := [.int .i64 x339.Kind, .int .i64 x339.Num.e0, .int .i64 x339.Num.e1, .int .i64 x339.Num.e2, .int .i64 x339.Den.e0, .int .i64 x339.Den.e1, .int .i64 x339.Den.e2, .slice p350 x339.Taps.length k352, .int .i64 x339.Factor, .int .i64 x339.Shift]) hs hw 0 rfl rfl rfl Try.sizeOf26 rfl rfl rfl rfl trivial ?_
  intro a w hs hw
  refine nl ?_
  refine sr ?_
  refine mv hs rfl rfl fun a hs => ?_
  refine mv hs rfl rfl fun a hs => ?_
  obtain ⟨x357, h355, hsh⟩ := bind_t hsh
  obtain ⟨b363, o364, q361, c362, h365, h358, h359, h360, h356⟩ := hw.elemV 2 rfl h355
  have hsv366 := hs
  have hwv367 := hw
  subst h365
  have hs := hsv366
  have hw := hwv367
  obtain ⟨_, _, _, _, _, _, _, _, _, _, rfl, rfl, rfl, rfl, rfl, rfl, rfl, rfl, ⟨p368, n369, k370, rfl, h371⟩, rfl, rfl⟩ := h356
  obtain rfl := h371.1
  have hw := hw.addE (e := SlA p368 _ k370 x357.Taps) h371
  have hw := hw.addE h360
  refine sv hs (y_indexAt Try.runUnderlying35 Try.sizeOf26 rfl rfl h358.1 h358.2 h359) rfl fun a hs => ?_
  refine sv hs (y_loadEA (j := 0) (hw.ceAt 0 rfl) rfl Try.isAgg26 Try.sizeOf26 rfl rfl) rfl fun a hs => ?_
  refine w_alloc (cs := [.int .i64 0, .int .i64 0, .int .i64 0, .int .i64 0, .int .i64 0, .int .i64 0, .int .i64 0, .slice none ([] : List Int).length 0, .int .i64 0, .int .i64 0]) hs hw Try.zeroValue26 rfl rfl trivial ?_
  intro b372 a w hs hw
  refine w_store (m := 10) (cs' := [.int .i64 x357.Kind, .int .i64 x357.Num.e0, .int .i64 x357.Num.e1, .int .i64 x357.Num.e2, .int .i64 x357.Den.e0, .int .i64 x357.Den.e1, .int .i64 x357.Den.e2, .slice p368 x357.Taps.length k370, .int .i64 x357.Factor, .int .i64 x357.Shift]) hs hw 0 rfl rfl rfl Try.sizeOf26 rfl rfl rfl rfl trivial ?_
  intro a w hs hw
  refine nl ?_
  refine sr ?_
  refine mv hs rfl rfl fun a hs => ?_
  refine sv hs (y_loadBA (hw.ownAt 1 rfl) rfl Try.isAgg26 Try.sizeOf26 rfl rfl) rfl fun a hs => ?_
  refine sv hs (y_loadBA (hw.ownAt 0 rfl) rfl Try.isAgg26 Try.sizeOf26 rfl rfl) rfl fun a hs => ?_
  obtain ⟨rv374, h373, hsh⟩ := bind_t hsh
  refine st_callR hs ((hw.bE 5 rfl).2 Keep.rfl' hw.bdom ⟨_, _, _, _, _, _, _, _, _, _, rfl, rfl, rfl, rfl, rfl, rfl, rfl, rfl, ⟨_, _, _, rfl, hw.bE 3 rfl⟩, rfl, rfl⟩ ⟨_, _, _, _, _, _, _, _, _, _, rfl, rfl, rfl, rfl, rfl, rfl, rfl, rfl, ⟨_, _, _, rfl, hw.bE 1 rfl⟩, rfl, rfl⟩ h373) (do_callF (hw.bE 5 rfl).1 rfl rfl) trivial rfl rfl ?_
  intro v378 Sv375 w a h376 h377 hs
  subst h377
  have hw := hw.callB h376
  refine sv hs (y_not rfl) rfl fun a hs => ?_
  refine nl ?_
  refine wp_cond_split (hs.ev rfl) (fun h380 => ?_) (fun h380 => ?_)
  ·have hsh := ite_t hsh h380
   refine sr ?_
   refine av hs rfl rfl fun a hs => ?_
   refine nl ?_
   have hsh := oi hsh
   subst hsh
   have h381 := hd288 _ rfl
   subst h381
   refine wp_ret ?_
   refine blk_ret ?_
   refine then_ret ?_
   refine then_ret ?_
   refine blk_ret ?_
   refine then_ret ?_
   exact ret1 hs rfl (rv_tmp rfl) (hw.ret rfl)
  have hsh := ite_f hsh h380
  refine wp_skip ?_
  refine blk_normal ?_
  refine then_normal ?_
  refine wp_region_lit ?_
  refine sv hs (y_add rfl rfl) rfl fun a hs => ?_
  refine mv hs rfl rfl fun a hs => ?_
  refine nl ?_
  exact ⟨_, (Option.some.inj hsh).symm, Sv243, (hs.wk rfl), (hw.ft [] [4, 5, 6] (by decide) rfl rfl)⟩
 have hsh := ite_f hsh h293
 obtain ⟨rv382, hsh, h383⟩ := map_t hsh
 have h383 := (hd288 _ h383.symm).symm
 subst h383
 refine wp_exit ?_
 refine then_exit ?_
 refine then_exit ?_
 refine blk_exit ?_
 refine then_normal ?_
 refine sr ?_
 refine av hs rfl rfl fun a hs => ?_
 refine nl ?_
 have hsh := oi hsh
 subst hsh
 refine wp_ret ?_
 exact ret1 hs rfl (rv_tmp rfl) (hw.ret rfl)

abbrev slices_Equal_Lint_int_rd (w0 : World) (X : List Nat) (r : Bool) : (Nat → Prop) → World → Value → Prop := fun S w v => v = .bool r
set_option maxHeartbeats 4000000 in
set_option maxRecDepth 100000 in
theorem slices_Equal_Lint_int_ok {w0 : World} {S0 : Nat → Prop} {p2 : Option Addr} {k3 : Nat} {p6 : Option Addr} {k7 : Nat} {s1_1 : (List Int)} {s2_5 : (List Int)} {r : Bool} (hsh : slices_Equal_Lint_int s1_1 s2_5 = some r) (hS : ∀ b, S0 b → b < w0.heap.size) (h4 : (SlA p2 s1_1.length k3 s1_1).p S0 w0) (h8 : (SlA p6 s2_5.length k7 s2_5).p S0 w0) : Calls Try.prog 68 #[.slice p2 s1_1.length k3, .slice p6 s2_5.length k7] w0 (Ret ([]) w0 S0 (slices_Equal_Lint_int_rd w0 ([]) r)) := by
 refine calls_of_wp Try.func68 rfl ?_
 have hs := Sl.enter #[.slice p2 s1_1.length k3, .slice p6 s2_5.length k7] 26 [(0, .slice p2 s1_1.length k3), (1, .slice p6 s2_5.length k7)] rfl ⟨rfl, rfl, trivial⟩
 have hw := Wd.enter (E := []) hS (fun _ h => (by cases h))
 have hw := hw.addE h4
 have hw := hw.addE h8
 delta slices_Equal_Lint_int at hsh
 refine sr ?_
 refine av hs rfl rfl fun a hs => ?_
 refine nl ?_
 refine wp_seq ?_
 refine sr ?_
 refine mv hs rfl rfl fun a hs => ?_
 refine sv hs (y_len Try.runUnderlying24 rfl) rfl fun a hs => ?_
 refine mv hs rfl rfl fun a hs => ?_
 refine sv hs (y_len Try.runUnderlying24 rfl) rfl fun a hs => ?_
 refine sv hs (y_neq rfl rfl) rfl fun a hs => ?_
 refine nl ?_
 refine wp_cond_split (hs.ev rfl) (fun h10 => ?_) (fun h10 => ?_)
 ·have hsh := ite_t hsh h10
  refine sr ?_
  refine av hs rfl rfl fun a hs => ?_
  refine nl ?_
  have hsh := oi hsh
  subst hsh
  refine wp_ret ?_
  refine then_ret ?_
  exact ret1 hs rfl (rv_tmp rfl) (hw.ret rfl)
 have hsh := ite_f hsh h10
 refine wp_skip ?_
 refine then_normal ?_
 refine wp_seq ?_
 refine sr ?_
 refine mv hs rfl rfl fun a hs => ?_
 refine sv hs (y_len Try.runUnderlying24 rfl) rfl fun a hs => ?_
 refine mv hs rfl rfl fun a hs => ?_
 refine nl ?_
 refine wp_block ?_
 refine wp_while (fun sv103 a w => ∃ (Sv163 : Nat → Prop), Sl 26 [(0, .slice p2 s1_1.length k3), (1, .slice p6 s2_5.length k7), (12, .int .i64 (s1_1.length : Int)), (13, .int .i64 sv103)] a ∧ Wd ⟨w0, S0, []⟩ Sv163 [] [SlA p2 s1_1.length k3 s1_1, SlA p6 s2_5.length k7 s2_5] w) 0 hsh ⟨S0, (hs.wk rfl), (hw.ft [] [1, 0] (by decide) rfl rfl)⟩ ?_
 repeat clear hsh
 rintro sv103 a w tv194 ⟨Sv163, hs, hw⟩ hsh hd193
 delta slices_Equal_Lint_int_l2 at hsh
 refine sr ?_
 refine sv hs (y_lss rfl rfl) rfl fun a hs => ?_
 refine nl ?_
 refine wp_seq ?_
 refine wp_cond_split (hs.ev rfl) (fun h198 => ?_) (fun h198 => ?_)
 ·have hsh := ite_t hsh h198
  refine wp_skip ?_
  refine then_normal ?_
  refine wp_seq ?_
  refine wp_block ?_
  refine sr ?_
  refine mv hs rfl rfl fun a hs => ?_
  refine av hs rfl rfl fun a hs => ?_
  refine nl ?_
  refine wp_seq ?_
  obtain ⟨x229, h227, hsh⟩ := bind_t hsh
  obtain ⟨b235, o236, q233, c234, h237, h230, h231, h232, h228⟩ := hw.elemV 0 rfl h227
  have hsv238 := hs
  have hwv239 := hw
  subst h237
  have hs := hsv238
  have hw := hwv239
  obtain ⟨_, rfl, rfl⟩ := h228
  have hw := hw.addE h232
  obtain ⟨x242, h240, hsh⟩ := bind_t hsh
  obtain ⟨b248, o249, q246, c247, h250, h243, h244, h245, h241⟩ := hw.elemV 2 rfl h240
  have hsv251 := hs
  have hwv252 := hw
  subst h250
  have hs := hsv251
  have hw := hwv252
  obtain ⟨_, rfl, rfl⟩ := h241
  have hw := hw.addE h245
  refine wp_only (fun a w => ∃ (Sv253 : Nat → Prop), Sl 26 [(0, .slice (some ⟨b235, o236, none⟩) s1_1.length k3), (1, .slice (some ⟨b248, o249, none⟩) s2_5.length k7), (12, .int .i64 (s1_1.length : Int)), (13, .int .i64 sv103), (24, .bool (x229 != x242))] a ∧ Wd ⟨w0, S0, []⟩ Sv253 [] [SlA (some ⟨b235, o236, none⟩) s1_1.length k3 s1_1, SlA (some ⟨b248, o249, none⟩) s2_5.length k7 s2_5] w) ?_ ?_
  ·refine h_b (C := Cls [] [CeA b248 q246 [.int .i64 x242], CeA b235 q233 [.int .i64 x229]]) (by kernel_rfl) rfl (hw.drew.cs [] [0, 1] rfl rfl) fun hC => ?_
   have hw := hw.drew
   refine gm hs 0 rfl rfl rfl hC fun a hs => ?_
   refine gm hs 1 rfl rfl rfl hC fun a hs => ?_
   refine gv hs 2 rfl rfl hC (fun w hC => y_indexAt Try.runUnderlying24 Try.sizeOf3 rfl rfl h230.1 h230.2 h231) fun a hs => ?_
   refine gv hs 3 rfl rfl hC (fun w hC => y_loadE1 (j := 0) (hC.ceAt 1 rfl) rfl Try.isAgg3 rfl) fun a hs => ?_
   refine gm hs 4 rfl rfl rfl hC fun a hs => ?_
   refine gm hs 5 rfl rfl rfl hC fun a hs => ?_
   refine gv hs 6 rfl rfl hC (fun w hC => y_indexAt Try.runUnderlying24 Try.sizeOf3 rfl rfl h243.1 h243.2 h244) fun a hs => ?_
   refine gv hs 7 rfl rfl hC (fun w hC => y_loadE1 (j := 0) (hC.ceAt 0 rfl) rfl Try.isAgg3 rfl) fun a hs => ?_
   refine gv hs 8 rfl rfl hC (fun w hC => y_neq rfl rfl) fun a hs => ?_
   refine h_done (by kernel_rfl) ?_
   exact ⟨Sv163, (hs.wk rfl), (hw.ft [] [2, 3] (by decide) rfl rfl)⟩
  rintro a w ⟨Sv253, hs, hw⟩
  refine then_normal ?_
  refine wp_cond_split (hs.ev rfl) (fun h255 => ?_) (fun h255 => ?_)
  ·have hsh := ite_t hsh h255
   refine sr ?_
   refine av hs rfl rfl fun a hs => ?_
   refine nl ?_
   have hsh := oi hsh
   subst hsh
   have h256 := hd193 _ rfl
   subst h256
   refine wp_ret ?_
   refine blk_ret ?_
   refine then_ret ?_
   refine then_ret ?_
   refine blk_ret ?_
   refine then_ret ?_
   exact ret1 hs rfl (rv_tmp rfl) (hw.ret rfl)
  have hsh := ite_f hsh h255
  refine wp_skip ?_
  refine blk_normal ?_
  refine then_normal ?_
  refine wp_region_lit ?_
  refine sv hs (y_add rfl rfl) rfl fun a hs => ?_
  refine mv hs rfl rfl fun a hs => ?_
  refine nl ?_
  exact ⟨_, (Option.some.inj hsh).symm, Sv253, (hs.wk rfl), (hw.ft [] [0, 1] (by decide) rfl rfl)⟩
 have hsh := ite_f hsh h198
 obtain ⟨rv257, hsh, h258⟩ := map_t hsh
 have h258 := (hd193 _ h258.symm).symm
 subst h258
 refine wp_exit ?_
 refine then_exit ?_
 refine then_exit ?_
 refine blk_exit ?_
 refine then_normal ?_
 refine sr ?_
 refine av hs rfl rfl fun a hs => ?_
 refine nl ?_
 have hsh := oi hsh
 subst hsh
 refine wp_ret ?_
 exact ret1 hs rfl (rv_tmp rfl) (hw.ret rfl)

abbrev response_Same_fn1_rd (w0 : World) (X : List Nat) (r : Bool) : (Nat → Prop) → World → Value → Prop := fun S w v => v = .bool r
set_option maxHeartbeats 4000000 in
set_option maxRecDepth 100000 in
theorem response_Same_fn1_ok {w0 : World} {S0 : Nat → Prop} {p2 : Option Addr} {k3 : Nat} {p6 : Option Addr} {k7 : Nat} {x1 : Stage} {y5 : Stage} {r : Bool} (hsh : response_Same_fn1 x1 y5 = some r) (hS : ∀ b, S0 b → b < w0.heap.size) (h4 : (SlA p2 x1.Taps.length k3 x1.Taps).p S0 w0) (h8 : (SlA p6 y5.Taps.length k7 y5.Taps).p S0 w0) : Calls Try.prog 67 #[.agg #[.int .i64 x1.Kind, .int .i64 x1.Num.e0, .int .i64 x1.Num.e1, .int .i64 x1.Num.e2, .int .i64 x1.Den.e0, .int .i64 x1.Den.e1, .int .i64 x1.Den.e2, .slice p2 x1.Taps.length k3, .int .i64 x1.Factor, .int .i64 x1.Shift], .agg #[.int .i64 y5.Kind, .int .i64 y5.Num.e0, .int .i64 y5.Num.e1, .int .i64 y5.Num.e2, .int .i64 y5.Den.e0, .int .i64 y5.Den.e1, .int .i64 y5.Den.e2, .slice p6 y5.Taps.length k7, .int .i64 y5.Factor, .int .i64 y5.Shift]] w0 (Ret ([]) w0 S0 (response_Same_fn1_rd w0 ([]) r)) := by
 refine calls_of_wp Try.func67 rfl ?_
 have hs := Sl.enter #[.agg #[.int .i64 x1.Kind, .int .i64 x1.Num.e0, .int .i64 x1.Num.e1, .int .i64 x1.Num.e2, .int .i64 x1.Den.e0, .int .i64 x1.Den.e1, .int .i64 x1.Den.e2, .slice p2 x1.Taps.length k3, .int .i64 x1.Factor, .int .i64 x1.Shift], .agg #[.int .i64 y5.Kind, .int .i64 y5.Num.e0, .int .i64 y5.Num.e1, .int .i64 y5.Num.e2, .int .i64 y5.Den.e0, .int .i64 y5.Den.e1, .int .i64 y5.Den.e2, .slice p6 y5.Taps.length k7, .int .i64 y5.Factor, .int .i64 y5.Shift]] 45 [(0, .agg #[.int .i64 x1.Kind, .int .i64 x1.Num.e0, .int .i64 x1.Num.e1, .int .i64 x1.Num.e2, .int .i64 x1.Den.e0, .int .i64 x1.Den.e1, .int .i64 x1.Den.e2, .slice p2 x1.Taps.length k3, .int .i64 x1.Factor, .int .i64 x1.Shift]), (1, .agg #[.int .i64 y5.Kind, .int .i64 y5.Num.e0, .int .i64 y5.Num.e1, .int .i64 y5.Num.e2, .int .i64 y5.Den.e0, .int .i64 y5.Den.e1, .int .i64 y5.Den.e2, .slice p6 y5.Taps.length k7, .int .i64 y5.Factor, .int .i64 y5.Shift])] rfl ⟨rfl, rfl, trivial⟩
 have hw := Wd.enter (E := []) hS (fun _ h => (by cases h))
 have hw := hw.addE h4
 have hw := hw.addE h8
 delta response_Same_fn1 at hsh
 refine sr ?_
 refine w_box (cs := [.int .i64 x1.Kind, .int .i64 x1.Num.e0, .int .i64 x1.Num.e1, .int .i64 x1.Num.e2, .int .i64 x1.Den.e0, .int .i64 x1.Den.e1, .int .i64 x1.Den.e2, .slice p2 x1.Taps.length k3, .int .i64 x1.Factor, .int .i64 x1.Shift]) hs hw rfl rfl rfl trivial ?_
 intro b9 a w hs hw
 refine w_box (cs := [.int .i64 y5.Kind, .int .i64 y5.Num.e0, .int .i64 y5.Num.e1, .int .i64 y5.Num.e2, .int .i64 y5.Den.e0, .int .i64 y5.Den.e1, .int .i64 y5.Den.e2, .slice p6 y5.Taps.length k7, .int .i64 y5.Factor, .int .i64 y5.Shift]) hs hw rfl rfl rfl trivial ?_
 intro b10 a w hs hw
 refine av hs rfl rfl fun a hs => ?_
 refine nl ?_
 refine sr ?_
 refine sv hs (y_fieldAddr (o' := 0) Try.runUnderlying26 rfl Try.sizeOf3 rfl rfl rfl) rfl fun a hs => ?_
 refine sv hs (y_loadB1 (hw.ownAt 1 rfl) rfl Try.isAgg3 rfl) rfl fun a hs => ?_
 refine sv hs (y_fieldAddr (o' := 0) Try.runUnderlying26 rfl Try.sizeOf3 rfl rfl rfl) rfl fun a hs => ?_
 refine sv hs (y_loadB1 (hw.ownAt 0 rfl) rfl Try.isAgg3 rfl) rfl fun a hs => ?_
 refine sv hs (y_eql rfl rfl) rfl fun a hs => ?_
 refine mv hs rfl rfl fun a hs => ?_
 refine wpl_join 6 (fun a w1 => w = w1 ∧ Sl 45 [(2, .pointer (some ⟨b9, 0, none⟩)), (3, .pointer (some ⟨b10, 0, none⟩)), (16, .bool ((x1.Kind == y5.Kind) && ((x1.Num.e0 == y5.Num.e0) && ((x1.Num.e1 == y5.Num.e1) && ((x1.Num.e2 == y5.Num.e2) && true)))))] a) ?_ ?_
 ·rcases Bool.eq_false_or_eq_true (x1.Kind == y5.Kind) with h11 | h11
  ·have hs := hs.fix 10 (.bool true) rfl (vb h11)
   refine st_val hs (y_fieldAddr (o' := 1) Try.runUnderlying26 rfl Try.sizeOf23 rfl rfl rfl) ⟨_, rfl, rfl⟩ rfl rfl fun a hs => ?_
   refine st_val hs (y_loadBA (hw.ownAt 1 rfl) rfl Try.isAgg23 Try.sizeOf23 rfl rfl) ⟨_, rfl, rfl⟩ rfl rfl fun a hs => ?_
   refine st_val hs (y_fieldAddr (o' := 1) Try.runUnderlying26 rfl Try.sizeOf23 rfl rfl rfl) ⟨_, rfl, rfl⟩ rfl rfl fun a hs => ?_
   refine st_val hs (y_loadBA (hw.ownAt 0 rfl) rfl Try.isAgg23 Try.sizeOf23 rfl rfl) ⟨_, rfl, rfl⟩ rfl rfl fun a hs => ?_
   refine st_val hs (y_eqlA (by kernel_rfl) rfl rfl (eqv_array Try.runUnderlying23 Try.sizeOf3 (EqA.cons1 Try.isAgg3 rfl rfl (eqv_int Try.runUnderlying3) (EqA.cons1 Try.isAgg3 rfl rfl (eqv_int Try.runUnderlying3) (EqA.cons1 Try.isAgg3 rfl rfl (eqv_int Try.runUnderlying3) EqA.nil))))) ⟨_, rfl, rfl⟩ rfl rfl fun a hs => ?_
   refine sv hs (y_pickT rfl rfl) rfl fun a hs => ?_
   refine nl ?_
   exact ⟨rfl, (hs.fix 16 (.bool ((x1.Kind == y5.Kind) && ((x1.Num.e0 == y5.Num.e0) && ((x1.Num.e1 == y5.Num.e1) && ((x1.Num.e2 == y5.Num.e2) && true))))) rfl (and_t h11)).weaken _ ⟨rfl, rfl, rfl, trivial⟩⟩
  have hs := hs.fix 10 (.bool false) rfl (vb h11)
  refine st_skip hs rfl rfl rfl rfl rfl fun a hs => ?_
  refine st_skip hs rfl rfl rfl rfl rfl fun a hs => ?_
  refine st_skip hs rfl rfl rfl rfl rfl fun a hs => ?_
  refine st_skip hs rfl rfl rfl rfl rfl fun a hs => ?_
  refine st_skip hs rfl rfl rfl rfl rfl fun a hs => ?_
  refine sv hs (y_pickF rfl rfl) rfl fun a hs => ?_
  refine nl ?_
  exact ⟨rfl, (hs.fix 16 (.bool ((x1.Kind == y5.Kind) && ((x1.Num.e0 == y5.Num.e0) && ((x1.Num.e1 == y5.Num.e1) && ((x1.Num.e2 == y5.Num.e2) && true))))) rfl (and_f h11)).weaken _ ⟨rfl, rfl, rfl, trivial⟩⟩
 rintro a w1 ⟨h35, hs⟩
 subst h35
 refine mv hs rfl rfl fun a hs => ?_
 refine wpl_join 6 (fun a w1 => w = w1 ∧ Sl 45 [(2, .pointer (some ⟨b9, 0, none⟩)), (3, .pointer (some ⟨b10, 0, none⟩)), (23, .bool (((x1.Kind == y5.Kind) && ((x1.Num.e0 == y5.Num.e0) && ((x1.Num.e1 == y5.Num.e1) && ((x1.Num.e2 == y5.Num.e2) && true)))) && ((x1.Den.e0 == y5.Den.e0) && ((x1.Den.e1 == y5.Den.e1) && ((x1.Den.e2 == y5.Den.e2) && true)))))] a) ?_ ?_
 ·rcases Bool.eq_false_or_eq_true ((x1.Kind == y5.Kind) && ((x1.Num.e0 == y5.Num.e0) && ((x1.Num.e1 == y5.Num.e1) && ((x1.Num.e2 == y5.Num.e2) && true)))) with h12 | h12
  ·have hs := hs.fix 17 (.bool true) rfl (vb h12)
   refine st_val hs (y_fieldAddr (o' := 4) Try.runUnderlying26 rfl Try.sizeOf23 rfl rfl rfl) ⟨_, rfl, rfl⟩ rfl rfl fun a hs => ?_
   refine st_val hs (y_loadBA (hw.ownAt 1 rfl) rfl Try.isAgg23 Try.sizeOf23 rfl rfl) ⟨_, rfl, rfl⟩ rfl rfl fun a hs => ?_
   refine st_val hs (y_fieldAddr (o' := 4) Try.runUnderlying26 rfl Try.sizeOf23 rfl rfl rfl) ⟨_, rfl, rfl⟩ rfl rfl fun a hs => ?_
   refine st_val hs (y_loadBA (hw.ownAt 0 rfl) rfl Try.isAgg23 Try.sizeOf23 rfl rfl) ⟨_, rfl, rfl⟩ rfl rfl fun a hs => ?_
   refine st_val hs (y_eqlA (by kernel_rfl) rfl rfl (eqv_array Try.runUnderlying23 Try.sizeOf3 (EqA.cons1 Try.isAgg3 rfl rfl (eqv_int Try.runUnderlying3) (EqA.cons1 Try.isAgg3 rfl rfl (eqv_int Try.runUnderlying3) (EqA.cons1 Try.isAgg3 rfl rfl (eqv_int Try.runUnderlying3) EqA.nil))))) ⟨_, rfl, rfl⟩ rfl rfl fun a hs => ?_
   refine sv hs (y_pickT rfl rfl) rfl fun a hs => ?_
   refine nl ?_
   exact ⟨rfl, (hs.fix 23 (.bool (((x1.Kind == y5.Kind) && ((x1.Num.e0 == y5.Num.e0) && ((x1.Num.e1 == y5.Num.e1) && ((x1.Num.e2 == y5.Num.e2) && true)))) && ((x1.Den.e0 == y5.Den.e0) && ((x1.Den.e1 == y5.Den.e1) && ((x1.Den.e2 == y5.Den.e2) && true))))) rfl (and_t h12)).weaken _ ⟨rfl, rfl, rfl, trivial⟩⟩
  have hs := hs.fix 17 (.bool false) rfl (vb h12)
  refine st_skip hs rfl rfl rfl rfl rfl fun a hs => ?_
  refine st_skip hs rfl rfl rfl rfl rfl fun a hs => ?_
  refine st_skip hs rfl rfl rfl rfl rfl fun a hs => ?_
  refine st_skip hs rfl rfl rfl rfl rfl fun a hs => ?_
  refine st_skip hs rfl rfl rfl rfl rfl fun a hs => ?_
  refine sv hs (y_pickF rfl rfl) rfl fun a hs => ?_
  refine nl ?_
  exact ⟨rfl, (hs.fix 23 (.bool (((x1.Kind == y5.Kind) && ((x1.Num.e0 == y5.Num.e0) && ((x1.Num.e1 == y5.Num.e1) && ((x1.Num.e2 == y5.Num.e2) && true)))) && ((x1.Den.e0 == y5.Den.e0) && ((x1.Den.e1 == y5.Den.e1) && ((x1.Den.e2 == y5.Den.e2) && true))))) rfl (and_f h12)).weaken _ ⟨rfl, rfl, rfl, trivial⟩⟩
 rintro a w1 ⟨h34, hs⟩
 subst h34
 refine mv hs rfl rfl fun a hs => ?_
 obtain ⟨c21, hc21, hsh⟩ := bind_t hsh
 refine wpl_join 6 (fun a w => ∃ (Sv22 : Nat → Prop), Sl 45 [(2, .pointer (some ⟨b9, 0, none⟩)), (3, .pointer (some ⟨b10, 0, none⟩)), (30, .bool c21)] a ∧ Wd ⟨w0, S0, []⟩ Sv22 [.box b9 [.int .i64 x1.Kind, .int .i64 x1.Num.e0, .int .i64 x1.Num.e1, .int .i64 x1.Num.e2, .int .i64 x1.Den.e0, .int .i64 x1.Den.e1, .int .i64 x1.Den.e2, .slice p2 x1.Taps.length k3, .int .i64 x1.Factor, .int .i64 x1.Shift] 26, .box b10 [.int .i64 y5.Kind, .int .i64 y5.Num.e0, .int .i64 y5.Num.e1, .int .i64 y5.Num.e2, .int .i64 y5.Den.e0, .int .i64 y5.Den.e1, .int .i64 y5.Den.e2, .slice p6 y5.Taps.length k7, .int .i64 y5.Factor, .int .i64 y5.Shift] 26] [SlA p2 x1.Taps.length k3 x1.Taps, SlA p6 y5.Taps.length k7 y5.Taps] w) ?_ ?_
 ·rcases Bool.eq_false_or_eq_true (((x1.Kind == y5.Kind) && ((x1.Num.e0 == y5.Num.e0) && ((x1.Num.e1 == y5.Num.e1) && ((x1.Num.e2 == y5.Num.e2) && true)))) && ((x1.Den.e0 == y5.Den.e0) && ((x1.Den.e1 == y5.Den.e1) && ((x1.Den.e2 == y5.Den.e2) && true)))) with h20 | h20
  ·have hs := hs.fix 24 (.bool true) rfl (vb h20)
   have hsh := ite_t hc21 h20
   refine st_val hs (y_fieldAddr (o' := 7) Try.runUnderlying26 rfl Try.sizeOf24 rfl rfl rfl) ⟨_, rfl, rfl⟩ rfl rfl fun a hs => ?_
   refine st_val hs (y_loadB1 (hw.ownAt 1 rfl) rfl Try.isAgg24 rfl) ⟨_, rfl, rfl⟩ rfl rfl fun a hs => ?_
   refine st_val hs (y_fieldAddr (o' := 7) Try.runUnderlying26 rfl Try.sizeOf24 rfl rfl rfl) ⟨_, rfl, rfl⟩ rfl rfl fun a hs => ?_
   refine st_val hs (y_loadB1 (hw.ownAt 0 rfl) rfl Try.isAgg24 rfl) ⟨_, rfl, rfl⟩ rfl rfl fun a hs => ?_
   obtain ⟨rv24, h23, hsh⟩ := bind_t hsh
   refine st_callR hs (slices_Equal_Lint_int_ok h23 hw.bdom (hw.bE 1 rfl) (hw.bE 0 rfl)) (do_call Try.call68 rfl) ⟨_, rfl, rfl⟩ rfl rfl ?_
   intro v28 Sv25 w a h26 h27 hs
   subst h27
   have hw := hw.callB h26
   refine sv hs (y_pickT rfl rfl) rfl fun a hs => ?_
   refine wpList_nil ?_
   have hsh := oi hsh
   subst hsh
   refine then_normal ?_
   exact ⟨S0, (hs.wk rfl), (hw.ft [1, 0] [1, 0] (by decide) rfl rfl)⟩
  have hs := hs.fix 24 (.bool false) rfl (vb h20)
  have hsh := ite_f hc21 h20
  refine st_skip hs rfl rfl rfl rfl rfl fun a hs => ?_
  refine st_skip hs rfl rfl rfl rfl rfl fun a hs => ?_
  refine st_skip hs rfl rfl rfl rfl rfl fun a hs => ?_
  refine st_skip hs rfl rfl rfl rfl rfl fun a hs => ?_
  refine st_skip hs rfl rfl rfl rfl rfl fun a hs => ?_
  refine sv hs (y_pickF rfl rfl) rfl fun a hs => ?_
  refine wpList_nil ?_
  have hsh := oi hsh
  subst hsh
  refine then_normal ?_
  exact ⟨S0, (hs.wk rfl), (hw.ft [1, 0] [1, 0] (by decide) rfl rfl)⟩
 rintro a w ⟨Sv22, hs, hw⟩
 refine mv hs rfl rfl fun a hs => ?_
 refine wpl_join 6 (fun a w1 => w = w1 ∧ Sl 45 [(2, .pointer (some ⟨b9, 0, none⟩)), (3, .pointer (some ⟨b10, 0, none⟩)), (37, .bool (c21 && (x1.Factor == y5.Factor)))] a) ?_ ?_
 ·rcases Bool.eq_false_or_eq_true c21 with h30 | h30
  ·have hs := hs.fix 31 (.bool true) rfl (vb h30)
   refine st_val hs (y_fieldAddr (o' := 8) Try.runUnderlying26 rfl Try.sizeOf3 rfl rfl rfl) ⟨_, rfl, rfl⟩ rfl rfl fun a hs => ?_
   refine st_val hs (y_loadB1 (hw.ownAt 0 rfl) rfl Try.isAgg3 rfl) ⟨_, rfl, rfl⟩ rfl rfl fun a hs => ?_
   refine st_val hs (y_fieldAddr (o' := 8) Try.runUnderlying26 rfl Try.sizeOf3 rfl rfl rfl) ⟨_, rfl, rfl⟩ rfl rfl fun a hs => ?_
   refine st_val hs (y_loadB1 (hw.ownAt 1 rfl) rfl Try.isAgg3 rfl) ⟨_, rfl, rfl⟩ rfl rfl fun a hs => ?_
   refine st_val hs (y_eql rfl rfl) ⟨_, rfl, rfl⟩ rfl rfl fun a hs => ?_
   refine sv hs (y_pickT rfl rfl) rfl fun a hs => ?_
   refine nl ?_
   exact ⟨rfl, (hs.fix 37 (.bool (c21 && (x1.Factor == y5.Factor))) rfl (and_t h30)).weaken _ ⟨rfl, rfl, rfl, trivial⟩⟩
  have hs := hs.fix 31 (.bool false) rfl (vb h30)
  refine st_skip hs rfl rfl rfl rfl rfl fun a hs => ?_
  refine st_skip hs rfl rfl rfl rfl rfl fun a hs => ?_
  refine st_skip hs rfl rfl rfl rfl rfl fun a hs => ?_
  refine st_skip hs rfl rfl rfl rfl rfl fun a hs => ?_
  refine st_skip hs rfl rfl rfl rfl rfl fun a hs => ?_
  refine sv hs (y_pickF rfl rfl) rfl fun a hs => ?_
  refine nl ?_
  exact ⟨rfl, (hs.fix 37 (.bool (c21 && (x1.Factor == y5.Factor))) rfl (and_f h30)).weaken _ ⟨rfl, rfl, rfl, trivial⟩⟩
 rintro a w1 ⟨h33, hs⟩
 subst h33
 refine mv hs rfl rfl fun a hs => ?_
 refine wpl_join 6 (fun a w1 => w = w1 ∧ Sl 45 [(44, .bool ((c21 && (x1.Factor == y5.Factor)) && (x1.Shift == y5.Shift)))] a) ?_ ?_
 ·rcases Bool.eq_false_or_eq_true (c21 && (x1.Factor == y5.Factor)) with h31 | h31
  ·have hs := hs.fix 38 (.bool true) rfl (vb h31)
   refine st_val hs (y_fieldAddr (o' := 9) Try.runUnderlying26 rfl Try.sizeOf3 rfl rfl rfl) ⟨_, rfl, rfl⟩ rfl rfl fun a hs => ?_
   refine st_val hs (y_loadB1 (hw.ownAt 0 rfl) rfl Try.isAgg3 rfl) ⟨_, rfl, rfl⟩ rfl rfl fun a hs => ?_
   refine st_val hs (y_fieldAddr (o' := 9) Try.runUnderlying26 rfl Try.sizeOf3 rfl rfl rfl) ⟨_, rfl, rfl⟩ rfl rfl fun a hs => ?_
   refine st_val hs (y_loadB1 (hw.ownAt 1 rfl) rfl Try.isAgg3 rfl) ⟨_, rfl, rfl⟩ rfl rfl fun a hs => ?_
   refine st_val hs (y_eql rfl rfl) ⟨_, rfl, rfl⟩ rfl rfl fun a hs => ?_
   refine sv hs (y_pickT rfl rfl) rfl fun a hs => ?_
   refine nl ?_
   exact ⟨rfl, (hs.fix 44 (.bool ((c21 && (x1.Factor == y5.Factor)) && (x1.Shift == y5.Shift))) rfl (and_t h31)).weaken _ ⟨rfl, trivial⟩⟩
  have hs := hs.fix 38 (.bool false) rfl (vb h31)
  refine st_skip hs rfl rfl rfl rfl rfl fun a hs => ?_
  refine st_skip hs rfl rfl rfl rfl rfl fun a hs => ?_
  refine st_skip hs rfl rfl rfl rfl rfl fun a hs => ?_
  refine st_skip hs rfl rfl rfl rfl rfl fun a hs => ?_
  refine st_skip hs rfl rfl rfl rfl rfl fun a hs => ?_
  refine sv hs (y_pickF rfl rfl) rfl fun a hs => ?_
  refine nl ?_
  exact ⟨rfl, (hs.fix 44 (.bool ((c21 && (x1.Factor == y5.Factor)) && (x1.Shift == y5.Shift))) rfl (and_f h31)).weaken _ ⟨rfl, trivial⟩⟩
 rintro a w1 ⟨h32, hs⟩
 subst h32
 refine av hs rfl rfl fun a hs => ?_
 refine nl ?_
 have hsh := oi hsh
 subst hsh
 refine wp_ret ?_
 exact ret1 hs rfl (rv_tmp rfl) (hw.ret rfl)

theorem response_Same_fn1_fn (S0 : Nat → Prop) (w0 : World) : (FnA2 Try.prog 67 [] [] response_Same_fn1).p S0 w0 := by
  refine ⟨Try.call67, ?_⟩
  intro S1 w1 hk hS c0 c1 x0 x1 r1 h0 h1 hf
  obtain ⟨_, _, _, _, _, _, _, _, _, _, rfl, rfl, rfl, rfl, rfl, rfl, rfl, rfl, ⟨_, _, _, rfl, e0⟩, rfl, rfl⟩ := h0
  obtain ⟨_, _, _, _, _, _, _, _, _, _, rfl, rfl, rfl, rfl, rfl, rfl, rfl, rfl, ⟨_, _, _, rfl, e1⟩, rfl, rfl⟩ := h1
  obtain rfl := e0.1
  obtain rfl := e1.1
  exact response_Same_fn1_ok hf hS e0 e1 

abbrev response_Same_rd (w0 : World) (X : List Nat) (r : Bool) : (Nat → Prop) → World → Value → Prop := fun S w v => v = .bool r
set_option maxHeartbeats 4000000 in
set_option maxRecDepth 100000 in
theorem response_Same_ok {w0 : World} {S0 : Nat → Prop} {p2 : Option Addr} {k3 : Nat} {p6 : Option Addr} {k7 : Nat} {a1 : Response} {b5 : Response} {r : Bool} (hsh : response_Same a1 b5 = some r) (hS : ∀ b, S0 b → b < w0.heap.size) (h4 : (SlA p2 a1.Stages.length k3 a1.Stages).p S0 w0) (h8 : (SlA p6 b5.Stages.length k7 b5.Stages).p S0 w0) : Calls Try.prog 35 #[.agg #[.slice p2 a1.Stages.length k3], .agg #[.slice p6 b5.Stages.length k7]] w0 (Ret ([]) w0 S0 (response_Same_rd w0 ([]) r)) := by
 refine calls_of_wp Try.func35 rfl ?_
 have hs := Sl.enter #[.agg #[.slice p2 a1.Stages.length k3], .agg #[.slice p6 b5.Stages.length k7]] 10 [(0, .agg #[.slice p2 a1.Stages.length k3]), (1, .agg #[.slice p6 b5.Stages.length k7])] rfl ⟨rfl, rfl, trivial⟩
 have hw := Wd.enter (E := []) hS (fun _ h => (by cases h))
 have hw := hw.addE h4
 have hw := hw.addE h8
 delta response_Same at hsh
 refine sr ?_
 refine w_box (cs := [.slice p2 a1.Stages.length k3]) hs hw rfl rfl rfl trivial ?_
 intro b9 a w hs hw
 refine w_box (cs := [.slice p6 b5.Stages.length k7]) hs hw rfl rfl rfl trivial ?_
 intro b10 a w hs hw
 refine av hs rfl rfl fun a hs => ?_
 refine nl ?_
 refine sr ?_
 refine sv hs (y_fieldAddr (o' := 0) Try.runUnderlying37 rfl Try.sizeOf35 rfl rfl rfl) rfl fun a hs => ?_
 refine sv hs (y_loadB1 (hw.ownAt 1 rfl) rfl Try.isAgg35 rfl) rfl fun a hs => ?_
 refine sv hs (y_fieldAddr (o' := 0) Try.runUnderlying37 rfl Try.sizeOf35 rfl rfl rfl) rfl fun a hs => ?_
 refine sv hs (y_loadB1 (hw.ownAt 0 rfl) rfl Try.isAgg35 rfl) rfl fun a hs => ?_
 obtain ⟨rv12, h11, hsh⟩ := bind_t hsh
 refine st_callR hs (slices_EqualFunc_Lapi_Stage_Lapi_Stage_api_Stage_api_Stage_ok h11 hw.bdom (hw.bE 1 rfl) (hw.bE 0 rfl) (response_Same_fn1_fn _ _)) (do_call Try.call66 rfl) trivial rfl rfl ?_
 intro v16 Sv13 w a h14 h15 hs
 subst h15
 have hw := hw.callB h14
 refine av hs rfl rfl fun a hs => ?_
 refine nl ?_
 have hsh := oi hsh
 subst hsh
 refine wp_ret ?_
 exact ret1 hs rfl (rv_tmp rfl) (hw.ret rfl)

abbrev response_Sum_rd (w0 : World) (X : List Nat) (r : (Int × Int)) : (Nat → Prop) → World → Value → Prop := fun S w v => v = .tuple #[.int .i64 r.1, .int .i64 r.2]
set_option maxHeartbeats 4000000 in
set_option maxRecDepth 100000 in
theorem response_Sum_ok {w0 : World} {S0 : Nat → Prop} {p2 : Option Addr} {k3 : Nat} {s1 : Stage} {r : (Int × Int)} (hsh : response_Sum s1 = some r) (hS : ∀ b, S0 b → b < w0.heap.size) (h4 : (SlA p2 s1.Taps.length k3 s1.Taps).p S0 w0) : Calls Try.prog 36 #[.agg #[.int .i64 s1.Kind, .int .i64 s1.Num.e0, .int .i64 s1.Num.e1, .int .i64 s1.Num.e2, .int .i64 s1.Den.e0, .int .i64 s1.Den.e1, .int .i64 s1.Den.e2, .slice p2 s1.Taps.length k3, .int .i64 s1.Factor, .int .i64 s1.Shift]] w0 (Ret ([]) w0 S0 (response_Sum_rd w0 ([]) r)) := by
 refine calls_of_wp Try.func36 rfl ?_
 have hs := Sl.enter #[.agg #[.int .i64 s1.Kind, .int .i64 s1.Num.e0, .int .i64 s1.Num.e1, .int .i64 s1.Num.e2, .int .i64 s1.Den.e0, .int .i64 s1.Den.e1, .int .i64 s1.Den.e2, .slice p2 s1.Taps.length k3, .int .i64 s1.Factor, .int .i64 s1.Shift]] 15 [(0, .agg #[.int .i64 s1.Kind, .int .i64 s1.Num.e0, .int .i64 s1.Num.e1, .int .i64 s1.Num.e2, .int .i64 s1.Den.e0, .int .i64 s1.Den.e1, .int .i64 s1.Den.e2, .slice p2 s1.Taps.length k3, .int .i64 s1.Factor, .int .i64 s1.Shift])] rfl ⟨rfl, trivial⟩
 have hw := Wd.enter (E := []) hS (fun _ h => (by cases h))
 have hw := hw.addE h4
 delta response_Sum at hsh
 refine sr ?_
 refine w_box (cs := [.int .i64 s1.Kind, .int .i64 s1.Num.e0, .int .i64 s1.Num.e1, .int .i64 s1.Num.e2, .int .i64 s1.Den.e0, .int .i64 s1.Den.e1, .int .i64 s1.Den.e2, .slice p2 s1.Taps.length k3, .int .i64 s1.Factor, .int .i64 s1.Shift]) hs hw rfl rfl rfl trivial ?_
 intro b5 a w hs hw
 refine av hs rfl rfl fun a hs => ?_
 refine av hs rfl rfl fun a hs => ?_
 refine nl ?_
 refine wp_seq ?_
 refine sr ?_
 refine sv hs (y_loadBA (hw.ownAt 0 rfl) rfl Try.isAgg26 Try.sizeOf26 rfl rfl) rfl fun a hs => ?_
 obtain ⟨rv7, h6, hsh⟩ := bind_t hsh
 refine st_callR hs (response_ValidStage_ok h6 hw.bdom (hw.bE 0 rfl)) (do_call Try.call7 rfl) trivial rfl rfl ?_
 intro v11 Sv8 w a h9 h10 hs
 subst h10
 have hw := hw.callB h9
 refine sv hs (y_not rfl) rfl fun a hs => ?_
 refine mv hs rfl rfl fun a hs => ?_
 refine wpl_join 4 (fun a w1 => w = w1 ∧ Sl 15 [(1, .pointer (some ⟨b5, 0, none⟩)), (11, .bool ((!rv7) || (s1.Kind != 2)))] a) ?_ ?_
 ·rcases Bool.eq_false_or_eq_true (!rv7) with h13 | h13
  ·have hs := hs.fix 7 (.bool true) rfl (vb h13)
   refine st_skip hs rfl rfl rfl rfl rfl fun a hs => ?_
   refine st_skip hs rfl rfl rfl rfl rfl fun a hs => ?_
   refine st_skip hs rfl rfl rfl rfl rfl fun a hs => ?_
   refine sv hs (y_pickT rfl rfl) rfl fun a hs => ?_
   refine nl ?_
   exact ⟨rfl, (hs.fix 11 (.bool ((!rv7) || (s1.Kind != 2))) rfl (or_t h13)).weaken _ ⟨rfl, rfl, trivial⟩⟩
  have hs := hs.fix 7 (.bool false) rfl (vb h13)
  refine st_val hs (y_fieldAddr (o' := 0) Try.runUnderlying26 rfl Try.sizeOf3 rfl rfl rfl) ⟨_, rfl, rfl⟩ rfl rfl fun a hs => ?_
  refine st_val hs (y_loadB1 (hw.ownAt 0 rfl) rfl Try.isAgg3 rfl) ⟨_, rfl, rfl⟩ rfl rfl fun a hs => ?_
  refine st_val hs (y_neq rfl rfl) ⟨_, rfl, rfl⟩ rfl rfl fun a hs => ?_
  refine sv hs (y_pickF rfl rfl) rfl fun a hs => ?_
  refine nl ?_
  exact ⟨rfl, (hs.fix 11 (.bool ((!rv7) || (s1.Kind != 2))) rfl (or_f h13)).weaken _ ⟨rfl, rfl, trivial⟩⟩
 rintro a w1 ⟨h23, hs⟩
 subst h23
 refine nl ?_
 refine wp_cond_split (hs.ev rfl) (fun h15 => ?_) (fun h15 => ?_)
 ·have hsh := ite_t hsh h15
  refine sr ?_
  refine av hs rfl rfl fun a hs => ?_
  refine av hs rfl rfl fun a hs => ?_
  refine nl ?_
  have hsh := oi hsh
  subst hsh
  refine wp_ret ?_
  refine then_ret ?_
  exact ret2 hs rfl (rv_tmp rfl) (rv_tmp rfl) (hw.ret rfl)
 have hsh := ite_f hsh h15
 refine wp_skip ?_
 refine then_normal ?_
 refine sr ?_
 refine sv hs (y_fieldAddr (o' := 7) Try.runUnderlying26 rfl Try.sizeOf24 rfl rfl rfl) rfl fun a hs => ?_
 refine sv hs (y_loadB1 (hw.ownAt 0 rfl) rfl Try.isAgg24 rfl) rfl fun a hs => ?_
 obtain ⟨rv17, h16, hsh⟩ := bind_t hsh
 refine st_callR hs (response_sum_ok h16 hw.bdom (hw.bE 0 rfl)) (do_call Try.call41 rfl) trivial rfl rfl ?_
 intro v21 Sv18 w a h19 h20 hs
 subst h20
 have hw := hw.callB h19
 refine av hs rfl rfl fun a hs => ?_
 refine av hs rfl rfl fun a hs => ?_
 refine nl ?_
 have hsh := oi hsh
 subst hsh
 refine wp_ret ?_
 exact ret2 hs rfl (rv_tmp rfl) (rv_tmp rfl) (hw.ret rfl)

abbrev ref18_Sum_rd (w0 : World) (X : List Nat) (r : (Int × Int)) : (Nat → Prop) → World → Value → Prop := fun S w v => v = .tuple #[.int .i64 r.1, .int .i64 r.2]
set_option maxHeartbeats 4000000 in
set_option maxRecDepth 100000 in
theorem ref18_Sum_ok {w0 : World} {S0 : Nat → Prop} {p2 : Option Addr} {k3 : Nat} {s1 : Stage} {r : (Int × Int)} (hsh : ref18_Sum s1 = some r) (hS : ∀ b, S0 b → b < w0.heap.size) (h4 : (SlA p2 s1.Taps.length k3 s1.Taps).p S0 w0) : Calls Try.prog 37 #[.agg #[.int .i64 s1.Kind, .int .i64 s1.Num.e0, .int .i64 s1.Num.e1, .int .i64 s1.Num.e2, .int .i64 s1.Den.e0, .int .i64 s1.Den.e1, .int .i64 s1.Den.e2, .slice p2 s1.Taps.length k3, .int .i64 s1.Factor, .int .i64 s1.Shift]] w0 (Ret ([]) w0 S0 (ref18_Sum_rd w0 ([]) r)) := by
 refine calls_of_wp Try.func37 rfl ?_
 have hs := Sl.enter #[.agg #[.int .i64 s1.Kind, .int .i64 s1.Num.e0, .int .i64 s1.Num.e1, .int .i64 s1.Num.e2, .int .i64 s1.Den.e0, .int .i64 s1.Den.e1, .int .i64 s1.Den.e2, .slice p2 s1.Taps.length k3, .int .i64 s1.Factor, .int .i64 s1.Shift]] 15 [(0, .agg #[.int .i64 s1.Kind, .int .i64 s1.Num.e0, .int .i64 s1.Num.e1, .int .i64 s1.Num.e2, .int .i64 s1.Den.e0, .int .i64 s1.Den.e1, .int .i64 s1.Den.e2, .slice p2 s1.Taps.length k3, .int .i64 s1.Factor, .int .i64 s1.Shift])] rfl ⟨rfl, trivial⟩
 have hw := Wd.enter (E := []) hS (fun _ h => (by cases h))
 have hw := hw.addE h4
 delta ref18_Sum at hsh
 refine sr ?_
 refine w_box (cs := [.int .i64 s1.Kind, .int .i64 s1.Num.e0, .int .i64 s1.Num.e1, .int .i64 s1.Num.e2, .int .i64 s1.Den.e0, .int .i64 s1.Den.e1, .int .i64 s1.Den.e2, .slice p2 s1.Taps.length k3, .int .i64 s1.Factor, .int .i64 s1.Shift]) hs hw rfl rfl rfl trivial ?_
 intro b5 a w hs hw
 refine av hs rfl rfl fun a hs => ?_
 refine av hs rfl rfl fun a hs => ?_
 refine nl ?_
 refine wp_seq ?_
 refine sr ?_
 refine sv hs (y_loadBA (hw.ownAt 0 rfl) rfl Try.isAgg26 Try.sizeOf26 rfl rfl) rfl fun a hs => ?_
 obtain ⟨rv7, h6, hsh⟩ := bind_t hsh
 refine st_callR hs (ref18_ValidStage_ok h6 hw.bdom (hw.bE 0 rfl)) (do_call Try.call38 rfl) trivial rfl rfl ?_
 intro v11 Sv8 w a h9 h10 hs
 subst h10
 have hw := hw.callB h9
 refine sv hs (y_not rfl) rfl fun a hs => ?_
 refine mv hs rfl rfl fun a hs => ?_
 refine wpl_join 4 (fun a w1 => w = w1 ∧ Sl 15 [(1, .pointer (some ⟨b5, 0, none⟩)), (11, .bool ((!rv7) || (s1.Kind != 2)))] a) ?_ ?_
 ·rcases Bool.eq_false_or_eq_true (!rv7) with h13 | h13
  ·have hs := hs.fix 7 (.bool true) rfl (vb h13)
   refine st_skip hs rfl rfl rfl rfl rfl fun a hs => ?_
   refine st_skip hs rfl rfl rfl rfl rfl fun a hs => ?_
   refine st_skip hs rfl rfl rfl rfl rfl fun a hs => ?_
   refine sv hs (y_pickT rfl rfl) rfl fun a hs => ?_
   refine nl ?_
   exact ⟨rfl, (hs.fix 11 (.bool ((!rv7) || (s1.Kind != 2))) rfl (or_t h13)).weaken _ ⟨rfl, rfl, trivial⟩⟩
  have hs := hs.fix 7 (.bool false) rfl (vb h13)
  refine st_val hs (y_fieldAddr (o' := 0) Try.runUnderlying26 rfl Try.sizeOf3 rfl rfl rfl) ⟨_, rfl, rfl⟩ rfl rfl fun a hs => ?_
  refine st_val hs (y_loadB1 (hw.ownAt 0 rfl) rfl Try.isAgg3 rfl) ⟨_, rfl, rfl⟩ rfl rfl fun a hs => ?_
  refine st_val hs (y_neq rfl rfl) ⟨_, rfl, rfl⟩ rfl rfl fun a hs => ?_
  refine sv hs (y_pickF rfl rfl) rfl fun a hs => ?_
  refine nl ?_
  exact ⟨rfl, (hs.fix 11 (.bool ((!rv7) || (s1.Kind != 2))) rfl (or_f h13)).weaken _ ⟨rfl, rfl, trivial⟩⟩
 rintro a w1 ⟨h23, hs⟩
 subst h23
 refine nl ?_
 refine wp_cond_split (hs.ev rfl) (fun h15 => ?_) (fun h15 => ?_)
 ·have hsh := ite_t hsh h15
  refine sr ?_
  refine av hs rfl rfl fun a hs => ?_
  refine av hs rfl rfl fun a hs => ?_
  refine nl ?_
  have hsh := oi hsh
  subst hsh
  refine wp_ret ?_
  refine then_ret ?_
  exact ret2 hs rfl (rv_tmp rfl) (rv_tmp rfl) (hw.ret rfl)
 have hsh := ite_f hsh h15
 refine wp_skip ?_
 refine then_normal ?_
 refine sr ?_
 refine sv hs (y_fieldAddr (o' := 7) Try.runUnderlying26 rfl Try.sizeOf24 rfl rfl rfl) rfl fun a hs => ?_
 refine sv hs (y_loadB1 (hw.ownAt 0 rfl) rfl Try.isAgg24 rfl) rfl fun a hs => ?_
 obtain ⟨rv17, h16, hsh⟩ := bind_t hsh
 refine st_callR hs (ref18_total_ok h16 hw.bdom (hw.bE 0 rfl)) (do_call Try.call69 rfl) trivial rfl rfl ?_
 intro v21 Sv18 w a h19 h20 hs
 subst h20
 have hw := hw.callB h19
 refine av hs rfl rfl fun a hs => ?_
 refine av hs rfl rfl fun a hs => ?_
 refine nl ?_
 have hsh := oi hsh
 subst hsh
 refine wp_ret ?_
 exact ret2 hs rfl (rv_tmp rfl) (rv_tmp rfl) (hw.ret rfl)

end Go.Proofs.Ytoendkojgjobbaa.Wk

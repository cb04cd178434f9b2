/- The walks of ReceiverOnce, part 1: each Go function computes what its plain program computes. Printed by a program of ours. -/
import Derived.Test.YtiihddcppmjbaaaProg
import Derived.Test.YtiihddcppmjbaaaDat
import Derived.Test.YtiihddcppmjbaaaSh
import Derived.Test.YtiihddcppmjbaaaLibL
import Derived.Test.YtiihddcppmjbaaaLibZ
import Derived.KernelRfl
namespace Go.Proofs.Ytiihddcppmjbaaa.Wk
open Go Go.RowKit Go.Proofs Go.Proofs.Ytiihddcppmjbaaa.Sh
set_option linter.unusedVariables false
set_option linter.unusedSimpArgs false

theorem El22 : ElT Try.prog 22 3 1 8 (.int .i64 0) := ⟨Try.underlying22, ⟨Try.t3, info_of Try.type3, rfl, rfl, rfl⟩, rfl, by decide⟩
theorem El27 : ElT Try.prog 27 46 2 16 (.agg #[.int .i64 0, .int .i64 0]) := ⟨Try.underlying27, ⟨Try.t46, info_of Try.type46, rfl, rfl, rfl⟩, rfl, by decide⟩
theorem El43 : ElT Try.prog 43 27 1 24 (.slice none ([] : List Span).length 0) := ⟨Try.underlying43, ⟨Try.t27, info_of Try.type27, rfl, rfl, rfl⟩, rfl, by decide⟩
theorem Bld29 : BldT Try.prog 29 ((#[(0, 1), (1, 1)] : Array (Nat × Nat))[·]?) [.slice none ([] : List Span).length 0, .slice none ([] : List Span).length 0] := bld_of Try.zeroValue29 rfl Try.runUnderlying29 (fun w => by simp [Try.sizeOf27])
theorem Bld46 : BldT Try.prog 46 ((#[(0, 1), (1, 1)] : Array (Nat × Nat))[·]?) [.int .i64 0, .int .i64 0] := bld_of Try.zeroValue46 rfl Try.runUnderlying46 (fun w => by simp [Try.sizeOf3])
theorem Bld57 : BldT Try.prog 57 ((#[(0, 1), (1, 1)] : Array (Nat × Nat))[·]?) [.slice none ([] : List Int).length 0, .int .i64 0] := bld_of Try.zeroValue57 rfl Try.runUnderlying57 (fun w => by simp [Try.sizeOf3, Try.sizeOf22])

abbrev made_Light_rd (w0 : World) (X : List Nat) (r : Bool) : (Nat → Prop) → World → Value → Prop := fun S w v => v = .bool r
set_option maxHeartbeats 4000000 in
set_option maxRecDepth 100000 in
theorem made_Light_ok {w0 : World} {S0 : Nat → Prop} {p2 : Option Addr} {k3 : Nat} {l1 : (List Int)} {r : Bool} (hsh : made_Light l1 = some r) (hS : ∀ b, S0 b → b < w0.heap.size) (h4 : (SlA p2 l1.length k3 l1).p S0 w0) : Calls Try.prog 7 #[.slice p2 l1.length k3] w0 (Ret ([]) w0 S0 (made_Light_rd w0 ([]) r)) := by
 refine calls_of_wp Try.func7 rfl ?_
 have hs := Sl.enter #[.slice p2 l1.length k3] 6 [(0, .slice p2 l1.length k3)] rfl ⟨rfl, trivial⟩
 have hw := Wd.enter (E := []) hS (fun _ h => (by cases h))
 have hw := hw.addE h4
 delta made_Light at hsh
 refine sr ?_
 refine av hs rfl rfl fun a hs => ?_
 refine nl ?_
 refine sr ?_
 refine mv hs rfl rfl fun a hs => ?_
 refine sv hs (y_len Try.runUnderlying22 rfl) rfl fun a hs => ?_
 refine sv hs (y_leq rfl rfl) rfl fun a hs => ?_
 refine av hs rfl rfl fun a hs => ?_
 refine nl ?_
 have hsh := oi hsh
 subst hsh
 refine wp_ret ?_
 exact ret1 hs rfl (rv_tmp rfl) (hw.ret rfl)

abbrev receiver_New_rd (w0 : World) (X : List Nat) (r : Receiver) : (Nat → Prop) → World → Value → Prop := fun S w v => ∃ (p0_0 : Option Addr) (k0_0 : Nat) (p0_1 : Option Addr) (k0_1 : Nat), v = .agg #[.slice p0_0 r.Got.length k0_0, .slice p0_1 r.Lost.length k0_1] ∧ (SlA p0_0 r.Got.length k0_0 r.Got).p S w ∧ (SlA p0_1 r.Lost.length k0_1 r.Lost).p S w
set_option maxHeartbeats 4000000 in
set_option maxRecDepth 100000 in
theorem receiver_New_ok {w0 : World} {S0 : Nat → Prop} {r : Receiver} (hsh : receiver_New = some r) (hS : ∀ b, S0 b → b < w0.heap.size) : Calls Try.prog 10 #[] w0 (Ret ([]) w0 S0 (receiver_New_rd w0 ([]) r)) := by
 refine calls_of_wp Try.func10 rfl ?_
 have hs := Sl.enter #[] 2 [] rfl trivial
 have hw := Wd.enter (E := []) hS (fun _ h => (by cases h))
 delta receiver_New at hsh
 refine sr ?_
 refine w_alloc (cs := [.slice none ([] : List Span).length 0, .slice none ([] : List Span).length 0]) hs hw Try.zeroValue29 rfl rfl trivial ?_
 intro b1 a w hs hw
 refine nl ?_
 refine sr ?_
 refine sv hs (y_build (vs := []) Bld29 rfl rfl) rfl fun a hs => ?_
 refine w_store (m := 2) (cs' := [.slice none ([] : List Span).length 0, .slice none ([] : List Span).length 0]) hs hw 0 rfl rfl rfl Try.sizeOf29 rfl rfl rfl rfl trivial ?_
 intro a w hs hw
 refine nl ?_
 have hsh := oi hsh
 subst hsh
 have hw := hw.addE (e := SlA (α := Span) none 0 0 []) nil_sl
 refine wp_ret ?_
 exact ret1 hs rfl (rv_cell hw 0 rfl rfl Try.isAgg29 Try.sizeOf29 rfl) (hw.ret ⟨none, 0, none, 0, rfl, (hw.envAt 0 rfl), (hw.envAt 0 rfl)⟩)

abbrev span_some_rd (w0 : World) (X : List Nat) (r : Bool) : (Nat → Prop) → World → Value → Prop := fun S w v => v = .bool r
set_option maxHeartbeats 4000000 in
set_option maxRecDepth 100000 in
theorem span_some_ok {w0 : World} {S0 : Nat → Prop} {s1 : Span} {r : Bool} (hsh : span_some s1 = some r) (hS : ∀ b, S0 b → b < w0.heap.size) : Calls Try.prog 58 #[.agg #[.int .i64 s1.From, .int .i64 s1.To]] w0 (Ret ([]) w0 S0 (span_some_rd w0 ([]) r)) := by
 refine calls_of_wp Try.func58 rfl ?_
 have hs := Sl.enter #[.agg #[.int .i64 s1.From, .int .i64 s1.To]] 8 [(0, .agg #[.int .i64 s1.From, .int .i64 s1.To])] rfl ⟨rfl, trivial⟩
 have hw := Wd.enter (E := []) hS (fun _ h => (by cases h))
 delta span_some at hsh
 refine sr ?_
 refine w_box (cs := [.int .i64 s1.From, .int .i64 s1.To]) hs hw rfl rfl rfl trivial ?_
 intro b2 a w hs hw
 refine av hs rfl rfl fun a hs => ?_
 refine nl ?_
 refine sr ?_
 refine sv hs (y_fieldAddr (o' := 0) Try.runUnderlying46 rfl Try.sizeOf3 rfl rfl rfl) rfl fun a hs => ?_
 refine sv hs (y_loadB1 (hw.ownAt 0 rfl) rfl Try.isAgg3 rfl) rfl fun a hs => ?_
 refine sv hs (y_fieldAddr (o' := 1) Try.runUnderlying46 rfl Try.sizeOf3 rfl rfl rfl) rfl fun a hs => ?_
 refine sv hs (y_loadB1 (hw.ownAt 0 rfl) rfl Try.isAgg3 rfl) rfl fun a hs => ?_
 refine sv hs (y_lss rfl rfl) rfl fun a hs => ?_
 refine av hs rfl rfl fun a hs => ?_
 refine nl ?_
 have hsh := oi hsh
 subst hsh
 refine wp_ret ?_
 exact ret1 hs rfl (rv_tmp rfl) (hw.ret rfl)

abbrev span_Valid_rd (w0 : World) (X : List Nat) (r : Bool) : (Nat → Prop) → World → Value → Prop := fun S w v => v = .bool r
set_option maxHeartbeats 4000000 in
set_option maxRecDepth 100000 in
theorem span_Valid_ok {w0 : World} {S0 : Nat → Prop} {p2 : Option Addr} {k3 : Nat} {l1 : (List Span)} {r : Bool} (hsh : span_Valid l1 = some r) (hS : ∀ b, S0 b → b < w0.heap.size) (h4 : (SlA p2 l1.length k3 l1).p S0 w0) : Calls Try.prog 57 #[.slice p2 l1.length k3] w0 (Ret ([]) w0 S0 (span_Valid_rd w0 ([]) r)) := by
 refine calls_of_wp Try.func57 rfl ?_
 have hs := Sl.enter #[.slice p2 l1.length k3] 31 [(0, .slice p2 l1.length k3)] rfl ⟨rfl, trivial⟩
 have hw := Wd.enter (E := []) hS (fun _ h => (by cases h))
 have hw := hw.addE h4
 delta span_Valid at hsh
 refine sr ?_
 refine av hs rfl rfl fun a hs => ?_
 refine nl ?_
 refine wp_seq ?_
 refine sr ?_
 refine mv hs rfl rfl fun a hs => ?_
 refine sv hs (y_len Try.runUnderlying27 rfl) rfl fun a hs => ?_
 refine mv hs rfl rfl fun a hs => ?_
 refine nl ?_
 refine wp_block ?_
 refine wp_while (fun sv97 a w => ∃ (Sv157 : Nat → Prop), Sl 31 [(0, .slice p2 l1.length k3), (5, .slice p2 l1.length k3), (6, .int .i64 (l1.length : Int)), (7, .int .i64 sv97)] a ∧ Wd ⟨w0, S0, []⟩ Sv157 [] [SlA p2 l1.length k3 l1] w) 0 hsh ⟨S0, (hs.wk rfl), (hw.ft [] [0] (by decide) rfl rfl)⟩ ?_
 repeat clear hsh
 rintro sv97 a w tv188 ⟨Sv157, hs, hw⟩ hsh hd187
 delta span_Valid_l2 at hsh
 refine sr ?_
 refine sv hs (y_lss rfl rfl) rfl fun a hs => ?_
 refine nl ?_
 refine wp_seq ?_
 refine wp_cond_split (hs.ev rfl) (fun h192 => ?_) (fun h192 => ?_)
 ·have hsh := ite_t hsh h192
  refine wp_skip ?_
  refine then_normal ?_
  refine wp_seq ?_
  refine wp_block ?_
  refine sr ?_
  refine mv hs rfl rfl fun a hs => ?_
  obtain ⟨x223, h221, hsh⟩ := bind_t hsh
  obtain ⟨b229, o230, q227, c228, h231, h224, h225, h226, h222⟩ := hw.elemV 0 rfl h221
  have hsv232 := hs
  have hwv233 := hw
  subst h231
  have hs := hsv232
  have hw := hwv233
  obtain ⟨_, _, rfl, rfl, rfl⟩ := h222
  have hw := hw.addE h226
  refine sv hs (y_indexAt Try.runUnderlying27 Try.sizeOf46 rfl rfl h224.1 h224.2 h225) rfl fun a hs => ?_
  refine sv hs (y_loadEA (j := 0) (hw.ceAt 0 rfl) rfl Try.isAgg46 Try.sizeOf46 rfl rfl) rfl fun a hs => ?_
  refine w_alloc (cs := [.int .i64 0, .int .i64 0]) hs hw Try.zeroValue46 rfl rfl trivial ?_
  intro b234 a w hs hw
  refine av hs rfl rfl fun a hs => ?_
  refine w_store (m := 2) (cs' := [.int .i64 x223.From, .int .i64 x223.To]) hs hw 0 rfl rfl rfl Try.sizeOf46 rfl rfl rfl rfl trivial ?_
  intro a w hs hw
  refine nl ?_
  refine wp_seq ?_
  obtain ⟨rv236, h235, hsh⟩ := bind_t hsh
  obtain ⟨c246, hc246, hsh⟩ := bind_t hsh
  refine wp_only (fun a w => ∃ (Sv247 : Nat → Prop), Sl 31 [(0, .slice (some ⟨b229, o230, none⟩) l1.length k3), (5, .slice (some ⟨b229, o230, none⟩) l1.length k3), (6, .int .i64 (l1.length : Int)), (7, .int .i64 sv97), (29, .bool c246)] a ∧ Wd ⟨w0, S0, []⟩ Sv247 [] [SlA (some ⟨b229, o230, none⟩) l1.length k3 l1] w) ?_ ?_
  ·rcases Bool.eq_false_or_eq_true (!rv236) with h248 | h248
   ·have h249 := ite_t hc246 h248
    refine h_b (C := Cls [.box b234 [.int .i64 x223.From, .int .i64 x223.To] 46] [CeA b229 q227 [.int .i64 x223.From, .int .i64 x223.To]]) (by kernel_rfl) rfl (hw.drew.cs [0] [0] rfl rfl) fun hC => ?_
    have hw := hw.drew
    refine gv hs 0 rfl rfl hC (fun w hC => y_loadBA (hC.ownAt 0 rfl) rfl Try.isAgg46 Try.sizeOf46 rfl rfl) fun a hs => ?_
    refine ho 1 rfl ?_
    refine st_callR hs (span_some_ok h235 hw.bdom) (do_call Try.call58 rfl) trivial rfl rfl ?_
    intro v253 Sv250 w a h251 h252 hs
    subst h252
    have hw := hw.callB h251
    refine h_nx (hw.cs [0] [0] rfl rfl) fun hC => ?_
    refine gv hs 2 rfl rfl hC (fun w hC => y_not rfl) fun a hs => ?_
    refine gm hs 3 rfl rfl rfl hC fun a hs => ?_
    have hs := hs.fix 15 (.bool true) rfl (vb h248)
    refine gs hs 4 rfl rfl rfl rfl hC fun a hs => ?_
    refine gs hs 5 rfl rfl rfl rfl hC fun a hs => ?_
    refine gs hs 6 rfl rfl rfl rfl hC fun a hs => ?_
    refine h_s hs 7 rfl (by kernel_rfl) rfl rfl rfl (.inr rfl) rfl rfl hC fun a hs => ?_
    refine h_s hs 8 rfl (by kernel_rfl) rfl rfl rfl (.inr rfl) rfl rfl hC fun a hs => ?_
    refine h_s hs 9 rfl (by kernel_rfl) rfl rfl rfl (.inr rfl) rfl rfl hC fun a hs => ?_
    refine h_s hs 10 rfl (by kernel_rfl) rfl rfl rfl (.inr rfl) rfl rfl hC fun a hs => ?_
    refine h_s hs 11 rfl (by kernel_rfl) rfl rfl rfl (.inr rfl) rfl rfl hC fun a hs => ?_
    refine h_s hs 12 rfl (by kernel_rfl) rfl rfl rfl (.inr rfl) rfl rfl hC fun a hs => ?_
    refine h_s hs 13 rfl (by kernel_rfl) rfl rfl rfl (.inr rfl) rfl rfl hC fun a hs => ?_
    refine h_s hs 14 rfl (by kernel_rfl) rfl rfl rfl (.inr rfl) rfl rfl hC fun a hs => ?_
    refine h_s hs 15 rfl (by kernel_rfl) rfl rfl rfl (.inr rfl) rfl rfl hC fun a hs => ?_
    refine gs hs 16 rfl rfl rfl rfl hC fun a hs => ?_
    refine gv hs 17 rfl rfl hC (fun w hC => y_pickTE (v := .bool c246) rfl rfl (vbs h249)) fun a hs => ?_
    refine h_done (by kernel_rfl) ?_
    exact ⟨Sv157, (hs.wk rfl), (hw.ft [] [1] (by decide) rfl rfl)⟩
   have h255 := ite_f hc246 h248
   obtain ⟨c264, hc264, h255⟩ := bind_t h255
   rcases Bool.eq_false_or_eq_true (decide (0 < sv97)) with h265 | h265
   ·have h266 := ite_t hc264 h265
    obtain ⟨x269, h267, h266⟩ := bind_t h266
    obtain ⟨q273, c274, h270, h271, h272, h268⟩ := hw.elemK 1 rfl h267
    obtain ⟨_, _, rfl, rfl, rfl⟩ := h268
    have hw := hw.addE h272
    refine h_b (C := Cls [.box b234 [.int .i64 x223.From, .int .i64 x223.To] 46] [CeA b229 q273 [.int .i64 x269.From, .int .i64 x269.To], CeA b229 q227 [.int .i64 x223.From, .int .i64 x223.To]]) (by kernel_rfl) rfl (hw.drew.cs [0] [0, 1] rfl rfl) fun hC => ?_
    have hw := hw.drew
    refine gv hs 0 rfl rfl hC (fun w hC => y_loadBA (hC.ownAt 0 rfl) rfl Try.isAgg46 Try.sizeOf46 rfl rfl) fun a hs => ?_
    refine ho 1 rfl ?_
    refine st_callR hs (span_some_ok h235 hw.bdom) (do_call Try.call58 rfl) trivial rfl rfl ?_
    intro v278 Sv275 w a h276 h277 hs
    subst h277
    have hw := hw.callB h276
    refine h_nx (hw.cs [0] [0, 1] rfl rfl) fun hC => ?_
    refine gv hs 2 rfl rfl hC (fun w hC => y_not rfl) fun a hs => ?_
    refine gm hs 3 rfl rfl rfl hC fun a hs => ?_
    have hs := hs.fix 15 (.bool false) rfl (vb h248)
    refine gt hs 4 rfl ⟨_, rfl, rfl⟩ rfl hC (fun w hC => y_move rfl) fun a hs => ?_
    refine gt hs 5 rfl ⟨_, rfl, rfl⟩ rfl hC (fun w hC => y_gtr rfl rfl) fun a hs => ?_
    refine gt hs 6 rfl ⟨_, rfl, rfl⟩ rfl hC (fun w hC => y_move rfl) fun a hs => ?_
    have hs := hs.fix 18 (.bool true) rfl (vb h265)
    refine gt hs 7 rfl ⟨_, rfl, rfl⟩ rfl hC (fun w hC => y_fieldAddr (o' := 0) Try.runUnderlying46 rfl Try.sizeOf3 rfl rfl rfl) fun a hs => ?_
    refine gt hs 8 rfl ⟨_, rfl, rfl⟩ rfl hC (fun w hC => y_loadB1 (hC.ownAt 0 rfl) rfl Try.isAgg3 rfl) fun a hs => ?_
    refine gt hs 9 rfl ⟨_, rfl, rfl⟩ rfl hC (fun w hC => y_move rfl) fun a hs => ?_
    refine gt hs 10 rfl ⟨_, rfl, rfl⟩ rfl hC (fun w hC => y_move rfl) fun a hs => ?_
    refine gt hs 11 rfl ⟨_, rfl, rfl⟩ rfl hC (fun w hC => y_sub rfl rfl) fun a hs => ?_
    refine gt hs 12 rfl ⟨_, rfl, rfl⟩ rfl hC (fun w hC => y_indexAt Try.runUnderlying27 Try.sizeOf46 rfl rfl h270.1 h270.2 h271) fun a hs => ?_
    refine gt hs 13 rfl ⟨_, rfl, rfl⟩ rfl hC (fun w hC => y_fieldAddr (o' := q273 + 1) Try.runUnderlying46 rfl Try.sizeOf3 rfl rfl rfl) fun a hs => ?_
    refine gt hs 14 rfl ⟨_, rfl, rfl⟩ rfl hC (fun w hC => y_loadE1 (j := 1) (hC.ceAt 0 rfl) rfl Try.isAgg3 rfl) fun a hs => ?_
    refine gt hs 15 rfl ⟨_, rfl, rfl⟩ rfl hC (fun w hC => y_leq rfl rfl) fun a hs => ?_
    refine gt hs 16 rfl ⟨_, rfl, rfl⟩ rfl hC (fun w hC => y_pickTE (v := .bool c264) rfl rfl (vbs h266)) fun a hs => ?_
    refine gv hs 17 rfl rfl hC (fun w hC => y_pickFE (v := .bool c246) rfl rfl (vbs h255)) fun a hs => ?_
    refine h_done (by kernel_rfl) ?_
    exact ⟨Sv157, (hs.wk rfl), (hw.ft [] [2] (by decide) rfl rfl)⟩
   have h280 := ite_f hc264 h265
   refine h_b (C := Cls [.box b234 [.int .i64 x223.From, .int .i64 x223.To] 46] [CeA b229 q227 [.int .i64 x223.From, .int .i64 x223.To]]) (by kernel_rfl) rfl (hw.drew.cs [0] [0] rfl rfl) fun hC => ?_
   have hw := hw.drew
   refine gv hs 0 rfl rfl hC (fun w hC => y_loadBA (hC.ownAt 0 rfl) rfl Try.isAgg46 Try.sizeOf46 rfl rfl) fun a hs => ?_
   refine ho 1 rfl ?_
   refine st_callR hs (span_some_ok h235 hw.bdom) (do_call Try.call58 rfl) trivial rfl rfl ?_
   intro v284 Sv281 w a h282 h283 hs
   subst h283
   have hw := hw.callB h282
   refine h_nx (hw.cs [0] [0] rfl rfl) fun hC => ?_
   refine gv hs 2 rfl rfl hC (fun w hC => y_not rfl) fun a hs => ?_
   refine gm hs 3 rfl rfl rfl hC fun a hs => ?_
   have hs := hs.fix 15 (.bool false) rfl (vb h248)
   refine gt hs 4 rfl ⟨_, rfl, rfl⟩ rfl hC (fun w hC => y_move rfl) fun a hs => ?_
   refine gt hs 5 rfl ⟨_, rfl, rfl⟩ rfl hC (fun w hC => y_gtr rfl rfl) fun a hs => ?_
   refine gt hs 6 rfl ⟨_, rfl, rfl⟩ rfl hC (fun w hC => y_move rfl) fun a hs => ?_
   have hs := hs.fix 18 (.bool false) rfl (vb h265)
   refine gs hs 7 rfl rfl rfl rfl hC fun a hs => ?_
   refine gs hs 8 rfl rfl rfl rfl hC fun a hs => ?_
   refine gs hs 9 rfl rfl rfl rfl hC fun a hs => ?_
   refine gs hs 10 rfl rfl rfl rfl hC fun a hs => ?_
   refine gs hs 11 rfl rfl rfl rfl hC fun a hs => ?_
   refine gs hs 12 rfl rfl rfl rfl hC fun a hs => ?_
   refine gs hs 13 rfl rfl rfl rfl hC fun a hs => ?_
   refine gs hs 14 rfl rfl rfl rfl hC fun a hs => ?_
   refine gs hs 15 rfl rfl rfl rfl hC fun a hs => ?_
   refine gt hs 16 rfl ⟨_, rfl, rfl⟩ rfl hC (fun w hC => y_pickFE (v := .bool c264) rfl rfl (vbs h280)) fun a hs => ?_
   refine gv hs 17 rfl rfl hC (fun w hC => y_pickFE (v := .bool c246) rfl rfl (vbs h255)) fun a hs => ?_
   refine h_done (by kernel_rfl) ?_
   exact ⟨Sv157, (hs.wk rfl), (hw.ft [] [1] (by decide) rfl rfl)⟩
  rintro a w ⟨Sv247, hs, hw⟩
  refine then_normal ?_
  refine wp_cond_split (hs.ev rfl) (fun h287 => ?_) (fun h287 => ?_)
  ·have hsh := ite_t hsh h287
   refine sr ?_
   refine av hs rfl rfl fun a hs => ?_
   refine nl ?_
   have hsh := oi hsh
   subst hsh
   have h288 := hd187 _ rfl
   subst h288
   refine wp_ret ?_
   refine blk_ret ?_
   refine then_ret ?_
   refine then_ret ?_
   refine blk_ret ?_
   refine then_ret ?_
   exact ret1 hs rfl (rv_tmp rfl) (hw.ret rfl)
  have hsh := ite_f hsh h287
  refine wp_skip ?_
  refine blk_normal ?_
  refine then_normal ?_
  refine wp_region_lit ?_
  refine sv hs (y_add rfl rfl) rfl fun a hs => ?_
  refine mv hs rfl rfl fun a hs => ?_
  refine nl ?_
  exact ⟨_, (Option.some.inj hsh).symm, Sv247, (hs.wk rfl), (hw.ft [] [0] (by decide) rfl rfl)⟩
 have hsh := ite_f hsh h192
 obtain ⟨rv289, hsh, h290⟩ := map_t hsh
 have h290 := (hd187 _ h290.symm).symm
 subst h290
 refine wp_exit ?_
 refine then_exit ?_
 refine then_exit ?_
 refine blk_exit ?_
 refine then_normal ?_
 refine sr ?_
 refine av hs rfl rfl fun a hs => ?_
 refine nl ?_
 have hsh := oi hsh
 subst hsh
 refine wp_ret ?_
 exact ret1 hs rfl (rv_tmp rfl) (hw.ret rfl)

abbrev receiver_set_rd (w0 : World) (X : List Nat) (r : Bool) : (Nat → Prop) → World → Value → Prop := fun S w v => v = .bool r
set_option maxHeartbeats 4000000 in
set_option maxRecDepth 100000 in
theorem receiver_set_ok {w0 : World} {S0 : Nat → Prop} {p2 : Option Addr} {k3 : Nat} {l1 : (List Span)} {r : Bool} (hsh : receiver_set l1 = some r) (hS : ∀ b, S0 b → b < w0.heap.size) (h4 : (SlA p2 l1.length k3 l1).p S0 w0) : Calls Try.prog 40 #[.slice p2 l1.length k3] w0 (Ret ([]) w0 S0 (receiver_set_rd w0 ([]) r)) := by
 refine calls_of_wp Try.func40 rfl ?_
 have hs := Sl.enter #[.slice p2 l1.length k3] 27 [(0, .slice p2 l1.length k3)] rfl ⟨rfl, trivial⟩
 have hw := Wd.enter (E := []) hS (fun _ h => (by cases h))
 have hw := hw.addE h4
 delta receiver_set at hsh
 refine sr ?_
 refine av hs rfl rfl fun a hs => ?_
 refine nl ?_
 refine sr ?_
 refine mv hs rfl rfl fun a hs => ?_
 obtain ⟨rv6, h5, hsh⟩ := bind_t hsh
 refine st_callR hs (span_Valid_ok h5 hw.bdom (hw.bE 0 rfl)) (do_call Try.call57 rfl) trivial rfl rfl ?_
 intro v10 Sv7 w a h8 h9 hs
 subst h9
 have hw := hw.callB h8
 refine mv hs rfl rfl fun a hs => ?_
 obtain ⟨c80, hc80, hsh⟩ := bind_t hsh
 refine wpl_join 21 (fun a w => ∃ (Sv81 : Nat → Prop), Sl 27 [(26, .bool c80)] a ∧ Wd ⟨w0, S0, []⟩ Sv81 [] [] w) ?_ ?_
 ·rcases Bool.eq_false_or_eq_true rv6 with h79 | h79
  ·have hs := hs.fix 5 (.bool true) rfl (vb h79)
   have hsh := ite_t hc80 h79
   refine st_val hs (y_move rfl) ⟨_, rfl, rfl⟩ rfl rfl fun a hs => ?_
   refine st_val hs (y_len Try.runUnderlying27 rfl) ⟨_, rfl, rfl⟩ rfl rfl fun a hs => ?_
   refine st_val hs (y_eql rfl rfl) ⟨_, rfl, rfl⟩ rfl rfl fun a hs => ?_
   refine st_val hs (y_move rfl) ⟨_, rfl, rfl⟩ rfl rfl fun a hs => ?_
   obtain ⟨c115, hc115, hsh⟩ := bind_t hsh
   refine wpl_join 16 (fun a w => ∃ (Sv116 : Nat → Prop), Sl 27 [(5, .bool true), (25, .bool c115)] a ∧ Wd ⟨w0, S0, []⟩ Sv116 [] [] w) ?_ ?_
   ·rcases Bool.eq_false_or_eq_true ((l1.length : Int) == 0) with h114 | h114
    ·have hs := hs.fix 9 (.bool true) rfl (vb h114)
     have hsh := ite_t hc115 h114
     refine st_skip hs rfl rfl rfl rfl rfl fun a hs => ?_
     refine st_skip hs rfl rfl rfl rfl rfl fun a hs => ?_
     refine st_skip hs rfl rfl rfl rfl rfl fun a hs => ?_
     refine st_skip hs rfl rfl rfl rfl rfl fun a hs => ?_
     refine st_skip hs rfl rfl rfl rfl rfl fun a hs => ?_
     refine st_skip hs rfl rfl rfl rfl rfl fun a hs => ?_
     refine st_skipU hs rfl rfl rfl rfl rfl fun a hs => ?_
     refine st_skipU hs rfl rfl rfl rfl rfl fun a hs => ?_
     refine st_skipU hs rfl rfl rfl rfl rfl fun a hs => ?_
     refine st_skipU hs rfl rfl rfl rfl rfl fun a hs => ?_
     refine st_skipU hs rfl rfl rfl rfl rfl fun a hs => ?_
     refine st_skipU hs rfl rfl rfl rfl rfl fun a hs => ?_
     refine st_skipU hs rfl rfl rfl rfl rfl fun a hs => ?_
     refine st_skipU hs rfl rfl rfl rfl rfl fun a hs => ?_
     refine st_skip hs rfl rfl rfl rfl rfl fun a hs => ?_
     refine st_val hs (y_pickT rfl rfl) ⟨_, rfl, rfl⟩ rfl rfl fun a hs => ?_
     refine wpList_nil ?_
     have hsh := oi hsh
     subst hsh
     refine then_normal ?_
     exact ⟨S0, (hs.wk rfl), (hw.ft [] [] (by decide) rfl rfl)⟩
    have hs := hs.fix 9 (.bool false) rfl (vb h114)
    have hsh := ite_f hc115 h114
    refine st_val hs (y_move rfl) ⟨_, rfl, rfl⟩ rfl rfl fun a hs => ?_
    obtain ⟨x119, h117, hsh⟩ := bind_t hsh
    obtain ⟨b125, o126, q123, c124, h127, h120, h121, h122, h118⟩ := hw.elemV 0 rfl h117
    have hsv128 := hs
    have hwv129 := hw
    subst h127
    have hs := hsv128
    have hw := hwv129
    obtain ⟨_, _, rfl, rfl, rfl⟩ := h118
    have hw := hw.addE h122
    refine st_val hs (y_indexAt Try.runUnderlying27 Try.sizeOf46 rfl rfl h120.1 h120.2 h121) ⟨_, rfl, rfl⟩ rfl rfl fun a hs => ?_
    refine st_val hs (y_fieldAddr (o' := q123 + 0) Try.runUnderlying46 rfl Try.sizeOf3 rfl rfl rfl) ⟨_, rfl, rfl⟩ rfl rfl fun a hs => ?_
    refine st_val hs (y_loadE1 (j := 0) (hw.ceAt 0 rfl) rfl Try.isAgg3 rfl) ⟨_, rfl, rfl⟩ rfl rfl fun a hs => ?_
    refine st_val hs (y_geq rfl rfl) ⟨_, rfl, rfl⟩ rfl rfl fun a hs => ?_
    refine st_val hs (y_move rfl) ⟨_, rfl, rfl⟩ rfl rfl fun a hs => ?_
    obtain ⟨c139, hc139, hsh⟩ := bind_t hsh
    refine wpl_join 9 (fun a w => ∃ (Sv140 : Nat → Prop), Sl 27 [(5, .bool true), (9, .bool false), (24, .bool c139)] a ∧ Wd ⟨w0, S0, []⟩ Sv140 [] [] w) ?_ ?_
    ·rcases Bool.eq_false_or_eq_true (decide (0 ≤ x119.From)) with h138 | h138
     ·have hs := hs.fix 15 (.bool true) rfl (vb h138)
      have hsh := ite_t hc139 h138
      refine st_val hs (y_move rfl) ⟨_, rfl, rfl⟩ rfl rfl fun a hs => ?_
      refine st_val hs (y_move rfl) ⟨_, rfl, rfl⟩ rfl rfl fun a hs => ?_
      refine st_val hs (y_len Try.runUnderlying27 rfl) ⟨_, rfl, rfl⟩ rfl rfl fun a hs => ?_
      refine st_val hs (y_sub rfl rfl) ⟨_, rfl, rfl⟩ rfl rfl fun a hs => ?_
      obtain ⟨x143, h141, hsh⟩ := bind_t hsh
      obtain ⟨q147, c148, h144, h145, h146, h142⟩ := hw.elemK 1 rfl h141
      obtain ⟨_, _, rfl, rfl, rfl⟩ := h142
      have hw := hw.addE h146
      refine st_val hs (y_indexAt Try.runUnderlying27 Try.sizeOf46 rfl rfl h144.1 h144.2 h145) ⟨_, rfl, rfl⟩ rfl rfl fun a hs => ?_
      refine st_val hs (y_fieldAddr (o' := q147 + 1) Try.runUnderlying46 rfl Try.sizeOf3 rfl rfl rfl) ⟨_, rfl, rfl⟩ rfl rfl fun a hs => ?_
      refine st_val hs (y_loadE1 (j := 1) (hw.ceAt 0 rfl) rfl Try.isAgg3 rfl) ⟨_, rfl, rfl⟩ rfl rfl fun a hs => ?_
      refine st_val hs (y_leq rfl rfl) ⟨_, rfl, rfl⟩ rfl rfl fun a hs => ?_
      refine st_val hs (y_pickT rfl rfl) ⟨_, rfl, rfl⟩ rfl rfl fun a hs => ?_
      refine wpList_nil ?_
      have hsh := oi hsh
      subst hsh
      refine then_normal ?_
      exact ⟨S0, (hs.wk rfl), (hw.ft [] [] (by decide) rfl rfl)⟩
     have hs := hs.fix 15 (.bool false) rfl (vb h138)
     have hsh := ite_f hc139 h138
     refine st_skip hs rfl rfl rfl rfl rfl fun a hs => ?_
     refine st_skip hs rfl rfl rfl rfl rfl fun a hs => ?_
     refine st_skip hs rfl rfl rfl rfl rfl fun a hs => ?_
     refine st_skip hs rfl rfl rfl rfl rfl fun a hs => ?_
     refine st_skip hs rfl rfl rfl rfl rfl fun a hs => ?_
     refine st_skip hs rfl rfl rfl rfl rfl fun a hs => ?_
     refine st_skip hs rfl rfl rfl rfl rfl fun a hs => ?_
     refine st_skip hs rfl rfl rfl rfl rfl fun a hs => ?_
     refine st_val hs (y_pickF rfl rfl) ⟨_, rfl, rfl⟩ rfl rfl fun a hs => ?_
     refine wpList_nil ?_
     have hsh := oi hsh
     subst hsh
     refine then_normal ?_
     exact ⟨S0, (hs.wk rfl), (hw.ft [] [] (by decide) rfl rfl)⟩
    rintro a w ⟨Sv140, hs, hw⟩
    refine st_val hs (y_pickF rfl rfl) ⟨_, rfl, rfl⟩ rfl rfl fun a hs => ?_
    refine wpList_nil ?_
    have hsh := oi hsh
    subst hsh
    refine then_normal ?_
    exact ⟨Sv140, (hs.wk rfl), (hw.ft [] [] (by decide) rfl rfl)⟩
   rintro a w ⟨Sv116, hs, hw⟩
   refine sv hs (y_pickT rfl rfl) rfl fun a hs => ?_
   refine wpList_nil ?_
   have hsh := oi hsh
   subst hsh
   refine then_normal ?_
   exact ⟨Sv116, (hs.wk rfl), (hw.ft [] [] (by decide) rfl rfl)⟩
  have hs := hs.fix 5 (.bool false) rfl (vb h79)
  have hsh := ite_f hc80 h79
  refine st_skip hs rfl rfl rfl rfl rfl fun a hs => ?_
  refine st_skip hs rfl rfl rfl rfl rfl fun a hs => ?_
  refine st_skip hs rfl rfl rfl rfl rfl fun a hs => ?_
  refine st_skip hs rfl rfl rfl rfl rfl fun a hs => ?_
  refine st_skipU hs rfl rfl rfl rfl rfl fun a hs => ?_
  refine st_skipU hs rfl rfl rfl rfl rfl fun a hs => ?_
  refine st_skipU hs rfl rfl rfl rfl rfl fun a hs => ?_
  refine st_skipU hs rfl rfl rfl rfl rfl fun a hs => ?_
  refine st_skipU hs rfl rfl rfl rfl rfl fun a hs => ?_
  refine st_skipU hs rfl rfl rfl rfl rfl fun a hs => ?_
  refine st_skipU hs rfl rfl rfl rfl rfl fun a hs => ?_
  refine st_skipU hs rfl rfl rfl rfl rfl fun a hs => ?_
  refine st_skipU hs rfl rfl rfl rfl rfl fun a hs => ?_
  refine st_skipU hs rfl rfl rfl rfl rfl fun a hs => ?_
  refine st_skipU hs rfl rfl rfl rfl rfl fun a hs => ?_
  refine st_skipU hs rfl rfl rfl rfl rfl fun a hs => ?_
  refine st_skipU hs rfl rfl rfl rfl rfl fun a hs => ?_
  refine st_skipU hs rfl rfl rfl rfl rfl fun a hs => ?_
  refine st_skipU hs rfl rfl rfl rfl rfl fun a hs => ?_
  refine st_skip hs rfl rfl rfl rfl rfl fun a hs => ?_
  refine sv hs (y_pickF rfl rfl) rfl fun a hs => ?_
  refine wpList_nil ?_
  have hsh := oi hsh
  subst hsh
  refine then_normal ?_
  exact ⟨S0, (hs.wk rfl), (hw.ft [] [] (by decide) rfl rfl)⟩
 rintro a w ⟨Sv81, hs, hw⟩
 refine av hs rfl rfl fun a hs => ?_
 refine nl ?_
 have hsh := oi hsh
 subst hsh
 refine wp_ret ?_
 exact ret1 hs rfl (rv_tmp rfl) (hw.ret rfl)

abbrev slices_Clone_Lapi_Span_api_Span_rd (w0 : World) (X : List Nat) (r : (List Span)) : (Nat → Prop) → World → Value → Prop := fun S w v => ∃ (p0_0 : Option Addr) (k0_0 : Nat) (c0_0 : List Value), v = .slice p0_0 r.length k0_0 ∧ Outs X w0 S w [.row p0_0 r.length k0_0 c0_0 46 2] ∧ (RowA c0_0 r).p S w
set_option maxHeartbeats 4000000 in
set_option maxRecDepth 100000 in
theorem slices_Clone_Lapi_Span_api_Span_ok {w0 : World} {S0 : Nat → Prop} {p2 : Option Addr} {k3 : Nat} {s1 : (List Span)} {r : (List Span)} (hsh : slices_Clone_Lapi_Span_api_Span s1 = some r) (hS : ∀ b, S0 b → b < w0.heap.size) (h4 : (SlA p2 s1.length k3 s1).p S0 w0) : Calls Try.prog 37 #[.slice p2 s1.length k3] w0 (Ret ([]) w0 S0 (slices_Clone_Lapi_Span_api_Span_rd w0 ([]) r)) := by
 refine calls_of_wp Try.func37 rfl ?_
 have hs := Sl.enter #[.slice p2 s1.length k3] 8 [(0, .slice p2 s1.length k3)] rfl ⟨rfl, trivial⟩
 have hw := Wd.enter (E := []) hS (fun _ h => (by cases h))
 have hw := hw.addE h4
 delta slices_Clone_Lapi_Span_api_Span at hsh
 refine sr ?_
 refine av hs rfl rfl fun a hs => ?_
 refine nl ?_
 refine wp_seq ?_
 refine sr ?_
 refine mv hs rfl rfl fun a hs => ?_
 refine sv hs (y_eqlN Try.runUnderlying27 rfl rfl) rfl fun a hs => ?_
 refine nl ?_
 have hsv15 := hs
 have hwv16 := hw
 rcases p2 with _ | av8
 ·have hs := hsv15
  have hw := hwv16
  obtain rfl := slnil (hw.envAt 0 rfl)
  have hsh : some ([] : List Span) = some r := by simpa [appM, maxLen] using hsh
  refine wp_cond_true (hs.ev rfl) ?_
  refine sr ?_
  refine av hs rfl rfl fun a hs => ?_
  refine nl ?_
  have hsh := oi hsh
  subst hsh
  have hw := hw.nilRow Span 46
  refine wp_ret ?_
  refine then_ret ?_
  exact ret1 hs rfl (rv_tmp rfl) (hw.ret ⟨none, 0, [], rfl, (hw.outs [0] (by decide) rfl), (hw.envAt 0 rfl)⟩)
 have hs := hsv15
 have hw := hwv16
 refine wp_cond_false (hs.ev rfl) ?_
 refine wp_skip ?_
 refine then_normal ?_
 refine sr ?_
 refine w_buildSlice (α := Span) (vs := []) (cs := []) (xs := ([] : List Span)) hs hw El27 rfl rfl rfl rfl rfl rfl rfl rfl trivial fun p9 a w hs hw => ?_
 refine mv hs rfl rfl fun a hs => ?_
 obtain ⟨l11, h10, hsh⟩ := bind_t hsh
 refine w_appendE (α := Span) hs hw El27 0 rfl rfl rfl 0 rfl 1 rfl h10 rfl trivial ?_
 intro p12 k13 c14 a w hs hw
 refine av hs rfl rfl fun a hs => ?_
 refine nl ?_
 have hsh := oi hsh
 subst hsh
 refine wp_ret ?_
 exact ret1 hs rfl (rv_tmp rfl) (hw.ret ⟨p12, k13, c14, rfl, (hw.outs [0] (by decide) rfl), (hw.envAt 0 rfl)⟩)

abbrev slices_IndexFunc_Lapi_Span_api_Span_rd (w0 : World) (X : List Nat) (r : Int) : (Nat → Prop) → World → Value → Prop := fun S w v => v = .int .i64 r
set_option maxHeartbeats 4000000 in
set_option maxRecDepth 100000 in
theorem slices_IndexFunc_Lapi_Span_api_Span_ok {w0 : World} {S0 : Nat → Prop} {p2 : Option Addr} {k3 : Nat} {g6 : Nat} {f7 : List Value} {cp8 : List Value} {s1 : (List Span)} {f5 : Span → Option Bool} {r : Int} (hsh : slices_IndexFunc_Lapi_Span_api_Span s1 f5 = some r) (hS : ∀ b, S0 b → b < w0.heap.size) (h4 : (SlA p2 s1.length k3 s1).p S0 w0) (h9 : (FnA1 Try.prog g6 f7 cp8 f5).p S0 w0) : Calls Try.prog 66 #[.slice p2 s1.length k3, .func (.func g6) f7.toArray cp8.toArray] w0 (Ret ([]) w0 S0 (slices_IndexFunc_Lapi_Span_api_Span_rd w0 ([]) r)) := by
 refine calls_of_wp Try.func66 rfl ?_
 have hs := Sl.enter #[.slice p2 s1.length k3, .func (.func g6) f7.toArray cp8.toArray] 19 [(0, .slice p2 s1.length k3), (1, .func (.func g6) f7.toArray cp8.toArray)] rfl ⟨rfl, rfl, trivial⟩
 have hw := Wd.enter (E := []) hS (fun _ h => (by cases h))
 have hw := hw.addE h4
 have hw := hw.addE h9
 delta slices_IndexFunc_Lapi_Span_api_Span at hsh
 refine sr ?_
 refine av hs rfl rfl fun a hs => ?_
 refine nl ?_
 refine wp_seq ?_
 refine sr ?_
 refine mv hs rfl rfl fun a hs => ?_
 refine sv hs (y_len Try.runUnderlying27 rfl) rfl fun a hs => ?_
 refine mv hs rfl rfl fun a hs => ?_
 refine nl ?_
 refine wp_block ?_
 refine wp_while (fun sv78 a w => ∃ (Sv122 : Nat → Prop), Sl 19 [(0, .slice p2 s1.length k3), (1, .func (.func g6) f7.toArray cp8.toArray), (7, .int .i64 (s1.length : Int)), (8, .int .i64 sv78)] a ∧ Wd ⟨w0, S0, []⟩ Sv122 [] [SlA p2 s1.length k3 s1, FnA1 Try.prog g6 f7 cp8 f5] w) 0 hsh ⟨S0, (hs.wk rfl), (hw.ft [] [1, 0] (by decide) rfl rfl)⟩ ?_
 repeat clear hsh
 rintro sv78 a w tv145 ⟨Sv122, hs, hw⟩ hsh hd144
 delta slices_IndexFunc_Lapi_Span_api_Span_l2 at hsh
 refine sr ?_
 refine sv hs (y_lss rfl rfl) rfl fun a hs => ?_
 refine nl ?_
 refine wp_seq ?_
 refine wp_cond_split (hs.ev rfl) (fun h149 => ?_) (fun h149 => ?_)
 ·have hsh := ite_t hsh h149
  refine wp_skip ?_
  refine then_normal ?_
  refine wp_seq ?_
  refine wp_block ?_
  refine sr ?_
  refine mv hs rfl rfl fun a hs => ?_
  refine av hs rfl rfl fun a hs => ?_
  refine nl ?_
  refine sr ?_
  refine mv hs rfl rfl fun a hs => ?_
  refine mv hs rfl rfl fun a hs => ?_
  refine mv hs rfl rfl fun a hs => ?_
  obtain ⟨x172, h170, hsh⟩ := bind_t hsh
  obtain ⟨b178, o179, q176, c177, h180, h173, h174, h175, h171⟩ := hw.elemV 0 rfl h170
  have hsv181 := hs
  have hwv182 := hw
  subst h180
  have hs := hsv181
  have hw := hwv182
  obtain ⟨_, _, rfl, rfl, rfl⟩ := h171
  have hw := hw.addE h175
  refine sv hs (y_indexAt Try.runUnderlying27 Try.sizeOf46 rfl rfl h173.1 h173.2 h174) rfl fun a hs => ?_
  refine sv hs (y_loadEA (j := 0) (hw.ceAt 0 rfl) rfl Try.isAgg46 Try.sizeOf46 rfl rfl) rfl fun a hs => ?_
  obtain ⟨rv184, h183, hsh⟩ := bind_t hsh
  refine st_callR hs ((hw.bE 2 rfl).2 Keep.rfl' hw.bdom ⟨_, _, rfl, rfl, rfl⟩ h183) (do_callF (hw.bE 2 rfl).1 rfl rfl) trivial rfl rfl ?_
  intro v188 Sv185 w a h186 h187 hs
  subst h187
  have hw := hw.callB h186
  refine nl ?_
  refine wp_cond_split (hs.ev rfl) (fun h190 => ?_) (fun h190 => ?_)
  ·have hsh := ite_t hsh h190
   refine sr ?_
   refine mv hs rfl rfl fun a hs => ?_
   refine av hs rfl rfl fun a hs => ?_
   refine nl ?_
   have hsh := oi hsh
   subst hsh
   have h191 := hd144 _ rfl
   subst h191
   refine wp_ret ?_
   refine blk_ret ?_
   refine then_ret ?_
   refine then_ret ?_
   refine blk_ret ?_
   refine then_ret ?_
   exact ret1 hs rfl (rv_tmp rfl) (hw.ret rfl)
  have hsh := ite_f hsh h190
  refine wp_skip ?_
  refine blk_normal ?_
  refine then_normal ?_
  refine wp_region_lit ?_
  refine sv hs (y_add rfl rfl) rfl fun a hs => ?_
  refine mv hs rfl rfl fun a hs => ?_
  refine nl ?_
  exact ⟨_, (Option.some.inj hsh).symm, Sv122, (hs.wk rfl), (hw.ft [] [1, 2] (by decide) rfl rfl)⟩
 have hsh := ite_f hsh h149
 obtain ⟨rv192, hsh, h193⟩ := map_t hsh
 have h193 := (hd144 _ h193.symm).symm
 subst h193
 refine wp_exit ?_
 refine then_exit ?_
 refine then_exit ?_
 refine blk_exit ?_
 refine then_normal ?_
 refine sr ?_
 refine av hs rfl rfl fun a hs => ?_
 refine nl ?_
 have hsh := oi hsh
 subst hsh
 refine wp_ret ?_
 exact ret1 hs rfl (rv_tmp rfl) (hw.ret rfl)

abbrev slices_DeleteFunc_Lapi_Span_api_Span_rd (w0 : World) (X : List Nat) (r : (List Span)) : (Nat → Prop) → World → Value → Prop := fun S w v => ∃ (p0_0 : Option Addr) (k0_0 : Nat) (c0_0 : List Value), v = .slice p0_0 r.length k0_0 ∧ Outs X w0 S w [.row p0_0 r.length k0_0 c0_0 46 2] ∧ (RowA c0_0 r).p S w
set_option maxHeartbeats 4000000 in
set_option maxRecDepth 100000 in
theorem slices_DeleteFunc_Lapi_Span_api_Span_ok {w0 : World} {S0 : Nat → Prop} {p2 : Option Addr} {k3 : Nat} {c4 : List Value} {g7 : Nat} {f8 : List Value} {cp9 : List Value} {s1 : (List Span)} {del6 : Span → Option Bool} {r : (List Span)} (hsh : slices_DeleteFunc_Lapi_Span_api_Span s1 del6 = some r) (hS : ∀ b, S0 b → b < w0.heap.size) (hin : Ins S0 w0 [.row p2 s1.length k3 c4 46 2]) (h5 : (RowA c4 s1).p S0 w0) (h10 : (FnA1 Try.prog g7 f8 cp9 del6).p S0 w0) : Calls Try.prog 60 #[.slice p2 s1.length k3, .func (.func g7) f8.toArray cp9.toArray] w0 (Ret (blks [.row p2 s1.length k3 c4 46 2]) w0 S0 (slices_DeleteFunc_Lapi_Span_api_Span_rd w0 (blks [.row p2 s1.length k3 c4 46 2]) r)) := by
 refine calls_of_wp Try.func60 rfl ?_
 have hs := Sl.enter #[.slice p2 s1.length k3, .func (.func g7) f8.toArray cp9.toArray] 42 [(0, .slice p2 s1.length k3), (1, .func (.func g7) f8.toArray cp9.toArray)] rfl ⟨rfl, rfl, trivial⟩
 have hw := Wd.enterI hS hin
 have hw := hw.addE h5
 have hw := hw.addE (e := LenA s1.length s1) len_rfl
 have hw := hw.addE h10
 delta slices_DeleteFunc_Lapi_Span_api_Span at hsh
 refine sr ?_
 refine av hs rfl rfl fun a hs => ?_
 refine nl ?_
 refine sr ?_
 refine mv hs rfl rfl fun a hs => ?_
 refine mv hs rfl rfl fun a hs => ?_
 obtain ⟨rv12, h11, hsh⟩ := bind_t hsh
 refine st_callR hs (slices_IndexFunc_Lapi_Span_api_Span_ok h11 hw.bdom (hw.bRow 0 rfl 2 rfl) (hw.bE 0 rfl)) (do_call Try.call66 rfl) trivial rfl rfl ?_
 intro v16 Sv13 w a h14 h15 hs
 subst h15
 have hw := hw.callB h14
 refine av hs rfl rfl fun a hs => ?_
 refine nl ?_
 refine wp_seq ?_
 refine sr ?_
 refine mv hs rfl rfl fun a hs => ?_
 refine sv hs (y_eql rfl rfl) rfl fun a hs => ?_
 refine nl ?_
 refine wp_cond_split (hs.ev rfl) (fun h19 => ?_) (fun h19 => ?_)
 ·have hsh := ite_t hsh h19
  refine sr ?_
  refine mv hs rfl rfl fun a hs => ?_
  refine av hs rfl rfl fun a hs => ?_
  refine nl ?_
  have hsh := oi hsh
  subst hsh
  refine wp_ret ?_
  refine then_ret ?_
  exact ret1 hs rfl (rv_tmp rfl) (hw.ret ⟨p2, k3, c4, rfl, (hw.outs [0] (by decide) rfl), (hw.envAt 2 rfl)⟩)
 have hsh := ite_f hsh h19
 refine wp_skip ?_
 refine then_normal ?_
 refine wp_seq ?_
 refine sr ?_
 refine mv hs rfl rfl fun a hs => ?_
 refine sv hs (y_add rfl rfl) rfl fun a hs => ?_
 obtain ⟨j21, h20, hsh⟩ := bind_t hsh
 refine sv hs (y_assignI rfl h20) rfl fun a hs => ?_
 refine nl ?_
 obtain ⟨e162, h284, hsh⟩ := bind_t hsh
 refine wp_join (fun a w => ∃ (c163 : List Value) (Sv164 : Nat → Prop), Sl 42 [(0, .slice p2 e162.1.length k3), (5, .int .i64 e162.2)] a ∧ Wd ⟨w0, S0, blks [.row p2 s1.length k3 c4 46 2]⟩ Sv164 [.row p2 e162.1.length k3 c163 46 2] [RowA c163 e162.1, LenA s1.length e162.1] w) ?_ ?_
 ·refine wp_block ?_
  refine wp_while (fun sv22 a w => ∃ (c113 : List Value) (Sv114 : Nat → Prop), Sl 42 [(0, .slice p2 sv22.1.length k3), (1, .func (.func g7) f8.toArray cp9.toArray), (5, .int .i64 sv22.2.1), (6, .int .i64 sv22.2.2)] a ∧ Wd ⟨w0, S0, blks [.row p2 s1.length k3 c4 46 2]⟩ Sv114 [.row p2 sv22.1.length k3 c113 46 2] [FnA1 Try.prog g7 f8 cp9 del6, RowA c113 sv22.1, LenA s1.length sv22.1] w) (s1, rv12, j21) h284 ⟨c4, S0, (hs.wk rfl), (hw.ft [0] [0, 2, 1] (by decide) rfl rfl)⟩ ?_
  clear h284
  repeat clear hsh
  rintro sv22 a w tv160 ⟨c113, Sv114, hs, hw⟩ hsh hd159
  delta slices_DeleteFunc_Lapi_Span_api_Span_l1 at hsh
  refine wp_seq ?_
  refine sr ?_
  refine mv hs rfl rfl fun a hs => ?_
  refine mv hs rfl rfl fun a hs => ?_
  refine sv hs (y_len Try.runUnderlying27 rfl) rfl fun a hs => ?_
  refine sv hs (y_lss rfl rfl) rfl fun a hs => ?_
  refine nl ?_
  refine wp_cond_split (hs.ev rfl) (fun h166 => ?_) (fun h166 => ?_)
  ·have hsh := ite_t hsh h166
   refine wp_skip ?_
   refine then_normal ?_
   refine wp_seq ?_
   refine wp_block ?_
   refine sr ?_
   refine mv hs rfl rfl fun a hs => ?_
   refine mv hs rfl rfl fun a hs => ?_
   obtain ⟨x210, h208, hsh⟩ := bind_t hsh
   obtain ⟨b217, q214, c215, h218, h211, h212, h216, h209⟩ := hw.elemRV (α := Span) 0 rfl 1 rfl h208
   have hsv219 := hs
   have hwv220 := hw
   subst h218
   have hs := hsv219
   have hw := hwv220
   obtain ⟨_, _, rfl, rfl, rfl⟩ := h209
   refine sv hs (y_indexAt Try.runUnderlying27 Try.sizeOf46 rfl rfl h211.1 h211.2 h212) rfl fun a hs => ?_
   refine sv hs (y_loadQA (j := 0) (hw.ownAt 0 rfl) rfl Try.isAgg46 Try.sizeOf46 h216 rfl rfl) rfl fun a hs => ?_
   refine w_alloc (cs := [.int .i64 0, .int .i64 0]) hs hw Try.zeroValue46 rfl rfl trivial ?_
   intro b221 a w hs hw
   refine w_store (m := 2) (cs' := [.int .i64 x210.From, .int .i64 x210.To]) hs hw 0 rfl rfl rfl Try.sizeOf46 rfl rfl rfl rfl trivial ?_
   intro a w hs hw
   refine nl ?_
   refine sr ?_
   refine mv hs rfl rfl fun a hs => ?_
   refine sv hs (y_loadBA (hw.ownAt 0 rfl) rfl Try.isAgg46 Try.sizeOf46 rfl rfl) rfl fun a hs => ?_
   obtain ⟨rv223, h222, hsh⟩ := bind_t hsh
   refine st_callR hs ((hw.bE 0 rfl).2 Keep.rfl' hw.bdom ⟨_, _, rfl, rfl, rfl⟩ h222) (do_callF (hw.bE 0 rfl).1 rfl rfl) trivial rfl rfl ?_
   intro v227 Sv224 w a h225 h226 hs
   subst h226
   have hw := hw.callB h225
   refine sv hs (y_not rfl) rfl fun a hs => ?_
   refine nl ?_
   refine wp_join (fun a w => ∃ (sv247 : (List Span)) (i248 : Int) (c245 : List Value) (Sv246 : Nat → Prop), slices_DeleteFunc_Lapi_Span_api_Span_j1 sv22 sv247 i248 = some tv160 ∧ Sl 42 [(0, .slice (some ⟨b217, 0, none⟩) sv247.length k3), (1, .func (.func g7) f8.toArray cp9.toArray), (5, .int .i64 i248), (6, .int .i64 sv22.2.2)] a ∧ Wd ⟨w0, S0, blks [.row (some ⟨b217, 0, none⟩) s1.length k3 c4 46 2]⟩ Sv246 [.row (some ⟨b217, 0, none⟩) sv247.length k3 c245 46 2] [FnA1 Try.prog g7 f8 cp9 del6, RowA c245 sv247, LenA s1.length sv247] w) ?_ ?_
   ·refine wp_cond_split (hs.ev rfl) (fun h251 => ?_) (fun h251 => ?_)
    ·have hsh := ite_t hsh h251
     refine sr ?_
     refine mv hs rfl rfl fun a hs => ?_
     refine mv hs rfl rfl fun a hs => ?_
     refine sv hs (y_loadBA (hw.ownAt 0 rfl) rfl Try.isAgg46 Try.sizeOf46 rfl rfl) rfl fun a hs => ?_
     obtain ⟨x254, h252, hsh⟩ := bind_t hsh
     obtain ⟨q258, c259, h255, h256, h260, h253⟩ := hw.elemRK (α := Span) 1 rfl 1 rfl h252
     obtain ⟨_, _, rfl, rfl, rfl⟩ := h253
     refine sv hs (y_indexAt Try.runUnderlying27 Try.sizeOf46 rfl rfl h255.1 h255.2 h256) rfl fun a hs => ?_
     obtain ⟨l262, h261, hsh⟩ := bind_t hsh
     have h265 := hw.envAt 2 rfl
     refine w_storeF (α := Span) hs hw 1 rfl 1 rfl h256 rfl rfl Try.sizeOf46 rfl h261 ⟨_, _, rfl, rfl, rfl⟩ trivial ?_
     intro c263 a w hs hw
     have hw := hw.addE (e := LenA s1.length l262) (len_set (w := w) (S := S0) h265 h261)
     have h264 := setM_len h261
     try have hs := hs.fl 0 rfl h264
     try have hs := hs.fl 30 rfl h264
     refine nl ?_
     refine wp_region_lit ?_
     refine mv hs rfl rfl fun a hs => ?_
     refine sv hs (y_add rfl rfl) rfl fun a hs => ?_
     obtain ⟨i267, h266, hsh⟩ := bind_t hsh
     refine sv hs (y_assignI rfl h266) rfl fun a hs => ?_
     refine nl ?_
     exact ⟨l262, i267, c263, Sv114, hsh, (hs.wk rfl), (hw.ft [1] [2, 1, 0] (by decide) rfl rfl)⟩
    have hsh := ite_f hsh h251
    refine wp_skip ?_
    refine then_normal ?_
    exact ⟨sv22.1, sv22.2.1, c113, Sv114, hsh, (hs.wk rfl), (hw.ft [1] [0, 1, 2] (by decide) rfl rfl)⟩
   rintro a w ⟨sv247, i248, c245, Sv246, hsh, hs, hw⟩
   delta slices_DeleteFunc_Lapi_Span_api_Span_j1 at hsh
   refine blk_normal ?_
   refine then_normal ?_
   refine wp_region_lit ?_
   refine mv hs rfl rfl fun a hs => ?_
   refine sv hs (y_add rfl rfl) rfl fun a hs => ?_
   obtain ⟨j250, h249, hsh⟩ := bind_t hsh
   refine sv hs (y_assignI rfl h249) rfl fun a hs => ?_
   refine nl ?_
   exact ⟨_, (Option.some.inj hsh).symm, c245, Sv246, (hs.wk rfl), (hw.ft [0] [0, 1, 2] (by decide) rfl rfl)⟩
  have hsh := ite_f hsh h166
  refine wp_exit ?_
  refine then_exit ?_
  refine then_exit ?_
  refine blk_exit ?_
  have hsh := oi hsh
  subst hsh
  have h268 := hd159 _ rfl
  subst h268
  refine then_normal ?_
  exact ⟨c113, Sv114, (hs.wk rfl), (hw.ft [0] [1, 2] (by decide) rfl rfl)⟩
 rintro a w ⟨c163, Sv164, hs, hw⟩
 refine then_normal ?_
 refine sr ?_
 refine mv hs rfl rfl fun a hs => ?_
 refine mv hs rfl rfl fun a hs => ?_
 obtain ⟨l273, h269, hsh⟩ := bind_t hsh
 obtain ⟨p271, k272, h270⟩ := row_sub (α := Span) hw 0 rfl h269
 refine sv hs (y_slc Try.runUnderlying27 Try.sizeOf46 rfl ⟨_, rfl⟩ (by exact rfl) h270) rfl fun a hs => ?_
 obtain ⟨l274, h275, hsh⟩ := bind_t hsh
 have h280 := hw.envAt 1 rfl
 refine w_clear (α := Span) (z0 := ((⟨0, 0⟩ : Span) : Span)) hs hw 0 rfl 0 rfl El27 ⟨_, _, rfl, rfl, rfl⟩ h269 h270 rfl trivial ?_
 intro c276 a w hs hw
 rw [Option.some.inj h275] at hw
 have hw := hw.addE (e := LenA s1.length l274) (by have q := len_copy (w := w) (S := S0) (S' := S0) (w' := w) (ys := List.replicate l273.length ((⟨0, 0⟩ : Span) : Span)) h280 h269; rw [Option.some.inj h275] at q; exact q)
 have h277 := (copy_lenS h269 h275)
 try have hs := hs.fl 0 rfl h277
 try have hs := hs.fl 36 rfl h277
 refine nl ?_
 refine sr ?_
 refine mv hs rfl rfl fun a hs => ?_
 refine mv hs rfl rfl fun a hs => ?_
 obtain ⟨l283, h281, hsh⟩ := bind_t hsh
 obtain ⟨hw, h282⟩ := w_cut hw 0 rfl 1 rfl h281
 refine sv hs (y_slc Try.runUnderlying27 Try.sizeOf46 rfl (by exact rfl) ⟨_, rfl⟩ h282) rfl fun a hs => ?_
 refine av hs rfl rfl fun a hs => ?_
 refine nl ?_
 have hsh := oi hsh
 subst hsh
 refine wp_ret ?_
 exact ret1 hs rfl (rv_tmp rfl) (hw.ret ⟨p2, k3, (c276.take (l283.length * 2)), rfl, (hw.outs [0] (by decide) rfl), (hw.envAt 0 rfl)⟩)

abbrev span_Normal_fn1_rd (w0 : World) (X : List Nat) (r : Bool) : (Nat → Prop) → World → Value → Prop := fun S w v => v = .bool r
set_option maxHeartbeats 4000000 in
set_option maxRecDepth 100000 in
theorem span_Normal_fn1_ok {w0 : World} {S0 : Nat → Prop} {s1 : Span} {r : Bool} (hsh : span_Normal_fn1 s1 = some r) (hS : ∀ b, S0 b → b < w0.heap.size) : Calls Try.prog 61 #[.agg #[.int .i64 s1.From, .int .i64 s1.To]] w0 (Ret ([]) w0 S0 (span_Normal_fn1_rd w0 ([]) r)) := by
 refine calls_of_wp Try.func61 rfl ?_
 have hs := Sl.enter #[.agg #[.int .i64 s1.From, .int .i64 s1.To]] 6 [(0, .agg #[.int .i64 s1.From, .int .i64 s1.To])] rfl ⟨rfl, trivial⟩
 have hw := Wd.enter (E := []) hS (fun _ h => (by cases h))
 delta span_Normal_fn1 at hsh
 refine sr ?_
 refine w_box (cs := [.int .i64 s1.From, .int .i64 s1.To]) hs hw rfl rfl rfl trivial ?_
 intro b2 a w hs hw
 refine av hs rfl rfl fun a hs => ?_
 refine nl ?_
 refine sr ?_
 refine sv hs (y_loadBA (hw.ownAt 0 rfl) rfl Try.isAgg46 Try.sizeOf46 rfl rfl) rfl fun a hs => ?_
 obtain ⟨rv4, h3, hsh⟩ := bind_t hsh
 refine st_callR hs (span_some_ok h3 hw.bdom) (do_call Try.call58 rfl) trivial rfl rfl ?_
 intro v8 Sv5 w a h6 h7 hs
 subst h7
 have hw := hw.callB h6
 refine sv hs (y_not rfl) rfl fun a hs => ?_
 refine av hs rfl rfl fun a hs => ?_
 refine nl ?_
 have hsh := oi hsh
 subst hsh
 refine wp_ret ?_
 exact ret1 hs rfl (rv_tmp rfl) (hw.ret rfl)

theorem span_Normal_fn1_fn (S0 : Nat → Prop) (w0 : World) : (FnA1 Try.prog 61 [] [] span_Normal_fn1).p S0 w0 := by
  refine ⟨Try.call61, ?_⟩
  intro S1 w1 hk hS c0 x0 r1 h0 hf
  obtain ⟨_, _, rfl, rfl, rfl⟩ := h0
  exact span_Normal_fn1_ok hf hS  

abbrev math_bits_Len64_rd (w0 : World) (X : List Nat) (r : Int) : (Nat → Prop) → World → Value → Prop := fun S w v => v = .int .i64 r
set_option maxHeartbeats 4000000 in
set_option maxRecDepth 100000 in
theorem math_bits_Len64_ok {w0 : World} {S0 : Nat → Prop} {x1 : Int} {r : Int} (hsh : math_bits_Len64 x1 = some r) (hS : ∀ b, S0 b → b < w0.heap.size) : Calls Try.prog 79 #[.int .u64 x1] w0 (Ret ([]) w0 S0 (math_bits_Len64_rd w0 ([]) r)) := by
 refine calls_of_wp Try.func79 rfl ?_
 have hs := Sl.enter #[.int .u64 x1] 25 [(0, .int .u64 x1)] rfl ⟨rfl, trivial⟩
 have hw := Wd.enter (E := []) hS (fun _ h => (by cases h))
 delta math_bits_Len64 at hsh
 refine sr ?_
 refine av hs rfl rfl fun a hs => ?_
 refine nl ?_
 refine wp_seq ?_
 refine sr ?_
 refine mv hs rfl rfl fun a hs => ?_
 refine sv hs (y_geq rfl rfl) rfl fun a hs => ?_
 refine nl ?_
 refine wp_join (fun a w => ∃ (x6 : Int) (n7 : Int) (Sv5 : Nat → Prop), math_bits_Len64_j1 x6 n7 = some r ∧ Sl 25 [(0, .int .u64 x6), (2, .int .i64 n7)] a ∧ Wd ⟨w0, S0, []⟩ Sv5 [] [] w) ?_ ?_
 ·refine wp_cond_split (hs.ev rfl) (fun h38 => ?_) (fun h38 => ?_)
  ·have hsh := ite_t hsh h38
   refine sr ?_
   refine mv hs rfl rfl fun a hs => ?_
   obtain ⟨shr40, h39, hsh⟩ := bind_t hsh
   refine sv hs (y_shrM rfl rfl h39) rfl fun a hs => ?_
   refine av hs rfl rfl fun a hs => ?_
   refine nl ?_
   refine wp_region_lit ?_
   refine av hs rfl rfl fun a hs => ?_
   refine nl ?_
   exact ⟨shr40, 32, S0, hsh, (hs.wk rfl), (hw.ft [] [] (by decide) rfl rfl)⟩
  have hsh := ite_f hsh h38
  refine wp_skip ?_
  refine then_normal ?_
  exact ⟨x1, 0, S0, hsh, (hs.wk rfl), (hw.ft [] [] (by decide) rfl rfl)⟩
 rintro a w ⟨x6, n7, Sv5, hsh, hs, hw⟩
 delta math_bits_Len64_j1 at hsh
 refine then_normal ?_
 refine wp_seq ?_
 refine sr ?_
 refine mv hs rfl rfl fun a hs => ?_
 refine sv hs (y_geq rfl rfl) rfl fun a hs => ?_
 refine nl ?_
 refine wp_join (fun a w => ∃ (x14 : Int) (n15 : Int) (Sv13 : Nat → Prop), math_bits_Len64_j2 x14 n15 = some r ∧ Sl 25 [(0, .int .u64 x14), (2, .int .i64 n15)] a ∧ Wd ⟨w0, S0, []⟩ Sv13 [] [] w) ?_ ?_
 ·refine wp_cond_split (hs.ev rfl) (fun h33 => ?_) (fun h33 => ?_)
  ·have hsh := ite_t hsh h33
   refine sr ?_
   refine mv hs rfl rfl fun a hs => ?_
   obtain ⟨shr35, h34, hsh⟩ := bind_t hsh
   refine sv hs (y_shrM rfl rfl h34) rfl fun a hs => ?_
   refine av hs rfl rfl fun a hs => ?_
   refine nl ?_
   refine wp_region_lit ?_
   refine mv hs rfl rfl fun a hs => ?_
   refine sv hs (y_add rfl rfl) rfl fun a hs => ?_
   obtain ⟨n37, h36, hsh⟩ := bind_t hsh
   refine sv hs (y_assignI rfl h36) rfl fun a hs => ?_
   refine nl ?_
   exact ⟨shr35, n37, Sv5, hsh, (hs.wk rfl), (hw.ft [] [] (by decide) rfl rfl)⟩
  have hsh := ite_f hsh h33
  refine wp_skip ?_
  refine then_normal ?_
  exact ⟨x6, n7, Sv5, hsh, (hs.wk rfl), (hw.ft [] [] (by decide) rfl rfl)⟩
 rintro a w ⟨x14, n15, Sv13, hsh, hs, hw⟩
 delta math_bits_Len64_j2 at hsh
 refine then_normal ?_
 refine wp_seq ?_
 refine sr ?_
 refine mv hs rfl rfl fun a hs => ?_
 refine sv hs (y_geq rfl rfl) rfl fun a hs => ?_
 refine nl ?_
 refine wp_join (fun a w => ∃ (x22 : Int) (n23 : Int) (Sv21 : Nat → Prop), math_bits_Len64_j3 x22 n23 = some r ∧ Sl 25 [(0, .int .u64 x22), (2, .int .i64 n23)] a ∧ Wd ⟨w0, S0, []⟩ Sv21 [] [] w) ?_ ?_
 ·refine wp_cond_split (hs.ev rfl) (fun h28 => ?_) (fun h28 => ?_)
  ·have hsh := ite_t hsh h28
   refine sr ?_
   refine mv hs rfl rfl fun a hs => ?_
   obtain ⟨shr30, h29, hsh⟩ := bind_t hsh
   refine sv hs (y_shrM rfl rfl h29) rfl fun a hs => ?_
   refine av hs rfl rfl fun a hs => ?_
   refine nl ?_
   refine wp_region_lit ?_
   refine mv hs rfl rfl fun a hs => ?_
   refine sv hs (y_add rfl rfl) rfl fun a hs => ?_
   obtain ⟨n32, h31, hsh⟩ := bind_t hsh
   refine sv hs (y_assignI rfl h31) rfl fun a hs => ?_
   refine nl ?_
   exact ⟨shr30, n32, Sv13, hsh, (hs.wk rfl), (hw.ft [] [] (by decide) rfl rfl)⟩
  have hsh := ite_f hsh h28
  refine wp_skip ?_
  refine then_normal ?_
  exact ⟨x14, n15, Sv13, hsh, (hs.wk rfl), (hw.ft [] [] (by decide) rfl rfl)⟩
 rintro a w ⟨x22, n23, Sv21, hsh, hs, hw⟩
 delta math_bits_Len64_j3 at hsh
 refine then_normal ?_
 refine sr ?_
 refine mv hs rfl rfl fun a hs => ?_
 refine mv hs rfl rfl fun a hs => ?_
 refine sv hs (y_convert Try.runUnderlying69 Try.runUnderlying5 rfl) rfl fun a hs => ?_
 obtain ⟨c25, h24, hsh⟩ := bind_t hsh
 refine sv hs (y_indexSM Try.runUnderlying9 rfl rfl h24) rfl fun a hs => ?_
 refine sv hs (y_convert Try.runUnderlying5 Try.runUnderlying3 rfl) rfl fun a hs => ?_
 refine sv hs (y_add rfl rfl) rfl fun a hs => ?_
 obtain ⟨n27, h26, hsh⟩ := bind_t hsh
 refine sv hs (y_assignI rfl h26) rfl fun a hs => ?_
 refine nl ?_
 have hsh := oi hsh
 subst hsh
 refine wp_ret ?_
 exact ret1 hs rfl (rv_tmp rfl) (hw.ret rfl)

abbrev math_bits_Len_rd (w0 : World) (X : List Nat) (r : Int) : (Nat → Prop) → World → Value → Prop := fun S w v => v = .int .i64 r
set_option maxHeartbeats 4000000 in
set_option maxRecDepth 100000 in
theorem math_bits_Len_ok {w0 : World} {S0 : Nat → Prop} {x1 : Int} {r : Int} (hsh : math_bits_Len x1 = some r) (hS : ∀ b, S0 b → b < w0.heap.size) : Calls Try.prog 68 #[.int .u64 x1] w0 (Ret ([]) w0 S0 (math_bits_Len_rd w0 ([]) r)) := by
 refine calls_of_wp Try.func68 rfl ?_
 have hs := Sl.enter #[.int .u64 x1] 8 [(0, .int .u64 x1)] rfl ⟨rfl, trivial⟩
 have hw := Wd.enter (E := []) hS (fun _ h => (by cases h))
 delta math_bits_Len at hsh
 refine sr ?_
 refine av hs rfl rfl fun a hs => ?_
 refine nl ?_
 refine wp_seq ?_
 refine wp_cond_false (hs.ev rfl) ?_
 refine wp_skip ?_
 refine then_normal ?_
 refine sr ?_
 refine mv hs rfl rfl fun a hs => ?_
 obtain ⟨rv3, h2, hsh⟩ := bind_t hsh
 refine st_callR hs (math_bits_Len64_ok h2 hw.bdom) (do_call Try.call79 rfl) trivial rfl rfl ?_
 intro v7 Sv4 w a h5 h6 hs
 subst h6
 have hw := hw.callB h5
 refine av hs rfl rfl fun a hs => ?_
 refine nl ?_
 have hsh := oi hsh
 subst hsh
 refine wp_ret ?_
 exact ret1 hs rfl (rv_tmp rfl) (hw.ret rfl)

abbrev slices_insertionSortCmpFunc_api_Span_rd (w0 : World) (X : List Nat) (p2 : Option Addr) (k3 : Nat) (data1 : (List Span)) (r : (List Span)) : (Nat → Prop) → World → Value → Prop := fun S w v => ∃ (ck_0 : List Value), v = .tuple #[] ∧ Outs X w0 S w [.row p2 r.length k3 ck_0 46 2] ∧ (RowA ck_0 r).p S w ∧ (LenA data1.length r).p S w
set_option maxHeartbeats 4000000 in
set_option maxRecDepth 100000 in
theorem slices_insertionSortCmpFunc_api_Span_ok {w0 : World} {S0 : Nat → Prop} {p2 : Option Addr} {k3 : Nat} {c4 : List Value} {g9 : Nat} {f10 : List Value} {cp11 : List Value} {data1 : (List Span)} {a6 : Int} {b7 : Int} {cmp8 : Span → Span → Option Int} {r : (List Span)} (hsh : slices_insertionSortCmpFunc_api_Span data1 a6 b7 cmp8 = some r) (hS : ∀ b, S0 b → b < w0.heap.size) (hin : Ins S0 w0 [.row p2 data1.length k3 c4 46 2]) (h5 : (RowA c4 data1).p S0 w0) (h12 : (FnA2 Try.prog g9 f10 cp11 cmp8).p S0 w0) : Calls Try.prog 70 #[.slice p2 data1.length k3, .int .i64 a6, .int .i64 b7, .func (.func g9) f10.toArray cp11.toArray] w0 (Ret (blks [.row p2 data1.length k3 c4 46 2]) w0 S0 (slices_insertionSortCmpFunc_api_Span_rd w0 (blks [.row p2 data1.length k3 c4 46 2]) p2 k3 data1 r)) := by
 refine calls_of_wp Try.func70 rfl ?_
 have hs := Sl.enter #[.slice p2 data1.length k3, .int .i64 a6, .int .i64 b7, .func (.func g9) f10.toArray cp11.toArray] 53 [(0, .slice p2 data1.length k3), (1, .int .i64 a6), (2, .int .i64 b7), (3, .func (.func g9) f10.toArray cp11.toArray)] rfl ⟨rfl, rfl, rfl, rfl, trivial⟩
 have hw := Wd.enterI hS hin
 have hw := hw.addE h5
 have hw := hw.addE (e := LenA data1.length data1) len_rfl
 have hw := hw.addE h12
 delta slices_insertionSortCmpFunc_api_Span at hsh
 refine sr ?_
 refine mv hs rfl rfl fun a hs => ?_
 refine sv hs (y_add rfl rfl) rfl fun a hs => ?_
 obtain ⟨i14, h13, hsh⟩ := bind_t hsh
 refine sv hs (y_assignI rfl h13) rfl fun a hs => ?_
 refine nl ?_
 obtain ⟨e767, h1430, hsh⟩ := bind_t hsh
 refine wp_join (fun a w => ∃ (c768 : List Value) (Sv769 : Nat → Prop), Sl 53 [] a ∧ Wd ⟨w0, S0, blks [.row p2 data1.length k3 c4 46 2]⟩ Sv769 [.row p2 e767.length k3 c768 46 2] [RowA c768 e767, LenA data1.length e767] w) ?_ ?_
 ·refine wp_block ?_
  refine wp_while (fun sv15 a w => ∃ (c514 : List Value) (Sv515 : Nat → Prop), Sl 53 [(0, .slice p2 sv15.1.length k3), (1, .int .i64 a6), (2, .int .i64 b7), (3, .func (.func g9) f10.toArray cp11.toArray), (8, .int .i64 sv15.2)] a ∧ Wd ⟨w0, S0, blks [.row p2 data1.length k3 c4 46 2]⟩ Sv515 [.row p2 sv15.1.length k3 c514 46 2] [FnA2 Try.prog g9 f10 cp11 cmp8, RowA c514 sv15.1, LenA data1.length sv15.1] w) (data1, i14) h1430 ⟨c4, S0, (hs.wk rfl), (hw.ft [0] [0, 2, 1] (by decide) rfl rfl)⟩ ?_
  clear h1430
  repeat clear hsh
  rintro sv15 a w tv765 ⟨c514, Sv515, hs, hw⟩ hsh hd764
  delta slices_insertionSortCmpFunc_api_Span_l3 at hsh
  refine wp_seq ?_
  refine sr ?_
  refine mv hs rfl rfl fun a hs => ?_
  refine mv hs rfl rfl fun a hs => ?_
  refine sv hs (y_lss rfl rfl) rfl fun a hs => ?_
  refine nl ?_
  refine wp_cond_split (hs.ev rfl) (fun h771 => ?_) (fun h771 => ?_)
  ·have hsh := ite_t hsh h771
   refine wp_skip ?_
   refine then_normal ?_
   refine wp_seq ?_
   refine wp_block ?_
   refine sr ?_
   refine mv hs rfl rfl fun a hs => ?_
   refine av hs rfl rfl fun a hs => ?_
   refine nl ?_
   obtain ⟨e1259, h1428, hsh⟩ := bind_t hsh
   refine wp_join (fun a w => ∃ (c1260 : List Value) (Sv1261 : Nat → Prop), Sl 53 [(0, .slice p2 e1259.length k3), (1, .int .i64 a6), (2, .int .i64 b7), (3, .func (.func g9) f10.toArray cp11.toArray), (8, .int .i64 sv15.2)] a ∧ Wd ⟨w0, S0, blks [.row p2 data1.length k3 c4 46 2]⟩ Sv1261 [.row p2 e1259.length k3 c1260 46 2] [FnA2 Try.prog g9 f10 cp11 cmp8, RowA c1260 e1259, LenA data1.length e1259] w) ?_ ?_
   ·refine wp_block ?_
    refine wp_while (fun sv1017 a w => ∃ (c1176 : List Value) (Sv1177 : Nat → Prop), Sl 53 [(0, .slice p2 sv1017.1.length k3), (1, .int .i64 a6), (2, .int .i64 b7), (3, .func (.func g9) f10.toArray cp11.toArray), (8, .int .i64 sv15.2), (9, .int .i64 sv1017.2)] a ∧ Wd ⟨w0, S0, blks [.row p2 data1.length k3 c4 46 2]⟩ Sv1177 [.row p2 sv1017.1.length k3 c1176 46 2] [FnA2 Try.prog g9 f10 cp11 cmp8, RowA c1176 sv1017.1, LenA data1.length sv1017.1] w) (sv15.1, sv15.2) h1428 ⟨c514, Sv515, (hs.wk rfl), (hw.ft [0] [0, 1, 2] (by decide) rfl rfl)⟩ ?_
    clear h1428
    repeat clear hsh
    rintro sv1017 a w tv1257 ⟨c1176, Sv1177, hs, hw⟩ hsh hd1256
    delta slices_insertionSortCmpFunc_api_Span_l6 at hsh
    refine wp_seq ?_
    refine wp_seq ?_
    obtain ⟨c1286, hc1286, hsh⟩ := bind_t hsh
    refine wp_only (fun a w => ∃ (Sv1287 : Nat → Prop), Sl 53 [(0, .slice p2 sv1017.1.length k3), (1, .int .i64 a6), (2, .int .i64 b7), (3, .func (.func g9) f10.toArray cp11.toArray), (8, .int .i64 sv15.2), (9, .int .i64 sv1017.2), (34, .bool c1286)] a ∧ Wd ⟨w0, S0, blks [.row p2 data1.length k3 c4 46 2]⟩ Sv1287 [.row p2 sv1017.1.length k3 c1176 46 2] [FnA2 Try.prog g9 f10 cp11 cmp8, RowA c1176 sv1017.1, LenA data1.length sv1017.1] w) ?_ ?_
    ·rcases Bool.eq_false_or_eq_true (decide (a6 < sv1017.2)) with h1288 | h1288
     ·have h1289 := ite_t hc1286 h1288
      obtain ⟨x1292, h1290, h1289⟩ := bind_t h1289
      obtain ⟨b1299, q1296, c1297, h1300, h1293, h1294, h1298, h1291⟩ := hw.elemRV (α := Span) 0 rfl 1 rfl h1290
      have hsv1301 := hs
      have hwv1302 := hw
      subst h1300
      have hs := hsv1301
      have hw := hwv1302
      obtain ⟨_, _, rfl, rfl, rfl⟩ := h1291
      obtain ⟨x1305, h1303, h1289⟩ := bind_t h1289
      obtain ⟨q1309, c1310, h1306, h1307, h1311, h1304⟩ := hw.elemRK (α := Span) 0 rfl 1 rfl h1303
      obtain ⟨_, _, rfl, rfl, rfl⟩ := h1304
      obtain ⟨rv1313, h1312, h1289⟩ := bind_t h1289
      refine h_b (C := Cls [.row (some ⟨b1299, 0, none⟩) sv1017.1.length k3 c1176 46 2] []) (by kernel_rfl) rfl (hw.drew.cs [0] [] rfl rfl) fun hC => ?_
      have hw := hw.drew
      refine gm hs 0 rfl rfl rfl hC fun a hs => ?_
      refine gm hs 1 rfl rfl rfl hC fun a hs => ?_
      refine gv hs 2 rfl rfl hC (fun w hC => y_gtr rfl rfl) fun a hs => ?_
      refine gm hs 3 rfl rfl rfl hC fun a hs => ?_
      have hs := hs.fix 21 (.bool true) rfl (vb h1288)
      refine gt hs 4 rfl ⟨_, rfl, rfl⟩ rfl hC (fun w hC => y_move rfl) fun a hs => ?_
      refine gt hs 5 rfl ⟨_, rfl, rfl⟩ rfl hC (fun w hC => y_move rfl) fun a hs => ?_
      refine gt hs 6 rfl ⟨_, rfl, rfl⟩ rfl hC (fun w hC => y_move rfl) fun a hs => ?_
      refine gt hs 7 rfl ⟨_, rfl, rfl⟩ rfl hC (fun w hC => y_indexAt Try.runUnderlying27 Try.sizeOf46 rfl rfl h1293.1 h1293.2 h1294) fun a hs => ?_
      refine gt hs 8 rfl ⟨_, rfl, rfl⟩ rfl hC (fun w hC => y_loadQA (j := 0) (hC.ownAt 0 rfl) rfl Try.isAgg46 Try.sizeOf46 h1298 rfl rfl) fun a hs => ?_
      refine gt hs 9 rfl ⟨_, rfl, rfl⟩ rfl hC (fun w hC => y_move rfl) fun a hs => ?_
      refine gt hs 10 rfl ⟨_, rfl, rfl⟩ rfl hC (fun w hC => y_move rfl) fun a hs => ?_
      refine gt hs 11 rfl ⟨_, rfl, rfl⟩ rfl hC (fun w hC => y_sub rfl rfl) fun a hs => ?_
      refine gt hs 12 rfl ⟨_, rfl, rfl⟩ rfl hC (fun w hC => y_indexAt Try.runUnderlying27 Try.sizeOf46 rfl rfl h1306.1 h1306.2 h1307) fun a hs => ?_
      refine gt hs 13 rfl ⟨_, rfl, rfl⟩ rfl hC (fun w hC => y_loadQA (j := 0) (hC.ownAt 0 rfl) rfl Try.isAgg46 Try.sizeOf46 h1311 rfl rfl) fun a hs => ?_
      refine ho 14 rfl ?_
      refine st_callR hs ((hw.bE 0 rfl).2 Keep.rfl' hw.bdom ⟨_, _, rfl, rfl, rfl⟩ ⟨_, _, rfl, rfl, rfl⟩ h1312) (do_callF (hw.bE 0 rfl).1 rfl rfl) ⟨_, rfl, rfl⟩ rfl rfl ?_
      intro v1317 Sv1314 w a h1315 h1316 hs
      subst h1316
      have hw := hw.callB h1315
      refine h_nx (hw.cs [0] [] rfl rfl) fun hC => ?_
      refine gt hs 15 rfl ⟨_, rfl, rfl⟩ rfl hC (fun w hC => y_lss rfl rfl) fun a hs => ?_
      refine gv hs 16 rfl rfl hC (fun w hC => y_pickTE (v := .bool c1286) rfl rfl (vbs h1289)) fun a hs => ?_
      refine h_done (by kernel_rfl) ?_
      exact ⟨Sv1177, (hs.wk rfl), (hw.ft [0] [0, 1, 2] (by decide) rfl rfl)⟩
     have h1318 := ite_f hc1286 h1288
     refine h_b (C := Cls [.row p2 sv1017.1.length k3 c1176 46 2] []) (by kernel_rfl) rfl (hw.drew.cs [0] [] rfl rfl) fun hC => ?_
     have hw := hw.drew
     refine gm hs 0 rfl rfl rfl hC fun a hs => ?_
     refine gm hs 1 rfl rfl rfl hC fun a hs => ?_
     refine gv hs 2 rfl rfl hC (fun w hC => y_gtr rfl rfl) fun a hs => ?_
     refine gm hs 3 rfl rfl rfl hC fun a hs => ?_
     have hs := hs.fix 21 (.bool false) rfl (vb h1288)
     refine gs hs 4 rfl rfl rfl rfl hC fun a hs => ?_
     refine gs hs 5 rfl rfl rfl rfl hC fun a hs => ?_
     refine gs hs 6 rfl rfl rfl rfl hC fun a hs => ?_
     refine gs hs 7 rfl rfl rfl rfl hC fun a hs => ?_
     refine gs hs 8 rfl rfl rfl rfl hC fun a hs => ?_
     refine gs hs 9 rfl rfl rfl rfl hC fun a hs => ?_
     refine gs hs 10 rfl rfl rfl rfl hC fun a hs => ?_
     refine gs hs 11 rfl rfl rfl rfl hC fun a hs => ?_
     refine gs hs 12 rfl rfl rfl rfl hC fun a hs => ?_
     refine gs hs 13 rfl rfl rfl rfl hC fun a hs => ?_
     refine gs hs 14 rfl rfl rfl rfl hC fun a hs => ?_
     refine gs hs 15 rfl rfl rfl rfl hC fun a hs => ?_
     refine gv hs 16 rfl rfl hC (fun w hC => y_pickFE (v := .bool c1286) rfl rfl (vbs h1318)) fun a hs => ?_
     refine h_done (by kernel_rfl) ?_
     exact ⟨Sv1177, (hs.wk rfl), (hw.ft [0] [0, 1, 2] (by decide) rfl rfl)⟩
    rintro a w ⟨Sv1287, hs, hw⟩
    refine then_normal ?_
    refine wp_cond_split (hs.ev rfl) (fun h1320 => ?_) (fun h1320 => ?_)
    ·have hsh := ite_t hsh h1320
     refine wp_skip ?_
     refine then_normal ?_
     refine wp_seq ?_
     refine wp_block ?_
     obtain ⟨x1372, h1370, hsh⟩ := bind_t hsh
     obtain ⟨b1379, q1376, c1377, h1380, h1373, h1374, h1378, h1371⟩ := hw.elemRV (α := Span) 0 rfl 1 rfl h1370
     have hsv1381 := hs
     have hwv1382 := hw
     subst h1380
     have hs := hsv1381
     have hw := hwv1382
     obtain ⟨_, _, rfl, rfl, rfl⟩ := h1371
     obtain ⟨x1385, h1383, hsh⟩ := bind_t hsh
     obtain ⟨q1389, c1390, h1386, h1387, h1391, h1384⟩ := hw.elemRK (α := Span) 0 rfl 1 rfl h1383
     obtain ⟨_, _, rfl, rfl, rfl⟩ := h1384
     obtain ⟨x1394, h1392, hsh⟩ := bind_t hsh
     obtain ⟨q1398, c1399, h1395, h1396, h1400, h1393⟩ := hw.elemRK (α := Span) 0 rfl 1 rfl h1392
     obtain ⟨_, _, rfl, rfl, rfl⟩ := h1393
     obtain ⟨l1402, h1401, hsh⟩ := bind_t hsh
     obtain ⟨x1407, h1405, hsh⟩ := bind_t hsh
     obtain ⟨l1415, h1414, hsh⟩ := bind_t hsh
     refine wp_only (fun a w => ∃ (Sv1418 : Nat → Prop) (c1416 : List Value), Sl 53 [(0, .slice (some ⟨b1379, 0, none⟩) l1415.length k3), (1, .int .i64 a6), (2, .int .i64 b7), (3, .func (.func g9) f10.toArray cp11.toArray), (8, .int .i64 sv15.2), (9, .int .i64 sv1017.2)] a ∧ Wd ⟨w0, S0, blks [.row (some ⟨b1379, 0, none⟩) data1.length k3 c4 46 2]⟩ Sv1418 [.row (some ⟨b1379, 0, none⟩) l1415.length k3 c1416 46 2] [FnA2 Try.prog g9 f10 cp11 cmp8, RowA c1416 l1415, LenA data1.length l1415] w) ?_ ?_
     ·refine h_b (C := Cls [] []) (by kernel_rfl) rfl (hw.drew.cs [] [] rfl rfl) fun hC => ?_
      have hw := hw.drew
      refine gm hs 0 rfl rfl rfl hC fun a hs => ?_
      refine gm hs 1 rfl rfl rfl hC fun a hs => ?_
      refine gm hs 2 rfl rfl rfl hC fun a hs => ?_
      refine gm hs 3 rfl rfl rfl hC fun a hs => ?_
      refine gv hs 4 rfl rfl hC (fun w hC => y_sub rfl rfl) fun a hs => ?_
      refine gm hs 5 rfl rfl rfl hC fun a hs => ?_
      refine gm hs 6 rfl rfl rfl hC fun a hs => ?_
      refine gv hs 7 rfl rfl hC (fun w hC => y_sub rfl rfl) fun a hs => ?_
      refine gv hs 8 rfl rfl hC (fun w hC => y_indexAt Try.runUnderlying27 Try.sizeOf46 rfl rfl h1373.1 h1373.2 h1374) fun a hs => ?_
      refine gm hs 10 rfl rfl rfl hC fun a hs => ?_
      refine gm hs 11 rfl rfl rfl hC fun a hs => ?_
      refine gv hs 12 rfl rfl hC (fun w hC => y_indexAt Try.runUnderlying27 Try.sizeOf46 rfl rfl h1386.1 h1386.2 h1387) fun a hs => ?_
      refine h_all (rs := [9, 13]) (by kernel_rfl) rfl ?_
      refine AllH.cons rfl ?_ ?_
      ·refine sv hs (y_loadQA (j := 0) (hw.ownAt 0 rfl) rfl Try.isAgg46 Try.sizeOf46 h1378 rfl rfl) rfl fun a hs => ?_
       refine h_nx (hw.cs [] [] rfl rfl) fun hC => ?_
       refine ho 13 rfl ?_
       refine sv hs (y_loadQA (j := 0) (hw.ownAt 0 rfl) rfl Try.isAgg46 Try.sizeOf46 h1391 rfl rfl) rfl fun a hs => ?_
       refine h_nx (hw.cs [] [] rfl rfl) fun hC => ?_
       refine gv hs 14 rfl rfl hC (fun w hC => y_indexAt Try.runUnderlying27 Try.sizeOf46 rfl rfl h1395.1 h1395.2 h1396) fun a hs => ?_
       refine ho 15 rfl ?_
       have h1419 := hw.envAt 2 rfl
       refine w_storeF (α := Span) hs hw 0 rfl 1 rfl h1396 rfl rfl Try.sizeOf46 rfl h1401 ⟨_, _, rfl, rfl, rfl⟩ trivial ?_
       intro c1403 a w hs hw
       have hw := hw.addE (e := LenA data1.length l1402) (len_set (w := w) (S := S0) h1419 h1401)
       have h1404 := setM_len h1401
       try have hs := hs.fl 0 rfl h1404
       try have hs := hs.fl 37 rfl h1404
       try have hs := hs.fl 39 rfl h1404
       try have hs := hs.fl 42 rfl h1404
       try have hs := hs.fl 47 rfl h1404
       refine h_nx (hw.cs [] [] rfl rfl) fun hC => ?_
       refine ho 16 rfl ?_
       obtain ⟨c1412, h1408, h1413, h1406⟩ := hw.elemRX (α := Span) 0 rfl 1 rfl h1405
       obtain ⟨_, _, rfl, rfl, rfl⟩ := h1406
       refine sv hs (y_indexAt Try.runUnderlying27 Try.sizeOf46 rfl rfl h1408.1 h1408.2 rfl) rfl fun a hs => ?_
       refine h_nx (hw.cs [] [] rfl rfl) fun hC => ?_
       refine ho 17 rfl ?_
       have h1420 := hw.envAt 0 rfl
       refine w_storeF (α := Span) hs hw 0 rfl 1 rfl rfl rfl rfl Try.sizeOf46 rfl h1414 ⟨_, _, rfl, rfl, rfl⟩ trivial ?_
       intro c1416 a w hs hw
       have hw := hw.addE (e := LenA data1.length l1415) (len_set (w := w) (S := S0) h1420 h1414)
       have h1417 := setM_len h1414
       try have hs := hs.fl 0 rfl h1417
       try have hs := hs.fl 37 rfl h1417
       try have hs := hs.fl 39 rfl h1417
       try have hs := hs.fl 42 rfl h1417
       try have hs := hs.fl 47 rfl h1417
       refine h_nx (hw.cs [] [] rfl rfl) fun hC => ?_
       refine h_done (by kernel_rfl) ?_
       exact ⟨Sv1287, c1416, (hs.wk rfl), (hw.ft [0] [4, 1, 0] (by decide) rfl rfl)⟩
      refine AllH.cons rfl ?_ ?_
      ·refine sv hs (y_loadQA (j := 0) (hw.ownAt 0 rfl) rfl Try.isAgg46 Try.sizeOf46 h1391 rfl rfl) rfl fun a hs => ?_
       refine h_nx (hw.cs [] [] rfl rfl) fun hC => ?_
       refine ho 9 rfl ?_
       refine sv hs (y_loadQA (j := 0) (hw.ownAt 0 rfl) rfl Try.isAgg46 Try.sizeOf46 h1378 rfl rfl) rfl fun a hs => ?_
       refine h_nx (hw.cs [] [] rfl rfl) fun hC => ?_
       refine gv hs 14 rfl rfl hC (fun w hC => y_indexAt Try.runUnderlying27 Try.sizeOf46 rfl rfl h1395.1 h1395.2 h1396) fun a hs => ?_
       refine ho 15 rfl ?_
       have h1421 := hw.envAt 2 rfl
       refine w_storeF (α := Span) hs hw 0 rfl 1 rfl h1396 rfl rfl Try.sizeOf46 rfl h1401 ⟨_, _, rfl, rfl, rfl⟩ trivial ?_
       intro c1403 a w hs hw
       have hw := hw.addE (e := LenA data1.length l1402) (len_set (w := w) (S := S0) h1421 h1401)
       have h1404 := setM_len h1401
       try have hs := hs.fl 0 rfl h1404
       try have hs := hs.fl 37 rfl h1404
       try have hs := hs.fl 39 rfl h1404
       try have hs := hs.fl 42 rfl h1404
       try have hs := hs.fl 47 rfl h1404
       refine h_nx (hw.cs [] [] rfl rfl) fun hC => ?_
       refine ho 16 rfl ?_
       obtain ⟨c1412, h1408, h1413, h1406⟩ := hw.elemRX (α := Span) 0 rfl 1 rfl h1405
       obtain ⟨_, _, rfl, rfl, rfl⟩ := h1406
       refine sv hs (y_indexAt Try.runUnderlying27 Try.sizeOf46 rfl rfl h1408.1 h1408.2 rfl) rfl fun a hs => ?_
       refine h_nx (hw.cs [] [] rfl rfl) fun hC => ?_
       refine ho 17 rfl ?_
       have h1422 := hw.envAt 0 rfl
       refine w_storeF (α := Span) hs hw 0 rfl 1 rfl rfl rfl rfl Try.sizeOf46 rfl h1414 ⟨_, _, rfl, rfl, rfl⟩ trivial ?_
       intro c1416 a w hs hw
       have hw := hw.addE (e := LenA data1.length l1415) (len_set (w := w) (S := S0) h1422 h1414)
       have h1417 := setM_len h1414
       try have hs := hs.fl 0 rfl h1417
       try have hs := hs.fl 37 rfl h1417
       try have hs := hs.fl 39 rfl h1417
       try have hs := hs.fl 42 rfl h1417
       try have hs := hs.fl 47 rfl h1417
       refine h_nx (hw.cs [] [] rfl rfl) fun hC => ?_
       refine h_done (by kernel_rfl) ?_
       exact ⟨Sv1287, c1416, (hs.wk rfl), (hw.ft [0] [4, 1, 0] (by decide) rfl rfl)⟩
      exact AllH.nil
     rintro a w ⟨Sv1418, c1416, hs, hw⟩
     refine blk_normal ?_
     refine then_normal ?_
     refine wp_region_lit ?_
     refine mv hs rfl rfl fun a hs => ?_
     refine sv hs (y_sub rfl rfl) rfl fun a hs => ?_
     obtain ⟨j1424, h1423, hsh⟩ := bind_t hsh
     refine sv hs (y_assignI rfl h1423) rfl fun a hs => ?_
     refine nl ?_
     exact ⟨_, (Option.some.inj hsh).symm, c1416, Sv1418, (hs.wk rfl), (hw.ft [0] [0, 1, 2] (by decide) rfl rfl)⟩
    have hsh := ite_f hsh h1320
    refine wp_exit ?_
    refine then_exit ?_
    refine then_exit ?_
    refine blk_exit ?_
    have hsh := oi hsh
    subst hsh
    have h1425 := hd1256 _ rfl
    subst h1425
    refine then_normal ?_
    exact ⟨c1176, Sv1287, (hs.wk rfl), (hw.ft [0] [0, 1, 2] (by decide) rfl rfl)⟩
   rintro a w ⟨c1260, Sv1261, hs, hw⟩
   refine blk_normal ?_
   refine then_normal ?_
   refine wp_region_lit ?_
   refine mv hs rfl rfl fun a hs => ?_
   refine sv hs (y_add rfl rfl) rfl fun a hs => ?_
   obtain ⟨i1427, h1426, hsh⟩ := bind_t hsh
   refine sv hs (y_assignI rfl h1426) rfl fun a hs => ?_
   refine nl ?_
   exact ⟨_, (Option.some.inj hsh).symm, c1260, Sv1261, (hs.wk rfl), (hw.ft [0] [0, 1, 2] (by decide) rfl rfl)⟩
  have hsh := ite_f hsh h771
  refine wp_exit ?_
  refine then_exit ?_
  refine then_exit ?_
  refine blk_exit ?_
  have hsh := oi hsh
  subst hsh
  have h1429 := hd764 _ rfl
  subst h1429
  refine then_normal ?_
  exact ⟨c514, Sv515, (hs.wk rfl), (hw.ft [0] [1, 2] (by decide) rfl rfl)⟩
 rintro a w ⟨c768, Sv769, hs, hw⟩
 have hsh := oi hsh
 subst hsh
 exact ret0 hs rfl (hw.ret ⟨c768, rfl, (hw.outs [0] (by decide) rfl), (hw.envAt 0 rfl), (hw.envAt 1 rfl)⟩)

abbrev slices_siftDownCmpFunc_api_Span_rd (w0 : World) (X : List Nat) (p2 : Option Addr) (k3 : Nat) (data1 : (List Span)) (r : (List Span)) : (Nat → Prop) → World → Value → Prop := fun S w v => ∃ (ck_0 : List Value), v = .tuple #[] ∧ Outs X w0 S w [.row p2 r.length k3 ck_0 46 2] ∧ (RowA ck_0 r).p S w ∧ (LenA data1.length r).p S w
set_option maxHeartbeats 4000000 in
set_option maxRecDepth 100000 in
theorem slices_siftDownCmpFunc_api_Span_ok {w0 : World} {S0 : Nat → Prop} {p2 : Option Addr} {k3 : Nat} {c4 : List Value} {g10 : Nat} {f11 : List Value} {cp12 : List Value} {data1 : (List Span)} {lo6 : Int} {hi7 : Int} {first8 : Int} {cmp9 : Span → Span → Option Int} {r : (List Span)} (hsh : slices_siftDownCmpFunc_api_Span data1 lo6 hi7 first8 cmp9 = some r) (hS : ∀ b, S0 b → b < w0.heap.size) (hin : Ins S0 w0 [.row p2 data1.length k3 c4 46 2]) (h5 : (RowA c4 data1).p S0 w0) (h13 : (FnA2 Try.prog g10 f11 cp12 cmp9).p S0 w0) : Calls Try.prog 80 #[.slice p2 data1.length k3, .int .i64 lo6, .int .i64 hi7, .int .i64 first8, .func (.func g10) f11.toArray cp12.toArray] w0 (Ret (blks [.row p2 data1.length k3 c4 46 2]) w0 S0 (slices_siftDownCmpFunc_api_Span_rd w0 (blks [.row p2 data1.length k3 c4 46 2]) p2 k3 data1 r)) := by
 refine calls_of_wp Try.func80 rfl ?_
 have hs := Sl.enter #[.slice p2 data1.length k3, .int .i64 lo6, .int .i64 hi7, .int .i64 first8, .func (.func g10) f11.toArray cp12.toArray] 82 [(0, .slice p2 data1.length k3), (1, .int .i64 lo6), (2, .int .i64 hi7), (3, .int .i64 first8), (4, .func (.func g10) f11.toArray cp12.toArray)] rfl ⟨rfl, rfl, rfl, rfl, rfl, trivial⟩
 have hw := Wd.enterI hS hin
 have hw := hw.addE h5
 have hw := hw.addE (e := LenA data1.length data1) len_rfl
 have hw := hw.addE h13
 delta slices_siftDownCmpFunc_api_Span at hsh
 refine sr ?_
 refine mv hs rfl rfl fun a hs => ?_
 refine av hs rfl rfl fun a hs => ?_
 refine nl ?_
 refine wp_block ?_
 refine wp_while (fun sv336 a w => ∃ (c549 : List Value) (Sv550 : Nat → Prop), Sl 82 [(0, .slice p2 sv336.1.length k3), (2, .int .i64 hi7), (3, .int .i64 first8), (4, .func (.func g10) f11.toArray cp12.toArray), (10, .int .i64 sv336.2)] a ∧ Wd ⟨w0, S0, blks [.row p2 data1.length k3 c4 46 2]⟩ Sv550 [.row p2 sv336.1.length k3 c549 46 2] [FnA2 Try.prog g10 f11 cp12 cmp9, RowA c549 sv336.1, LenA data1.length sv336.1] w) (data1, lo6) hsh ⟨c4, S0, (hs.wk rfl), (hw.ft [0] [0, 2, 1] (by decide) rfl rfl)⟩ ?_
 repeat clear hsh
 rintro sv336 a w tv657 ⟨c549, Sv550, hs, hw⟩ hsh hd656
 delta slices_siftDownCmpFunc_api_Span_l2 at hsh
 refine wp_block ?_
 refine sr ?_
 refine mv hs rfl rfl fun a hs => ?_
 refine sv hs (y_mul rfl rfl) rfl fun a hs => ?_
 refine sv hs (y_add rfl rfl) rfl fun a hs => ?_
 obtain ⟨child766, h765, hsh⟩ := bind_t hsh
 refine sv hs (y_assignI rfl h765) rfl fun a hs => ?_
 refine nl ?_
 refine wp_seq ?_
 refine sr ?_
 refine mv hs rfl rfl fun a hs => ?_
 refine mv hs rfl rfl fun a hs => ?_
 refine sv hs (y_geq rfl rfl) rfl fun a hs => ?_
 refine nl ?_
 refine wp_cond_split (hs.ev rfl) (fun h770 => ?_) (fun h770 => ?_)
 ·have hsh := ite_t hsh h770
  obtain ⟨rv771, hsh, h772⟩ := map_t hsh
  have h772 := (hd656 _ h772.symm).symm
  subst h772
  refine wp_exit ?_
  refine then_exit ?_
  refine blk_other rfl ?_
  refine then_exit ?_
  refine blk_exit ?_
  have hsh := oi hsh
  subst hsh
  exact ret0 hs rfl (hw.ret ⟨c549, rfl, (hw.outs [0] (by decide) rfl), (hw.envAt 1 rfl), (hw.envAt 2 rfl)⟩)
 have hsh := ite_f hsh h770
 refine wp_skip ?_
 refine then_normal ?_
 refine wp_seq ?_
 refine wp_seq ?_
 obtain ⟨c797, hc797, hsh⟩ := bind_t hsh
 refine wp_only (fun a w => ∃ (Sv798 : Nat → Prop), Sl 82 [(0, .slice p2 sv336.1.length k3), (2, .int .i64 hi7), (3, .int .i64 first8), (4, .func (.func g10) f11.toArray cp12.toArray), (10, .int .i64 sv336.2), (11, .int .i64 child766), (40, .bool c797)] a ∧ Wd ⟨w0, S0, blks [.row p2 data1.length k3 c4 46 2]⟩ Sv798 [.row p2 sv336.1.length k3 c549 46 2] [FnA2 Try.prog g10 f11 cp12 cmp9, RowA c549 sv336.1, LenA data1.length sv336.1] w) ?_ ?_
 ·rcases Bool.eq_false_or_eq_true (decide ((w64 (child766 + 1)) < hi7)) with h799 | h799
  ·have h800 := ite_t hc797 h799
   obtain ⟨x803, h801, h800⟩ := bind_t h800
   obtain ⟨b810, q807, c808, h811, h804, h805, h809, h802⟩ := hw.elemRV (α := Span) 0 rfl 1 rfl h801
   have hsv812 := hs
   have hwv813 := hw
   subst h811
   have hs := hsv812
   have hw := hwv813
   obtain ⟨_, _, rfl, rfl, rfl⟩ := h802
   obtain ⟨x816, h814, h800⟩ := bind_t h800
   obtain ⟨q820, c821, h817, h818, h822, h815⟩ := hw.elemRK (α := Span) 0 rfl 1 rfl h814
   obtain ⟨_, _, rfl, rfl, rfl⟩ := h815
   obtain ⟨rv824, h823, h800⟩ := bind_t h800
   refine h_b (C := Cls [.row (some ⟨b810, 0, none⟩) sv336.1.length k3 c549 46 2] []) (by kernel_rfl) rfl (hw.drew.cs [0] [] rfl rfl) fun hC => ?_
   have hw := hw.drew
   refine gm hs 0 rfl rfl rfl hC fun a hs => ?_
   refine gv hs 1 rfl rfl hC (fun w hC => y_add rfl rfl) fun a hs => ?_
   refine gm hs 2 rfl rfl rfl hC fun a hs => ?_
   refine gv hs 3 rfl rfl hC (fun w hC => y_lss rfl rfl) fun a hs => ?_
   refine gm hs 4 rfl rfl rfl hC fun a hs => ?_
   have hs := hs.fix 23 (.bool true) rfl (vb h799)
   refine gt hs 5 rfl ⟨_, rfl, rfl⟩ rfl hC (fun w hC => y_move rfl) fun a hs => ?_
   refine gt hs 6 rfl ⟨_, rfl, rfl⟩ rfl hC (fun w hC => y_move rfl) fun a hs => ?_
   refine gt hs 7 rfl ⟨_, rfl, rfl⟩ rfl hC (fun w hC => y_move rfl) fun a hs => ?_
   refine gt hs 8 rfl ⟨_, rfl, rfl⟩ rfl hC (fun w hC => y_move rfl) fun a hs => ?_
   refine gt hs 9 rfl ⟨_, rfl, rfl⟩ rfl hC (fun w hC => y_add rfl rfl) fun a hs => ?_
   refine gt hs 10 rfl ⟨_, rfl, rfl⟩ rfl hC (fun w hC => y_indexAt Try.runUnderlying27 Try.sizeOf46 rfl rfl h804.1 h804.2 h805) fun a hs => ?_
   refine gt hs 11 rfl ⟨_, rfl, rfl⟩ rfl hC (fun w hC => y_loadQA (j := 0) (hC.ownAt 0 rfl) rfl Try.isAgg46 Try.sizeOf46 h809 rfl rfl) fun a hs => ?_
   refine gt hs 12 rfl ⟨_, rfl, rfl⟩ rfl hC (fun w hC => y_move rfl) fun a hs => ?_
   refine gt hs 13 rfl ⟨_, rfl, rfl⟩ rfl hC (fun w hC => y_move rfl) fun a hs => ?_
   refine gt hs 14 rfl ⟨_, rfl, rfl⟩ rfl hC (fun w hC => y_move rfl) fun a hs => ?_
   refine gt hs 15 rfl ⟨_, rfl, rfl⟩ rfl hC (fun w hC => y_add rfl rfl) fun a hs => ?_
   refine gt hs 16 rfl ⟨_, rfl, rfl⟩ rfl hC (fun w hC => y_add rfl rfl) fun a hs => ?_
   refine gt hs 17 rfl ⟨_, rfl, rfl⟩ rfl hC (fun w hC => y_indexAt Try.runUnderlying27 Try.sizeOf46 rfl rfl h817.1 h817.2 h818) fun a hs => ?_
   refine gt hs 18 rfl ⟨_, rfl, rfl⟩ rfl hC (fun w hC => y_loadQA (j := 0) (hC.ownAt 0 rfl) rfl Try.isAgg46 Try.sizeOf46 h822 rfl rfl) fun a hs => ?_
   refine ho 19 rfl ?_
   refine st_callR hs ((hw.bE 0 rfl).2 Keep.rfl' hw.bdom ⟨_, _, rfl, rfl, rfl⟩ ⟨_, _, rfl, rfl, rfl⟩ h823) (do_callF (hw.bE 0 rfl).1 rfl rfl) ⟨_, rfl, rfl⟩ rfl rfl ?_
   intro v828 Sv825 w a h826 h827 hs
   subst h827
   have hw := hw.callB h826
   refine h_nx (hw.cs [0] [] rfl rfl) fun hC => ?_
   refine gt hs 20 rfl ⟨_, rfl, rfl⟩ rfl hC (fun w hC => y_lss rfl rfl) fun a hs => ?_
   refine gv hs 21 rfl rfl hC (fun w hC => y_pickTE (v := .bool c797) rfl rfl (vbs h800)) fun a hs => ?_
   refine h_done (by kernel_rfl) ?_
   exact ⟨Sv550, (hs.wk rfl), (hw.ft [0] [0, 1, 2] (by decide) rfl rfl)⟩
  have h829 := ite_f hc797 h799
  refine h_b (C := Cls [.row p2 sv336.1.length k3 c549 46 2] []) (by kernel_rfl) rfl (hw.drew.cs [0] [] rfl rfl) fun hC => ?_
  have hw := hw.drew
  refine gm hs 0 rfl rfl rfl hC fun a hs => ?_
  refine gv hs 1 rfl rfl hC (fun w hC => y_add rfl rfl) fun a hs => ?_
  refine gm hs 2 rfl rfl rfl hC fun a hs => ?_
  refine gv hs 3 rfl rfl hC (fun w hC => y_lss rfl rfl) fun a hs => ?_
  refine gm hs 4 rfl rfl rfl hC fun a hs => ?_
  have hs := hs.fix 23 (.bool false) rfl (vb h799)
  refine gs hs 5 rfl rfl rfl rfl hC fun a hs => ?_
  refine gs hs 6 rfl rfl rfl rfl hC fun a hs => ?_
  refine gs hs 7 rfl rfl rfl rfl hC fun a hs => ?_
  refine gs hs 8 rfl rfl rfl rfl hC fun a hs => ?_
  refine gs hs 9 rfl rfl rfl rfl hC fun a hs => ?_
  refine gs hs 10 rfl rfl rfl rfl hC fun a hs => ?_
  refine gs hs 11 rfl rfl rfl rfl hC fun a hs => ?_
  refine gs hs 12 rfl rfl rfl rfl hC fun a hs => ?_
  refine gs hs 13 rfl rfl rfl rfl hC fun a hs => ?_
  refine gs hs 14 rfl rfl rfl rfl hC fun a hs => ?_
  refine gs hs 15 rfl rfl rfl rfl hC fun a hs => ?_
  refine gs hs 16 rfl rfl rfl rfl hC fun a hs => ?_
  refine gs hs 17 rfl rfl rfl rfl hC fun a hs => ?_
  refine gs hs 18 rfl rfl rfl rfl hC fun a hs => ?_
  refine gs hs 19 rfl rfl rfl rfl hC fun a hs => ?_
  refine gs hs 20 rfl rfl rfl rfl hC fun a hs => ?_
  refine gv hs 21 rfl rfl hC (fun w hC => y_pickFE (v := .bool c797) rfl rfl (vbs h829)) fun a hs => ?_
  refine h_done (by kernel_rfl) ?_
  exact ⟨Sv550, (hs.wk rfl), (hw.ft [0] [0, 1, 2] (by decide) rfl rfl)⟩
 rintro a w ⟨Sv798, hs, hw⟩
 refine then_normal ?_
 refine wp_join (fun a w => ∃ (child834 : Int) (Sv833 : Nat → Prop), slices_siftDownCmpFunc_api_Span_j1 first8 cmp9 sv336 child834 = some tv657 ∧ Sl 82 [(0, .slice p2 sv336.1.length k3), (2, .int .i64 hi7), (3, .int .i64 first8), (4, .func (.func g10) f11.toArray cp12.toArray), (10, .int .i64 sv336.2), (11, .int .i64 child834)] a ∧ Wd ⟨w0, S0, blks [.row p2 data1.length k3 c4 46 2]⟩ Sv833 [.row p2 sv336.1.length k3 c549 46 2] [FnA2 Try.prog g10 f11 cp12 cmp9, RowA c549 sv336.1, LenA data1.length sv336.1] w) ?_ ?_
 ·refine wp_cond_split (hs.ev rfl) (fun h916 => ?_) (fun h916 => ?_)
  ·have hsh := ite_t hsh h916
   refine wp_region_lit ?_
   refine mv hs rfl rfl fun a hs => ?_
   refine sv hs (y_add rfl rfl) rfl fun a hs => ?_
   obtain ⟨child918, h917, hsh⟩ := bind_t hsh
   refine sv hs (y_assignI rfl h917) rfl fun a hs => ?_
   refine nl ?_
   exact ⟨child918, Sv798, hsh, (hs.wk rfl), (hw.ft [0] [0, 1, 2] (by decide) rfl rfl)⟩
  have hsh := ite_f hsh h916
  refine wp_skip ?_
  refine then_normal ?_
  exact ⟨child766, Sv798, hsh, (hs.wk rfl), (hw.ft [0] [0, 1, 2] (by decide) rfl rfl)⟩
 rintro a w ⟨child834, Sv833, hsh, hs, hw⟩
 delta slices_siftDownCmpFunc_api_Span_j1 at hsh
 refine then_normal ?_
 refine wp_seq ?_
 refine wp_seq ?_
 obtain ⟨x837, h835, hsh⟩ := bind_t hsh
 obtain ⟨b844, q841, c842, h845, h838, h839, h843, h836⟩ := hw.elemRV (α := Span) 0 rfl 1 rfl h835
 have hsv846 := hs
 have hwv847 := hw
 subst h845
 have hs := hsv846
 have hw := hwv847
 obtain ⟨_, _, rfl, rfl, rfl⟩ := h836
 obtain ⟨x850, h848, hsh⟩ := bind_t hsh
 obtain ⟨q854, c855, h851, h852, h856, h849⟩ := hw.elemRK (α := Span) 0 rfl 1 rfl h848
 obtain ⟨_, _, rfl, rfl, rfl⟩ := h849
 obtain ⟨rv858, h857, hsh⟩ := bind_t hsh
 refine wp_only (fun a w => ∃ (Sv859 : Nat → Prop), Sl 82 [(0, .slice (some ⟨b844, 0, none⟩) sv336.1.length k3), (2, .int .i64 hi7), (3, .int .i64 first8), (4, .func (.func g10) f11.toArray cp12.toArray), (10, .int .i64 sv336.2), (11, .int .i64 child834), (58, .bool (!(decide (rv858 < 0))))] a ∧ Wd ⟨w0, S0, blks [.row (some ⟨b844, 0, none⟩) data1.length k3 c4 46 2]⟩ Sv859 [.row (some ⟨b844, 0, none⟩) sv336.1.length k3 c549 46 2] [FnA2 Try.prog g10 f11 cp12 cmp9, RowA c549 sv336.1, LenA data1.length sv336.1] w) ?_ ?_
 ·refine h_b (C := Cls [.row (some ⟨b844, 0, none⟩) sv336.1.length k3 c549 46 2] []) (by kernel_rfl) rfl (hw.drew.cs [0] [] rfl rfl) fun hC => ?_
  have hw := hw.drew
  refine gm hs 0 rfl rfl rfl hC fun a hs => ?_
  refine gm hs 1 rfl rfl rfl hC fun a hs => ?_
  refine gm hs 2 rfl rfl rfl hC fun a hs => ?_
  refine gm hs 3 rfl rfl rfl hC fun a hs => ?_
  refine gv hs 4 rfl rfl hC (fun w hC => y_add rfl rfl) fun a hs => ?_
  refine gv hs 5 rfl rfl hC (fun w hC => y_indexAt Try.runUnderlying27 Try.sizeOf46 rfl rfl h838.1 h838.2 h839) fun a hs => ?_
  refine gv hs 6 rfl rfl hC (fun w hC => y_loadQA (j := 0) (hC.ownAt 0 rfl) rfl Try.isAgg46 Try.sizeOf46 h843 rfl rfl) fun a hs => ?_
  refine gm hs 7 rfl rfl rfl hC fun a hs => ?_
  refine gm hs 8 rfl rfl rfl hC fun a hs => ?_
  refine gm hs 9 rfl rfl rfl hC fun a hs => ?_
  refine gv hs 10 rfl rfl hC (fun w hC => y_add rfl rfl) fun a hs => ?_
  refine gv hs 11 rfl rfl hC (fun w hC => y_indexAt Try.runUnderlying27 Try.sizeOf46 rfl rfl h851.1 h851.2 h852) fun a hs => ?_
  refine gv hs 12 rfl rfl hC (fun w hC => y_loadQA (j := 0) (hC.ownAt 0 rfl) rfl Try.isAgg46 Try.sizeOf46 h856 rfl rfl) fun a hs => ?_
  refine ho 13 rfl ?_
  refine st_callR hs ((hw.bE 0 rfl).2 Keep.rfl' hw.bdom ⟨_, _, rfl, rfl, rfl⟩ ⟨_, _, rfl, rfl, rfl⟩ h857) (do_callF (hw.bE 0 rfl).1 rfl rfl) trivial rfl rfl ?_
  intro v863 Sv860 w a h861 h862 hs
  subst h862
  have hw := hw.callB h861
  refine h_nx (hw.cs [0] [] rfl rfl) fun hC => ?_
  refine gv hs 14 rfl rfl hC (fun w hC => y_lss rfl rfl) fun a hs => ?_
  refine gv hs 15 rfl rfl hC (fun w hC => y_not rfl) fun a hs => ?_
  refine h_done (by kernel_rfl) ?_
  exact ⟨Sv833, (hs.wk rfl), (hw.ft [0] [0, 1, 2] (by decide) rfl rfl)⟩
 rintro a w ⟨Sv859, hs, hw⟩
 refine then_normal ?_
 refine wp_cond_split (hs.ev rfl) (fun h865 => ?_) (fun h865 => ?_)
 ·have hsh := ite_t hsh h865
  have hsh := oi hsh
  subst hsh
  have h866 := hd656 _ rfl
  subst h866
  refine wp_ret ?_
  refine then_ret ?_
  refine blk_ret ?_
  refine then_ret ?_
  refine blk_ret ?_
  exact ret0 hs rfl (hw.ret ⟨c549, rfl, (hw.outs [0] (by decide) rfl), (hw.envAt 1 rfl), (hw.envAt 2 rfl)⟩)
 have hsh := ite_f hsh h865
 refine wp_skip ?_
 refine then_normal ?_
 refine wp_seq ?_
 obtain ⟨x869, h867, hsh⟩ := bind_t hsh
 obtain ⟨q873, c874, h870, h871, h875, h868⟩ := hw.elemRK (α := Span) 0 rfl 1 rfl h867
 obtain ⟨_, _, rfl, rfl, rfl⟩ := h868
 obtain ⟨x878, h876, hsh⟩ := bind_t hsh
 obtain ⟨q882, c883, h879, h880, h884, h877⟩ := hw.elemRK (α := Span) 0 rfl 1 rfl h876
 obtain ⟨_, _, rfl, rfl, rfl⟩ := h877
 obtain ⟨x887, h885, hsh⟩ := bind_t hsh
 obtain ⟨q891, c892, h888, h889, h893, h886⟩ := hw.elemRK (α := Span) 0 rfl 1 rfl h885
 obtain ⟨_, _, rfl, rfl, rfl⟩ := h886
 obtain ⟨l895, h894, hsh⟩ := bind_t hsh
 obtain ⟨x900, h898, hsh⟩ := bind_t hsh
 obtain ⟨l908, h907, hsh⟩ := bind_t hsh
 refine wp_only (fun a w => ∃ (Sv911 : Nat → Prop) (c909 : List Value), Sl 82 [(0, .slice (some ⟨b844, 0, none⟩) l908.length k3), (2, .int .i64 hi7), (3, .int .i64 first8), (4, .func (.func g10) f11.toArray cp12.toArray), (11, .int .i64 child834)] a ∧ Wd ⟨w0, S0, blks [.row (some ⟨b844, 0, none⟩) data1.length k3 c4 46 2]⟩ Sv911 [.row (some ⟨b844, 0, none⟩) l908.length k3 c909 46 2] [FnA2 Try.prog g10 f11 cp12 cmp9, RowA c909 l908, LenA data1.length l908] w) ?_ ?_
 ·refine h_b (C := Cls [] []) (by kernel_rfl) rfl (hw.drew.cs [] [] rfl rfl) fun hC => ?_
  have hw := hw.drew
  refine gm hs 0 rfl rfl rfl hC fun a hs => ?_
  refine gm hs 1 rfl rfl rfl hC fun a hs => ?_
  refine gm hs 2 rfl rfl rfl hC fun a hs => ?_
  refine gv hs 3 rfl rfl hC (fun w hC => y_add rfl rfl) fun a hs => ?_
  refine gm hs 4 rfl rfl rfl hC fun a hs => ?_
  refine gm hs 5 rfl rfl rfl hC fun a hs => ?_
  refine gm hs 6 rfl rfl rfl hC fun a hs => ?_
  refine gv hs 7 rfl rfl hC (fun w hC => y_add rfl rfl) fun a hs => ?_
  refine gm hs 8 rfl rfl rfl hC fun a hs => ?_
  refine gm hs 9 rfl rfl rfl hC fun a hs => ?_
  refine gm hs 10 rfl rfl rfl hC fun a hs => ?_
  refine gv hs 11 rfl rfl hC (fun w hC => y_add rfl rfl) fun a hs => ?_
  refine gv hs 12 rfl rfl hC (fun w hC => y_indexAt Try.runUnderlying27 Try.sizeOf46 rfl rfl h870.1 h870.2 h871) fun a hs => ?_
  refine gm hs 14 rfl rfl rfl hC fun a hs => ?_
  refine gm hs 15 rfl rfl rfl hC fun a hs => ?_
  refine gm hs 16 rfl rfl rfl hC fun a hs => ?_
  refine gv hs 17 rfl rfl hC (fun w hC => y_add rfl rfl) fun a hs => ?_
  refine gv hs 18 rfl rfl hC (fun w hC => y_indexAt Try.runUnderlying27 Try.sizeOf46 rfl rfl h879.1 h879.2 h880) fun a hs => ?_
  refine h_all (rs := [13, 19]) (by kernel_rfl) rfl ?_
  refine AllH.cons rfl ?_ ?_
  ·refine sv hs (y_loadQA (j := 0) (hw.ownAt 0 rfl) rfl Try.isAgg46 Try.sizeOf46 h875 rfl rfl) rfl fun a hs => ?_
   refine h_nx (hw.cs [] [] rfl rfl) fun hC => ?_
   refine ho 19 rfl ?_
   refine sv hs (y_loadQA (j := 0) (hw.ownAt 0 rfl) rfl Try.isAgg46 Try.sizeOf46 h884 rfl rfl) rfl fun a hs => ?_
   refine h_nx (hw.cs [] [] rfl rfl) fun hC => ?_
   refine gv hs 20 rfl rfl hC (fun w hC => y_indexAt Try.runUnderlying27 Try.sizeOf46 rfl rfl h888.1 h888.2 h889) fun a hs => ?_
   refine ho 21 rfl ?_
   have h912 := hw.envAt 2 rfl
   refine w_storeF (α := Span) hs hw 0 rfl 1 rfl h889 rfl rfl Try.sizeOf46 rfl h894 ⟨_, _, rfl, rfl, rfl⟩ trivial ?_
   intro c896 a w hs hw
   have hw := hw.addE (e := LenA data1.length l895) (len_set (w := w) (S := S0) h912 h894)
   have h897 := setM_len h894
   try have hs := hs.fl 0 rfl h897
   try have hs := hs.fl 59 rfl h897
   try have hs := hs.fl 63 rfl h897
   try have hs := hs.fl 67 rfl h897
   try have hs := hs.fl 73 rfl h897
   refine h_nx (hw.cs [] [] rfl rfl) fun hC => ?_
   refine ho 22 rfl ?_
   obtain ⟨c905, h901, h906, h899⟩ := hw.elemRX (α := Span) 0 rfl 1 rfl h898
   obtain ⟨_, _, rfl, rfl, rfl⟩ := h899
   refine sv hs (y_indexAt Try.runUnderlying27 Try.sizeOf46 rfl rfl h901.1 h901.2 rfl) rfl fun a hs => ?_
   refine h_nx (hw.cs [] [] rfl rfl) fun hC => ?_
   refine ho 23 rfl ?_
   have h913 := hw.envAt 0 rfl
   refine w_storeF (α := Span) hs hw 0 rfl 1 rfl rfl rfl rfl Try.sizeOf46 rfl h907 ⟨_, _, rfl, rfl, rfl⟩ trivial ?_
   intro c909 a w hs hw
   have hw := hw.addE (e := LenA data1.length l908) (len_set (w := w) (S := S0) h913 h907)
   have h910 := setM_len h907
   try have hs := hs.fl 0 rfl h910
   try have hs := hs.fl 59 rfl h910
   try have hs := hs.fl 63 rfl h910
   try have hs := hs.fl 67 rfl h910
   try have hs := hs.fl 73 rfl h910
   refine h_nx (hw.cs [] [] rfl rfl) fun hC => ?_
   refine h_done (by kernel_rfl) ?_
   exact ⟨Sv859, c909, (hs.wk rfl), (hw.ft [0] [4, 1, 0] (by decide) rfl rfl)⟩
  refine AllH.cons rfl ?_ ?_
  ·refine sv hs (y_loadQA (j := 0) (hw.ownAt 0 rfl) rfl Try.isAgg46 Try.sizeOf46 h884 rfl rfl) rfl fun a hs => ?_
   refine h_nx (hw.cs [] [] rfl rfl) fun hC => ?_
   refine ho 13 rfl ?_
   refine sv hs (y_loadQA (j := 0) (hw.ownAt 0 rfl) rfl Try.isAgg46 Try.sizeOf46 h875 rfl rfl) rfl fun a hs => ?_
   refine h_nx (hw.cs [] [] rfl rfl) fun hC => ?_
   refine gv hs 20 rfl rfl hC (fun w hC => y_indexAt Try.runUnderlying27 Try.sizeOf46 rfl rfl h888.1 h888.2 h889) fun a hs => ?_
   refine ho 21 rfl ?_
   have h914 := hw.envAt 2 rfl
   refine w_storeF (α := Span) hs hw 0 rfl 1 rfl h889 rfl rfl Try.sizeOf46 rfl h894 ⟨_, _, rfl, rfl, rfl⟩ trivial ?_
   intro c896 a w hs hw
   have hw := hw.addE (e := LenA data1.length l895) (len_set (w := w) (S := S0) h914 h894)
   have h897 := setM_len h894
   try have hs := hs.fl 0 rfl h897
   try have hs := hs.fl 59 rfl h897
   try have hs := hs.fl 63 rfl h897
   try have hs := hs.fl 67 rfl h897
   try have hs := hs.fl 73 rfl h897
   refine h_nx (hw.cs [] [] rfl rfl) fun hC => ?_
   refine ho 22 rfl ?_
   obtain ⟨c905, h901, h906, h899⟩ := hw.elemRX (α := Span) 0 rfl 1 rfl h898
   obtain ⟨_, _, rfl, rfl, rfl⟩ := h899
   refine sv hs (y_indexAt Try.runUnderlying27 Try.sizeOf46 rfl rfl h901.1 h901.2 rfl) rfl fun a hs => ?_
   refine h_nx (hw.cs [] [] rfl rfl) fun hC => ?_
   refine ho 23 rfl ?_
   have h915 := hw.envAt 0 rfl
   refine w_storeF (α := Span) hs hw 0 rfl 1 rfl rfl rfl rfl Try.sizeOf46 rfl h907 ⟨_, _, rfl, rfl, rfl⟩ trivial ?_
   intro c909 a w hs hw
   have hw := hw.addE (e := LenA data1.length l908) (len_set (w := w) (S := S0) h915 h907)
   have h910 := setM_len h907
   try have hs := hs.fl 0 rfl h910
   try have hs := hs.fl 59 rfl h910
   try have hs := hs.fl 63 rfl h910
   try have hs := hs.fl 67 rfl h910
   try have hs := hs.fl 73 rfl h910
   refine h_nx (hw.cs [] [] rfl rfl) fun hC => ?_
   refine h_done (by kernel_rfl) ?_
   exact ⟨Sv859, c909, (hs.wk rfl), (hw.ft [0] [4, 1, 0] (by decide) rfl rfl)⟩
  exact AllH.nil
 rintro a w ⟨Sv911, c909, hs, hw⟩
 refine then_normal ?_
 refine wp_region_lit ?_
 refine mv hs rfl rfl fun a hs => ?_
 refine av hs rfl rfl fun a hs => ?_
 refine wpList_nil ?_
 refine blk_normal ?_
 refine then_normal ?_
 exact ⟨_, (Option.some.inj hsh).symm, c909, Sv911, (hs.wk rfl), (hw.ft [0] [0, 1, 2] (by decide) rfl rfl)⟩

abbrev slices_heapSortCmpFunc_api_Span_rd (w0 : World) (X : List Nat) (p2 : Option Addr) (k3 : Nat) (data1 : (List Span)) (r : (List Span)) : (Nat → Prop) → World → Value → Prop := fun S w v => ∃ (ck_0 : List Value), v = .tuple #[] ∧ Outs X w0 S w [.row p2 r.length k3 ck_0 46 2] ∧ (RowA ck_0 r).p S w ∧ (LenA data1.length r).p S w
set_option maxHeartbeats 4000000 in
set_option maxRecDepth 100000 in
theorem slices_heapSortCmpFunc_api_Span_ok {w0 : World} {S0 : Nat → Prop} {p2 : Option Addr} {k3 : Nat} {c4 : List Value} {g9 : Nat} {f10 : List Value} {cp11 : List Value} {data1 : (List Span)} {a6 : Int} {b7 : Int} {cmp8 : Span → Span → Option Int} {r : (List Span)} (hsh : slices_heapSortCmpFunc_api_Span data1 a6 b7 cmp8 = some r) (hS : ∀ b, S0 b → b < w0.heap.size) (hin : Ins S0 w0 [.row p2 data1.length k3 c4 46 2]) (h5 : (RowA c4 data1).p S0 w0) (h12 : (FnA2 Try.prog g9 f10 cp11 cmp8).p S0 w0) : Calls Try.prog 71 #[.slice p2 data1.length k3, .int .i64 a6, .int .i64 b7, .func (.func g9) f10.toArray cp11.toArray] w0 (Ret (blks [.row p2 data1.length k3 c4 46 2]) w0 S0 (slices_heapSortCmpFunc_api_Span_rd w0 (blks [.row p2 data1.length k3 c4 46 2]) p2 k3 data1 r)) := by
 refine calls_of_wp Try.func71 rfl ?_
 have hs := Sl.enter #[.slice p2 data1.length k3, .int .i64 a6, .int .i64 b7, .func (.func g9) f10.toArray cp11.toArray] 60 [(0, .slice p2 data1.length k3), (1, .int .i64 a6), (2, .int .i64 b7), (3, .func (.func g9) f10.toArray cp11.toArray)] rfl ⟨rfl, rfl, rfl, rfl, trivial⟩
 have hw := Wd.enterI hS hin
 have hw := hw.addE h5
 have hw := hw.addE (e := LenA data1.length data1) len_rfl
 have hw := hw.addE h12
 delta slices_heapSortCmpFunc_api_Span at hsh
 refine sr ?_
 refine mv hs rfl rfl fun a hs => ?_
 refine av hs rfl rfl fun a hs => ?_
 refine nl ?_
 refine sr ?_
 refine av hs rfl rfl fun a hs => ?_
 refine nl ?_
 refine sr ?_
 refine mv hs rfl rfl fun a hs => ?_
 refine mv hs rfl rfl fun a hs => ?_
 refine sv hs (y_sub rfl rfl) rfl fun a hs => ?_
 obtain ⟨hi14, h13, hsh⟩ := bind_t hsh
 refine sv hs (y_assignI rfl h13) rfl fun a hs => ?_
 refine nl ?_
 refine wp_seq ?_
 refine sr ?_
 refine mv hs rfl rfl fun a hs => ?_
 refine sv hs (y_sub rfl rfl) rfl fun a hs => ?_
 refine sv hs (y_quo rfl rfl (by decide)) rfl fun a hs => ?_
 obtain ⟨i16, h15, hsh⟩ := bind_t hsh
 refine sv hs (y_assignI rfl h15) rfl fun a hs => ?_
 refine nl ?_
 obtain ⟨e70, h439, hsh⟩ := bind_t hsh
 refine wp_join (fun a w => ∃ (c71 : List Value) (Sv72 : Nat → Prop), Sl 60 [(0, .slice p2 e70.length k3), (3, .func (.func g9) f10.toArray cp11.toArray), (8, .int .i64 a6), (9, .int .i64 0), (10, .int .i64 hi14)] a ∧ Wd ⟨w0, S0, blks [.row p2 data1.length k3 c4 46 2]⟩ Sv72 [.row p2 e70.length k3 c71 46 2] [FnA2 Try.prog g9 f10 cp11 cmp8, RowA c71 e70, LenA data1.length e70] w) ?_ ?_
 ·refine wp_block ?_
  refine wp_while (fun sv17 a w => ∃ (c50 : List Value) (Sv51 : Nat → Prop), Sl 60 [(0, .slice p2 sv17.1.length k3), (3, .func (.func g9) f10.toArray cp11.toArray), (8, .int .i64 a6), (9, .int .i64 0), (10, .int .i64 hi14), (11, .int .i64 sv17.2)] a ∧ Wd ⟨w0, S0, blks [.row p2 data1.length k3 c4 46 2]⟩ Sv51 [.row p2 sv17.1.length k3 c50 46 2] [FnA2 Try.prog g9 f10 cp11 cmp8, RowA c50 sv17.1, LenA data1.length sv17.1] w) (data1, i16) h439 ⟨c4, S0, (hs.wk rfl), (hw.ft [0] [0, 2, 1] (by decide) rfl rfl)⟩ ?_
  clear h439
  repeat clear hsh
  rintro sv17 a w tv68 ⟨c50, Sv51, hs, hw⟩ hsh hd67
  delta slices_heapSortCmpFunc_api_Span_l1 at hsh
  refine wp_seq ?_
  refine sr ?_
  refine mv hs rfl rfl fun a hs => ?_
  refine sv hs (y_geq rfl rfl) rfl fun a hs => ?_
  refine nl ?_
  refine wp_cond_split (hs.ev rfl) (fun h74 => ?_) (fun h74 => ?_)
  ·have hsh := ite_t hsh h74
   refine wp_skip ?_
   refine then_normal ?_
   refine wp_seq ?_
   refine wp_block ?_
   refine wp_region_lit ?_
   refine mv hs rfl rfl fun a hs => ?_
   refine mv hs rfl rfl fun a hs => ?_
   refine mv hs rfl rfl fun a hs => ?_
   refine mv hs rfl rfl fun a hs => ?_
   refine mv hs rfl rfl fun a hs => ?_
   obtain ⟨rv88, h87, hsh⟩ := bind_t hsh
   refine st_callR hs (slices_siftDownCmpFunc_api_Span_ok h87 hw.dom (hw.ins [0] (by decide) rfl) (hw.envAt 1 rfl) (hw.envAt 0 rfl)) (do_call Try.call80 rfl) trivial rfl rfl ?_
   intro v95 Sv92 w a h93 h94 hs
   obtain ⟨c89, rfl, h96, h90, h91⟩ := h94
   have hw := hw.callO [0] [] (by decide) rfl h93 h96
   have hw := hw.addE (e := RowA c89 rv88) h90
   have hw := hw.addE (e := LenA data1.length rv88) ((hw.envAt 3 rfl).trans h91)
   have h97 := h91
   have h98 := Eq.symm h97
   try have hs := hs.fl 0 rfl h98
   try have hs := hs.fl 24 rfl h98
   refine wpList_nil ?_
   refine blk_normal ?_
   refine then_normal ?_
   refine wp_region_lit ?_
   refine mv hs rfl rfl fun a hs => ?_
   refine sv hs (y_sub rfl rfl) rfl fun a hs => ?_
   obtain ⟨i100, h99, hsh⟩ := bind_t hsh
   refine sv hs (y_assignI rfl h99) rfl fun a hs => ?_
   refine nl ?_
   exact ⟨_, (Option.some.inj hsh).symm, c89, Sv92, (hs.wk rfl), (hw.ft [0] [2, 1, 0] (by decide) rfl rfl)⟩
  have hsh := ite_f hsh h74
  refine wp_exit ?_
  refine then_exit ?_
  refine then_exit ?_
  refine blk_exit ?_
  have hsh := oi hsh
  subst hsh
  have h101 := hd67 _ rfl
  subst h101
  refine then_normal ?_
  exact ⟨c50, Sv51, (hs.wk rfl), (hw.ft [0] [0, 1, 2] (by decide) rfl rfl)⟩
 rintro a w ⟨c71, Sv72, hs, hw⟩
 refine then_normal ?_
 refine sr ?_
 refine mv hs rfl rfl fun a hs => ?_
 refine sv hs (y_sub rfl rfl) rfl fun a hs => ?_
 obtain ⟨i103, h102, hsh⟩ := bind_t hsh
 refine sv hs (y_assignI rfl h102) rfl fun a hs => ?_
 refine nl ?_
 obtain ⟨e304, h438, hsh⟩ := bind_t hsh
 refine wp_join (fun a w => ∃ (c305 : List Value) (Sv306 : Nat → Prop), Sl 60 [] a ∧ Wd ⟨w0, S0, blks [.row p2 data1.length k3 c4 46 2]⟩ Sv306 [.row p2 e304.length k3 c305 46 2] [RowA c305 e304, LenA data1.length e304] w) ?_ ?_
 ·refine wp_block ?_
  refine wp_while (fun sv104 a w => ∃ (c235 : List Value) (Sv236 : Nat → Prop), Sl 60 [(0, .slice p2 sv104.1.length k3), (3, .func (.func g9) f10.toArray cp11.toArray), (8, .int .i64 a6), (9, .int .i64 0), (12, .int .i64 sv104.2)] a ∧ Wd ⟨w0, S0, blks [.row p2 data1.length k3 c4 46 2]⟩ Sv236 [.row p2 sv104.1.length k3 c235 46 2] [FnA2 Try.prog g9 f10 cp11 cmp8, RowA c235 sv104.1, LenA data1.length sv104.1] w) (e70, i103) h438 ⟨c71, Sv72, (hs.wk rfl), (hw.ft [0] [0, 1, 2] (by decide) rfl rfl)⟩ ?_
  clear h438
  repeat clear hsh
  rintro sv104 a w tv302 ⟨c235, Sv236, hs, hw⟩ hsh hd301
  delta slices_heapSortCmpFunc_api_Span_l2 at hsh
  refine wp_seq ?_
  refine sr ?_
  refine mv hs rfl rfl fun a hs => ?_
  refine sv hs (y_geq rfl rfl) rfl fun a hs => ?_
  refine nl ?_
  refine wp_cond_split (hs.ev rfl) (fun h308 => ?_) (fun h308 => ?_)
  ·have hsh := ite_t hsh h308
   refine wp_skip ?_
   refine then_normal ?_
   refine wp_seq ?_
   refine wp_block ?_
   refine wp_seq ?_
   obtain ⟨x372, h370, hsh⟩ := bind_t hsh
   obtain ⟨b379, q376, c377, h380, h373, h374, h378, h371⟩ := hw.elemRV (α := Span) 0 rfl 1 rfl h370
   have hsv381 := hs
   have hwv382 := hw
   subst h380
   have hs := hsv381
   have hw := hwv382
   obtain ⟨_, _, rfl, rfl, rfl⟩ := h371
   obtain ⟨x385, h383, hsh⟩ := bind_t hsh
   obtain ⟨q389, c390, h386, h387, h391, h384⟩ := hw.elemRK (α := Span) 0 rfl 1 rfl h383
   obtain ⟨_, _, rfl, rfl, rfl⟩ := h384
   obtain ⟨x394, h392, hsh⟩ := bind_t hsh
   obtain ⟨q398, c399, h395, h396, h400, h393⟩ := hw.elemRK (α := Span) 0 rfl 1 rfl h392
   obtain ⟨_, _, rfl, rfl, rfl⟩ := h393
   obtain ⟨l402, h401, hsh⟩ := bind_t hsh
   obtain ⟨x407, h405, hsh⟩ := bind_t hsh
   obtain ⟨l415, h414, hsh⟩ := bind_t hsh
   refine wp_only (fun a w => ∃ (Sv418 : Nat → Prop) (c416 : List Value), Sl 60 [(0, .slice (some ⟨b379, 0, none⟩) l415.length k3), (3, .func (.func g9) f10.toArray cp11.toArray), (8, .int .i64 a6), (9, .int .i64 0), (12, .int .i64 sv104.2)] a ∧ Wd ⟨w0, S0, blks [.row (some ⟨b379, 0, none⟩) data1.length k3 c4 46 2]⟩ Sv418 [.row (some ⟨b379, 0, none⟩) l415.length k3 c416 46 2] [FnA2 Try.prog g9 f10 cp11 cmp8, RowA c416 l415, LenA data1.length l415] w) ?_ ?_
   ·refine h_b (C := Cls [] []) (by kernel_rfl) rfl (hw.drew.cs [] [] rfl rfl) fun hC => ?_
    have hw := hw.drew
    refine gm hs 0 rfl rfl rfl hC fun a hs => ?_
    refine gm hs 1 rfl rfl rfl hC fun a hs => ?_
    refine gm hs 2 rfl rfl rfl hC fun a hs => ?_
    refine gm hs 3 rfl rfl rfl hC fun a hs => ?_
    refine gm hs 4 rfl rfl rfl hC fun a hs => ?_
    refine gv hs 5 rfl rfl hC (fun w hC => y_add rfl rfl) fun a hs => ?_
    refine gm hs 6 rfl rfl rfl hC fun a hs => ?_
    refine gm hs 7 rfl rfl rfl hC fun a hs => ?_
    refine gm hs 8 rfl rfl rfl hC fun a hs => ?_
    refine gv hs 9 rfl rfl hC (fun w hC => y_add rfl rfl) fun a hs => ?_
    refine gv hs 10 rfl rfl hC (fun w hC => y_indexAt Try.runUnderlying27 Try.sizeOf46 rfl rfl h373.1 h373.2 h374) fun a hs => ?_
    refine gm hs 12 rfl rfl rfl hC fun a hs => ?_
    refine gm hs 13 rfl rfl rfl hC fun a hs => ?_
    refine gv hs 14 rfl rfl hC (fun w hC => y_indexAt Try.runUnderlying27 Try.sizeOf46 rfl rfl h386.1 h386.2 h387) fun a hs => ?_
    refine h_all (rs := [11, 15]) (by kernel_rfl) rfl ?_
    refine AllH.cons rfl ?_ ?_
    ·refine sv hs (y_loadQA (j := 0) (hw.ownAt 0 rfl) rfl Try.isAgg46 Try.sizeOf46 h378 rfl rfl) rfl fun a hs => ?_
     refine h_nx (hw.cs [] [] rfl rfl) fun hC => ?_
     refine ho 15 rfl ?_
     refine sv hs (y_loadQA (j := 0) (hw.ownAt 0 rfl) rfl Try.isAgg46 Try.sizeOf46 h391 rfl rfl) rfl fun a hs => ?_
     refine h_nx (hw.cs [] [] rfl rfl) fun hC => ?_
     refine gv hs 16 rfl rfl hC (fun w hC => y_indexAt Try.runUnderlying27 Try.sizeOf46 rfl rfl h395.1 h395.2 h396) fun a hs => ?_
     refine ho 17 rfl ?_
     have h419 := hw.envAt 2 rfl
     refine w_storeF (α := Span) hs hw 0 rfl 1 rfl h396 rfl rfl Try.sizeOf46 rfl h401 ⟨_, _, rfl, rfl, rfl⟩ trivial ?_
     intro c403 a w hs hw
     have hw := hw.addE (e := LenA data1.length l402) (len_set (w := w) (S := S0) h419 h401)
     have h404 := setM_len h401
     try have hs := hs.fl 0 rfl h404
     try have hs := hs.fl 36 rfl h404
     try have hs := hs.fl 38 rfl h404
     try have hs := hs.fl 42 rfl h404
     try have hs := hs.fl 48 rfl h404
     refine h_nx (hw.cs [] [] rfl rfl) fun hC => ?_
     refine ho 18 rfl ?_
     obtain ⟨c412, h408, h413, h406⟩ := hw.elemRX (α := Span) 0 rfl 1 rfl h405
     obtain ⟨_, _, rfl, rfl, rfl⟩ := h406
     refine sv hs (y_indexAt Try.runUnderlying27 Try.sizeOf46 rfl rfl h408.1 h408.2 rfl) rfl fun a hs => ?_
     refine h_nx (hw.cs [] [] rfl rfl) fun hC => ?_
     refine ho 19 rfl ?_
     have h420 := hw.envAt 0 rfl
     refine w_storeF (α := Span) hs hw 0 rfl 1 rfl rfl rfl rfl Try.sizeOf46 rfl h414 ⟨_, _, rfl, rfl, rfl⟩ trivial ?_
     intro c416 a w hs hw
     have hw := hw.addE (e := LenA data1.length l415) (len_set (w := w) (S := S0) h420 h414)
     have h417 := setM_len h414
     try have hs := hs.fl 0 rfl h417
     try have hs := hs.fl 36 rfl h417
     try have hs := hs.fl 38 rfl h417
     try have hs := hs.fl 42 rfl h417
     try have hs := hs.fl 48 rfl h417
     refine h_nx (hw.cs [] [] rfl rfl) fun hC => ?_
     refine h_done (by kernel_rfl) ?_
     exact ⟨Sv236, c416, (hs.wk rfl), (hw.ft [0] [4, 1, 0] (by decide) rfl rfl)⟩
    refine AllH.cons rfl ?_ ?_
    ·refine sv hs (y_loadQA (j := 0) (hw.ownAt 0 rfl) rfl Try.isAgg46 Try.sizeOf46 h391 rfl rfl) rfl fun a hs => ?_
     refine h_nx (hw.cs [] [] rfl rfl) fun hC => ?_
     refine ho 11 rfl ?_
     refine sv hs (y_loadQA (j := 0) (hw.ownAt 0 rfl) rfl Try.isAgg46 Try.sizeOf46 h378 rfl rfl) rfl fun a hs => ?_
     refine h_nx (hw.cs [] [] rfl rfl) fun hC => ?_
     refine gv hs 16 rfl rfl hC (fun w hC => y_indexAt Try.runUnderlying27 Try.sizeOf46 rfl rfl h395.1 h395.2 h396) fun a hs => ?_
     refine ho 17 rfl ?_
     have h421 := hw.envAt 2 rfl
     refine w_storeF (α := Span) hs hw 0 rfl 1 rfl h396 rfl rfl Try.sizeOf46 rfl h401 ⟨_, _, rfl, rfl, rfl⟩ trivial ?_
     intro c403 a w hs hw
     have hw := hw.addE (e := LenA data1.length l402) (len_set (w := w) (S := S0) h421 h401)
     have h404 := setM_len h401
     try have hs := hs.fl 0 rfl h404
     try have hs := hs.fl 36 rfl h404
     try have hs := hs.fl 38 rfl h404
     try have hs := hs.fl 42 rfl h404
     try have hs := hs.fl 48 rfl h404
     refine h_nx (hw.cs [] [] rfl rfl) fun hC => ?_
     refine ho 18 rfl ?_
     obtain ⟨c412, h408, h413, h406⟩ := hw.elemRX (α := Span) 0 rfl 1 rfl h405
     obtain ⟨_, _, rfl, rfl, rfl⟩ := h406
     refine sv hs (y_indexAt Try.runUnderlying27 Try.sizeOf46 rfl rfl h408.1 h408.2 rfl) rfl fun a hs => ?_
     refine h_nx (hw.cs [] [] rfl rfl) fun hC => ?_
     refine ho 19 rfl ?_
     have h422 := hw.envAt 0 rfl
     refine w_storeF (α := Span) hs hw 0 rfl 1 rfl rfl rfl rfl Try.sizeOf46 rfl h414 ⟨_, _, rfl, rfl, rfl⟩ trivial ?_
     intro c416 a w hs hw
     have hw := hw.addE (e := LenA data1.length l415) (len_set (w := w) (S := S0) h422 h414)
     have h417 := setM_len h414
     try have hs := hs.fl 0 rfl h417
     try have hs := hs.fl 36 rfl h417
     try have hs := hs.fl 38 rfl h417
     try have hs := hs.fl 42 rfl h417
     try have hs := hs.fl 48 rfl h417
     refine h_nx (hw.cs [] [] rfl rfl) fun hC => ?_
     refine h_done (by kernel_rfl) ?_
     exact ⟨Sv236, c416, (hs.wk rfl), (hw.ft [0] [4, 1, 0] (by decide) rfl rfl)⟩
    exact AllH.nil
   rintro a w ⟨Sv418, c416, hs, hw⟩
   refine then_normal ?_
   refine wp_region_lit ?_
   refine mv hs rfl rfl fun a hs => ?_
   refine mv hs rfl rfl fun a hs => ?_
   refine mv hs rfl rfl fun a hs => ?_
   refine mv hs rfl rfl fun a hs => ?_
   refine mv hs rfl rfl fun a hs => ?_
   obtain ⟨rv424, h423, hsh⟩ := bind_t hsh
   refine st_callR hs (slices_siftDownCmpFunc_api_Span_ok h423 hw.dom (hw.ins [0] (by decide) rfl) (hw.envAt 1 rfl) (hw.envAt 0 rfl)) (do_call Try.call80 rfl) trivial rfl rfl ?_
   intro v431 Sv428 w a h429 h430 hs
   obtain ⟨c425, rfl, h432, h426, h427⟩ := h430
   have hw := hw.callO [0] [] (by decide) rfl h429 h432
   have hw := hw.addE (e := RowA c425 rv424) h426
   have hw := hw.addE (e := LenA data1.length rv424) ((hw.envAt 3 rfl).trans h427)
   have h433 := h427
   have h434 := Eq.symm h433
   try have hs := hs.fl 0 rfl h434
   try have hs := hs.fl 54 rfl h434
   refine wpList_nil ?_
   refine blk_normal ?_
   refine then_normal ?_
   refine wp_region_lit ?_
   refine mv hs rfl rfl fun a hs => ?_
   refine sv hs (y_sub rfl rfl) rfl fun a hs => ?_
   obtain ⟨i436, h435, hsh⟩ := bind_t hsh
   refine sv hs (y_assignI rfl h435) rfl fun a hs => ?_
   refine nl ?_
   exact ⟨_, (Option.some.inj hsh).symm, c425, Sv428, (hs.wk rfl), (hw.ft [0] [2, 1, 0] (by decide) rfl rfl)⟩
  have hsh := ite_f hsh h308
  refine wp_exit ?_
  refine then_exit ?_
  refine then_exit ?_
  refine blk_exit ?_
  have hsh := oi hsh
  subst hsh
  have h437 := hd301 _ rfl
  subst h437
  refine then_normal ?_
  exact ⟨c235, Sv236, (hs.wk rfl), (hw.ft [0] [1, 2] (by decide) rfl rfl)⟩
 rintro a w ⟨c305, Sv306, hs, hw⟩
 have hsh := oi hsh
 subst hsh
 exact ret0 hs rfl (hw.ret ⟨c305, rfl, (hw.outs [0] (by decide) rfl), (hw.envAt 0 rfl), (hw.envAt 1 rfl)⟩)

abbrev slices_order2CmpFunc_api_Span_rd (w0 : World) (X : List Nat) (b8 : Nat) (r : (Int × Int × Int)) : (Nat → Prop) → World → Value → Prop := fun S w v => v = .tuple #[.int .i64 r.1, .int .i64 r.2.1] ∧ Outs X w0 S w [.box b8 [.int .i64 r.2.2] 3]
set_option maxHeartbeats 4000000 in
set_option maxRecDepth 100000 in
theorem slices_order2CmpFunc_api_Span_ok {w0 : World} {S0 : Nat → Prop} {p2 : Option Addr} {k3 : Nat} {b8 : Nat} {g10 : Nat} {f11 : List Value} {cp12 : List Value} {data1 : (List Span)} {a5 : Int} {b6 : Int} {swaps7 : Int} {cmp9 : Span → Span → Option Int} {r : (Int × Int × Int)} (hsh : slices_order2CmpFunc_api_Span data1 a5 b6 swaps7 cmp9 = some r) (hS : ∀ b, S0 b → b < w0.heap.size) (hin : Ins S0 w0 [.box b8 [.int .i64 swaps7] 3]) (h4 : (SlA p2 data1.length k3 data1).p S0 w0) (h13 : (FnA2 Try.prog g10 f11 cp12 cmp9).p S0 w0) : Calls Try.prog 85 #[.slice p2 data1.length k3, .int .i64 a5, .int .i64 b6, .pointer (some ⟨b8, 0, none⟩), .func (.func g10) f11.toArray cp12.toArray] w0 (Ret (blks [.box b8 [.int .i64 swaps7] 3]) w0 S0 (slices_order2CmpFunc_api_Span_rd w0 (blks [.box b8 [.int .i64 swaps7] 3]) b8 r)) := by
 refine calls_of_wp Try.func85 rfl ?_
 have hs := Sl.enter #[.slice p2 data1.length k3, .int .i64 a5, .int .i64 b6, .pointer (some ⟨b8, 0, none⟩), .func (.func g10) f11.toArray cp12.toArray] 32 [(0, .slice p2 data1.length k3), (1, .int .i64 a5), (2, .int .i64 b6), (3, .pointer (some ⟨b8, 0, none⟩)), (4, .func (.func g10) f11.toArray cp12.toArray)] rfl ⟨rfl, rfl, rfl, rfl, rfl, trivial⟩
 have hw := Wd.enterI hS hin
 have hw := hw.addE h4
 have hw := hw.addE h13
 delta slices_order2CmpFunc_api_Span at hsh
 refine sr ?_
 refine av hs rfl rfl fun a hs => ?_
 refine av hs rfl rfl fun a hs => ?_
 refine nl ?_
 refine wp_seq ?_
 refine wp_seq ?_
 obtain ⟨x16, h14, hsh⟩ := bind_t hsh
 obtain ⟨b22, o23, q20, c21, h24, h17, h18, h19, h15⟩ := hw.elemV 1 rfl h14
 have hsv25 := hs
 have hwv26 := hw
 subst h24
 have hs := hsv25
 have hw := hwv26
 obtain ⟨_, _, rfl, rfl, rfl⟩ := h15
 have hw := hw.addE h19
 obtain ⟨x29, h27, hsh⟩ := bind_t hsh
 obtain ⟨q33, c34, h30, h31, h32, h28⟩ := hw.elemK 2 rfl h27
 obtain ⟨_, _, rfl, rfl, rfl⟩ := h28
 have hw := hw.addE h32
 obtain ⟨rv36, h35, hsh⟩ := bind_t hsh
 refine wp_only (fun a w => ∃ (Sv37 : Nat → Prop), Sl 32 [(1, .int .i64 a5), (2, .int .i64 b6), (3, .pointer (some ⟨b8, 0, none⟩)), (22, .bool (decide (rv36 < 0)))] a ∧ Wd ⟨w0, S0, blks [.box b8 [.int .i64 swaps7] 3]⟩ Sv37 [.box b8 [.int .i64 swaps7] 3] [] w) ?_ ?_
 ·refine h_b (C := Cls [.box b8 [.int .i64 swaps7] 3] [CeA b22 q33 [.int .i64 x29.From, .int .i64 x29.To], CeA b22 q20 [.int .i64 x16.From, .int .i64 x16.To]]) (by kernel_rfl) rfl (hw.drew.cs [0] [0, 1] rfl rfl) fun hC => ?_
  have hw := hw.drew
  refine gm hs 0 rfl rfl rfl hC fun a hs => ?_
  refine gm hs 1 rfl rfl rfl hC fun a hs => ?_
  refine gm hs 2 rfl rfl rfl hC fun a hs => ?_
  refine gv hs 3 rfl rfl hC (fun w hC => y_indexAt Try.runUnderlying27 Try.sizeOf46 rfl rfl h17.1 h17.2 h18) fun a hs => ?_
  refine gv hs 4 rfl rfl hC (fun w hC => y_loadEA (j := 0) (hC.ceAt 1 rfl) rfl Try.isAgg46 Try.sizeOf46 rfl rfl) fun a hs => ?_
  refine gm hs 5 rfl rfl rfl hC fun a hs => ?_
  refine gm hs 6 rfl rfl rfl hC fun a hs => ?_
  refine gv hs 7 rfl rfl hC (fun w hC => y_indexAt Try.runUnderlying27 Try.sizeOf46 rfl rfl h30.1 h30.2 h31) fun a hs => ?_
  refine gv hs 8 rfl rfl hC (fun w hC => y_loadEA (j := 0) (hC.ceAt 0 rfl) rfl Try.isAgg46 Try.sizeOf46 rfl rfl) fun a hs => ?_
  refine ho 9 rfl ?_
  refine st_callR hs ((hw.bE 2 rfl).2 Keep.rfl' hw.bdom ⟨_, _, rfl, rfl, rfl⟩ ⟨_, _, rfl, rfl, rfl⟩ h35) (do_callF (hw.bE 2 rfl).1 rfl rfl) trivial rfl rfl ?_
  intro v41 Sv38 w a h39 h40 hs
  subst h40
  have hw := hw.callB h39
  refine h_nx (hw.cs [0] [0, 1] rfl rfl) fun hC => ?_
  refine gv hs 10 rfl rfl hC (fun w hC => y_lss rfl rfl) fun a hs => ?_
  refine h_done (by kernel_rfl) ?_
  exact ⟨S0, (hs.wk rfl), (hw.ft [0] [] (by decide) rfl rfl)⟩
 rintro a w ⟨Sv37, hs, hw⟩
 refine then_normal ?_
 refine wp_cond_split (hs.ev rfl) (fun h43 => ?_) (fun h43 => ?_)
 ·have hsh := ite_t hsh h43
  refine sr ?_
  refine mv hs rfl rfl fun a hs => ?_
  refine sv hs (y_nilCheck rfl) rfl fun a hs => ?_
  refine sv hs (y_loadB1 (hw.ownAt 0 rfl) rfl Try.isAgg3 rfl) rfl fun a hs => ?_
  refine sv hs (y_add rfl rfl) rfl fun a hs => ?_
  refine sv hs (y_nilCheck rfl) rfl fun a hs => ?_
  refine w_store (m := 1) (cs' := [.int .i64 (w64 (swaps7 + 1))]) hs hw 0 rfl rfl rfl Try.sizeOf3 rfl rfl rfl rfl trivial ?_
  intro a w hs hw
  refine nl ?_
  refine sr ?_
  refine mv hs rfl rfl fun a hs => ?_
  refine mv hs rfl rfl fun a hs => ?_
  refine av hs rfl rfl fun a hs => ?_
  refine av hs rfl rfl fun a hs => ?_
  refine nl ?_
  have hsh := oi hsh
  subst hsh
  refine wp_ret ?_
  refine then_ret ?_
  exact ret2 hs rfl (rv_tmp rfl) (rv_tmp rfl) (hw.ret ⟨rfl, (hw.outs [0] (by decide) rfl)⟩)
 have hsh := ite_f hsh h43
 refine wp_skip ?_
 refine then_normal ?_
 refine sr ?_
 refine mv hs rfl rfl fun a hs => ?_
 refine mv hs rfl rfl fun a hs => ?_
 refine av hs rfl rfl fun a hs => ?_
 refine av hs rfl rfl fun a hs => ?_
 refine nl ?_
 have hsh := oi hsh
 subst hsh
 refine wp_ret ?_
 exact ret2 hs rfl (rv_tmp rfl) (rv_tmp rfl) (hw.ret ⟨rfl, (hw.outs [0] (by decide) rfl)⟩)

abbrev slices_medianCmpFunc_api_Span_rd (w0 : World) (X : List Nat) (b9 : Nat) (r : (Int × Int)) : (Nat → Prop) → World → Value → Prop := fun S w v => v = .int .i64 r.1 ∧ Outs X w0 S w [.box b9 [.int .i64 r.2] 3]
set_option maxHeartbeats 4000000 in
set_option maxRecDepth 100000 in
theorem slices_medianCmpFunc_api_Span_ok {w0 : World} {S0 : Nat → Prop} {p2 : Option Addr} {k3 : Nat} {b9 : Nat} {g11 : Nat} {f12 : List Value} {cp13 : List Value} {data1 : (List Span)} {a5 : Int} {b6 : Int} {c7 : Int} {swaps8 : Int} {cmp10 : Span → Span → Option Int} {r : (Int × Int)} (hsh : slices_medianCmpFunc_api_Span data1 a5 b6 c7 swaps8 cmp10 = some r) (hS : ∀ b, S0 b → b < w0.heap.size) (hin : Ins S0 w0 [.box b9 [.int .i64 swaps8] 3]) (h4 : (SlA p2 data1.length k3 data1).p S0 w0) (h14 : (FnA2 Try.prog g11 f12 cp13 cmp10).p S0 w0) : Calls Try.prog 84 #[.slice p2 data1.length k3, .int .i64 a5, .int .i64 b6, .int .i64 c7, .pointer (some ⟨b9, 0, none⟩), .func (.func g11) f12.toArray cp13.toArray] w0 (Ret (blks [.box b9 [.int .i64 swaps8] 3]) w0 S0 (slices_medianCmpFunc_api_Span_rd w0 (blks [.box b9 [.int .i64 swaps8] 3]) b9 r)) := by
 refine calls_of_wp Try.func84 rfl ?_
 have hs := Sl.enter #[.slice p2 data1.length k3, .int .i64 a5, .int .i64 b6, .int .i64 c7, .pointer (some ⟨b9, 0, none⟩), .func (.func g11) f12.toArray cp13.toArray] 41 [(0, .slice p2 data1.length k3), (1, .int .i64 a5), (2, .int .i64 b6), (3, .int .i64 c7), (4, .pointer (some ⟨b9, 0, none⟩)), (5, .func (.func g11) f12.toArray cp13.toArray)] rfl ⟨rfl, rfl, rfl, rfl, rfl, rfl, trivial⟩
 have hw := Wd.enterI hS hin
 have hw := hw.addE h4
 have hw := hw.addE h14
 delta slices_medianCmpFunc_api_Span at hsh
 refine sr ?_
 refine av hs rfl rfl fun a hs => ?_
 refine nl ?_
 refine sr ?_
 refine mv hs rfl rfl fun a hs => ?_
 refine mv hs rfl rfl fun a hs => ?_
 refine mv hs rfl rfl fun a hs => ?_
 refine mv hs rfl rfl fun a hs => ?_
 refine mv hs rfl rfl fun a hs => ?_
 obtain ⟨rv16, h15, hsh⟩ := bind_t hsh
 refine st_callR hs (slices_order2CmpFunc_api_Span_ok h15 hw.dom (hw.ins [0] (by decide) rfl) (hw.envAt 1 rfl) (hw.envAt 0 rfl)) (do_call Try.call85 rfl) trivial rfl rfl ?_
 intro v20 Sv17 w a h18 h19 hs
 obtain ⟨rfl, h21⟩ := h19
 have hw := hw.callO [0] [] (by decide) rfl h18 h21
 refine mv hs rfl rfl fun a hs => ?_
 refine sv hs (y_extract rfl rfl) rfl fun a hs => ?_
 refine sv hs (y_extract rfl rfl) rfl fun a hs => ?_
 refine av hs rfl rfl fun a hs => ?_
 refine av hs rfl rfl fun a hs => ?_
 refine nl ?_
 refine sr ?_
 refine mv hs rfl rfl fun a hs => ?_
 refine mv hs rfl rfl fun a hs => ?_
 refine mv hs rfl rfl fun a hs => ?_
 refine mv hs rfl rfl fun a hs => ?_
 refine mv hs rfl rfl fun a hs => ?_
 obtain ⟨rv23, h22, hsh⟩ := bind_t hsh
 refine st_callR hs (slices_order2CmpFunc_api_Span_ok h22 hw.dom (hw.ins [0] (by decide) rfl) (hw.envAt 1 rfl) (hw.envAt 0 rfl)) (do_call Try.call85 rfl) trivial rfl rfl ?_
 intro v27 Sv24 w a h25 h26 hs
 obtain ⟨rfl, h28⟩ := h26
 have hw := hw.callO [0] [] (by decide) rfl h25 h28
 refine mv hs rfl rfl fun a hs => ?_
 refine sv hs (y_extract rfl rfl) rfl fun a hs => ?_
 refine sv hs (y_extract rfl rfl) rfl fun a hs => ?_
 refine av hs rfl rfl fun a hs => ?_
 refine av hs rfl rfl fun a hs => ?_
 refine nl ?_
 refine sr ?_
 refine mv hs rfl rfl fun a hs => ?_
 refine mv hs rfl rfl fun a hs => ?_
 refine mv hs rfl rfl fun a hs => ?_
 refine mv hs rfl rfl fun a hs => ?_
 refine mv hs rfl rfl fun a hs => ?_
 obtain ⟨rv30, h29, hsh⟩ := bind_t hsh
 refine st_callR hs (slices_order2CmpFunc_api_Span_ok h29 hw.dom (hw.ins [0] (by decide) rfl) (hw.envAt 1 rfl) (hw.envAt 0 rfl)) (do_call Try.call85 rfl) trivial rfl rfl ?_
 intro v34 Sv31 w a h32 h33 hs
 obtain ⟨rfl, h35⟩ := h33
 have hw := hw.callO [0] [] (by decide) rfl h32 h35
 refine mv hs rfl rfl fun a hs => ?_
 refine sv hs (y_extract rfl rfl) rfl fun a hs => ?_
 refine sv hs (y_extract rfl rfl) rfl fun a hs => ?_
 refine av hs rfl rfl fun a hs => ?_
 refine av hs rfl rfl fun a hs => ?_
 refine nl ?_
 refine sr ?_
 refine mv hs rfl rfl fun a hs => ?_
 refine av hs rfl rfl fun a hs => ?_
 refine nl ?_
 have hsh := oi hsh
 subst hsh
 refine wp_ret ?_
 exact ret1 hs rfl (rv_tmp rfl) (hw.ret ⟨rfl, (hw.outs [0] (by decide) rfl)⟩)

abbrev slices_medianAdjacentCmpFunc_api_Span_rd (w0 : World) (X : List Nat) (b7 : Nat) (r : (Int × Int)) : (Nat → Prop) → World → Value → Prop := fun S w v => v = .int .i64 r.1 ∧ Outs X w0 S w [.box b7 [.int .i64 r.2] 3]
set_option maxHeartbeats 4000000 in
set_option maxRecDepth 100000 in
theorem slices_medianAdjacentCmpFunc_api_Span_ok {w0 : World} {S0 : Nat → Prop} {p2 : Option Addr} {k3 : Nat} {b7 : Nat} {g9 : Nat} {f10 : List Value} {cp11 : List Value} {data1 : (List Span)} {a5 : Int} {swaps6 : Int} {cmp8 : Span → Span → Option Int} {r : (Int × Int)} (hsh : slices_medianAdjacentCmpFunc_api_Span data1 a5 swaps6 cmp8 = some r) (hS : ∀ b, S0 b → b < w0.heap.size) (hin : Ins S0 w0 [.box b7 [.int .i64 swaps6] 3]) (h4 : (SlA p2 data1.length k3 data1).p S0 w0) (h12 : (FnA2 Try.prog g9 f10 cp11 cmp8).p S0 w0) : Calls Try.prog 83 #[.slice p2 data1.length k3, .int .i64 a5, .pointer (some ⟨b7, 0, none⟩), .func (.func g9) f10.toArray cp11.toArray] w0 (Ret (blks [.box b7 [.int .i64 swaps6] 3]) w0 S0 (slices_medianAdjacentCmpFunc_api_Span_rd w0 (blks [.box b7 [.int .i64 swaps6] 3]) b7 r)) := by
 refine calls_of_wp Try.func83 rfl ?_
 have hs := Sl.enter #[.slice p2 data1.length k3, .int .i64 a5, .pointer (some ⟨b7, 0, none⟩), .func (.func g9) f10.toArray cp11.toArray] 18 [(0, .slice p2 data1.length k3), (1, .int .i64 a5), (2, .pointer (some ⟨b7, 0, none⟩)), (3, .func (.func g9) f10.toArray cp11.toArray)] rfl ⟨rfl, rfl, rfl, rfl, trivial⟩
 have hw := Wd.enterI hS hin
 have hw := hw.addE h4
 have hw := hw.addE h12
 delta slices_medianAdjacentCmpFunc_api_Span at hsh
 refine sr ?_
 refine av hs rfl rfl fun a hs => ?_
 refine nl ?_
 refine sr ?_
 refine mv hs rfl rfl fun a hs => ?_
 refine mv hs rfl rfl fun a hs => ?_
 refine sv hs (y_sub rfl rfl) rfl fun a hs => ?_
 refine mv hs rfl rfl fun a hs => ?_
 refine mv hs rfl rfl fun a hs => ?_
 refine sv hs (y_add rfl rfl) rfl fun a hs => ?_
 refine mv hs rfl rfl fun a hs => ?_
 refine mv hs rfl rfl fun a hs => ?_
 obtain ⟨rv14, h13, hsh⟩ := bind_t hsh
 refine st_callR hs (slices_medianCmpFunc_api_Span_ok h13 hw.dom (hw.ins [0] (by decide) rfl) (hw.envAt 1 rfl) (hw.envAt 0 rfl)) (do_call Try.call84 rfl) trivial rfl rfl ?_
 intro v18 Sv15 w a h16 h17 hs
 obtain ⟨rfl, h19⟩ := h17
 have hw := hw.callO [0] [] (by decide) rfl h16 h19
 refine av hs rfl rfl fun a hs => ?_
 refine nl ?_
 have hsh := oi hsh
 subst hsh
 refine wp_ret ?_
 exact ret1 hs rfl (rv_tmp rfl) (hw.ret ⟨rfl, (hw.outs [0] (by decide) rfl)⟩)

abbrev slices_choosePivotCmpFunc_api_Span_rd (w0 : World) (X : List Nat) (r : (Int × Int)) : (Nat → Prop) → World → Value → Prop := fun S w v => v = .tuple #[.int .i64 r.1, .int .i64 r.2]
set_option maxHeartbeats 4000000 in
set_option maxRecDepth 100000 in
theorem slices_choosePivotCmpFunc_api_Span_ok {w0 : World} {S0 : Nat → Prop} {p2 : Option Addr} {k3 : Nat} {g8 : Nat} {f9 : List Value} {cp10 : List Value} {data1 : (List Span)} {a5 : Int} {b6 : Int} {cmp7 : Span → Span → Option Int} {r : (Int × Int)} (hsh : slices_choosePivotCmpFunc_api_Span data1 a5 b6 cmp7 = some r) (hS : ∀ b, S0 b → b < w0.heap.size) (h4 : (SlA p2 data1.length k3 data1).p S0 w0) (h11 : (FnA2 Try.prog g8 f9 cp10 cmp7).p S0 w0) : Calls Try.prog 73 #[.slice p2 data1.length k3, .int .i64 a5, .int .i64 b6, .func (.func g8) f9.toArray cp10.toArray] w0 (Ret ([]) w0 S0 (slices_choosePivotCmpFunc_api_Span_rd w0 ([]) r)) := by
 refine calls_of_wp Try.func73 rfl ?_
 have hs := Sl.enter #[.slice p2 data1.length k3, .int .i64 a5, .int .i64 b6, .func (.func g8) f9.toArray cp10.toArray] 63 [(0, .slice p2 data1.length k3), (1, .int .i64 a5), (2, .int .i64 b6), (3, .func (.func g8) f9.toArray cp10.toArray)] rfl ⟨rfl, rfl, rfl, rfl, trivial⟩
 have hw := Wd.enter (E := []) hS (fun _ h => (by cases h))
 have hw := hw.addE h4
 have hw := hw.addE h11
 delta slices_choosePivotCmpFunc_api_Span at hsh
 refine sr ?_
 refine av hs rfl rfl fun a hs => ?_
 refine av hs rfl rfl fun a hs => ?_
 refine nl ?_
 refine sr ?_
 refine mv hs rfl rfl fun a hs => ?_
 refine mv hs rfl rfl fun a hs => ?_
 refine sv hs (y_sub rfl rfl) rfl fun a hs => ?_
 obtain ⟨l13, h12, hsh⟩ := bind_t hsh
 refine sv hs (y_assignI rfl h12) rfl fun a hs => ?_
 refine nl ?_
 refine sr ?_
 refine w_alloc (cs := [.int .i64 0]) hs hw Try.zeroValue3 rfl rfl trivial ?_
 intro b14 a w hs hw
 refine nl ?_
 refine sr ?_
 refine mv hs rfl rfl fun a hs => ?_
 refine mv hs rfl rfl fun a hs => ?_
 refine sv hs (y_quo rfl rfl (by decide)) rfl fun a hs => ?_
 refine sv hs (y_mul rfl rfl) rfl fun a hs => ?_
 refine sv hs (y_add rfl rfl) rfl fun a hs => ?_
 obtain ⟨i16, h15, hsh⟩ := bind_t hsh
 refine sv hs (y_assignI rfl h15) rfl fun a hs => ?_
 refine nl ?_
 refine sr ?_
 refine mv hs rfl rfl fun a hs => ?_
 refine mv hs rfl rfl fun a hs => ?_
 refine sv hs (y_quo rfl rfl (by decide)) rfl fun a hs => ?_
 refine sv hs (y_mul rfl rfl) rfl fun a hs => ?_
 refine sv hs (y_add rfl rfl) rfl fun a hs => ?_
 obtain ⟨j18, h17, hsh⟩ := bind_t hsh
 refine sv hs (y_assignI rfl h17) rfl fun a hs => ?_
 refine nl ?_
 refine sr ?_
 refine mv hs rfl rfl fun a hs => ?_
 refine mv hs rfl rfl fun a hs => ?_
 refine sv hs (y_quo rfl rfl (by decide)) rfl fun a hs => ?_
 refine sv hs (y_mul rfl rfl) rfl fun a hs => ?_
 refine sv hs (y_add rfl rfl) rfl fun a hs => ?_
 obtain ⟨k20, h19, hsh⟩ := bind_t hsh
 refine sv hs (y_assignI rfl h19) rfl fun a hs => ?_
 refine nl ?_
 refine wp_seq ?_
 refine sr ?_
 refine mv hs rfl rfl fun a hs => ?_
 refine sv hs (y_geq rfl rfl) rfl fun a hs => ?_
 refine nl ?_
 refine wp_join (fun a w => ∃ (x57 : Int) (j58 : Int) (Sv56 : Nat → Prop), slices_choosePivotCmpFunc_api_Span_j1 x57 j58 = some r ∧ Sl 63 [(11, .pointer (some ⟨b14, 0, none⟩)), (13, .int .i64 j58)] a ∧ Wd ⟨w0, S0, []⟩ Sv56 [.box b14 [.int .i64 x57] 3] [] w) ?_ ?_
 ·refine wp_cond_split (hs.ev rfl) (fun h66 => ?_) (fun h66 => ?_)
  ·have hsh := ite_t hsh h66
   refine wp_seq ?_
   refine sr ?_
   refine mv hs rfl rfl fun a hs => ?_
   refine sv hs (y_geq rfl rfl) rfl fun a hs => ?_
   refine nl ?_
   refine wp_join (fun a w => ∃ (x90 : Int) (i91 : Int) (j92 : Int) (k93 : Int) (Sv89 : Nat → Prop), slices_choosePivotCmpFunc_api_Span_j2 data1 cmp7 x90 i91 j92 k93 = some r ∧ Sl 63 [(0, .slice p2 data1.length k3), (3, .func (.func g8) f9.toArray cp10.toArray), (11, .pointer (some ⟨b14, 0, none⟩)), (12, .int .i64 i91), (13, .int .i64 j92), (14, .int .i64 k93)] a ∧ Wd ⟨w0, S0, []⟩ Sv89 [.box b14 [.int .i64 x90] 3] [SlA p2 data1.length k3 data1, FnA2 Try.prog g8 f9 cp10 cmp7] w) ?_ ?_
   ·refine wp_cond_split (hs.ev rfl) (fun h101 => ?_) (fun h101 => ?_)
    ·have hsh := ite_t hsh h101
     refine sr ?_
     refine mv hs rfl rfl fun a hs => ?_
     refine mv hs rfl rfl fun a hs => ?_
     refine mv hs rfl rfl fun a hs => ?_
     obtain ⟨rv103, h102, hsh⟩ := bind_t hsh
     refine st_callR hs (slices_medianAdjacentCmpFunc_api_Span_ok h102 hw.dom (hw.ins [0] (by decide) rfl) (hw.envAt 1 rfl) (hw.envAt 0 rfl)) (do_call Try.call83 rfl) trivial rfl rfl ?_
     intro v107 Sv104 w a h105 h106 hs
     obtain ⟨rfl, h108⟩ := h106
     have hw := hw.callO [0] [] (by decide) rfl h105 h108
     refine av hs rfl rfl fun a hs => ?_
     refine nl ?_
     refine sr ?_
     refine mv hs rfl rfl fun a hs => ?_
     refine mv hs rfl rfl fun a hs => ?_
     refine mv hs rfl rfl fun a hs => ?_
     obtain ⟨rv110, h109, hsh⟩ := bind_t hsh
     refine st_callR hs (slices_medianAdjacentCmpFunc_api_Span_ok h109 hw.dom (hw.ins [0] (by decide) rfl) (hw.envAt 1 rfl) (hw.envAt 0 rfl)) (do_call Try.call83 rfl) trivial rfl rfl ?_
     intro v114 Sv111 w a h112 h113 hs
     obtain ⟨rfl, h115⟩ := h113
     have hw := hw.callO [0] [] (by decide) rfl h112 h115
     refine av hs rfl rfl fun a hs => ?_
     refine nl ?_
     refine wp_region_lit ?_
     refine mv hs rfl rfl fun a hs => ?_
     refine mv hs rfl rfl fun a hs => ?_
     refine mv hs rfl rfl fun a hs => ?_
     obtain ⟨rv117, h116, hsh⟩ := bind_t hsh
     refine st_callR hs (slices_medianAdjacentCmpFunc_api_Span_ok h116 hw.dom (hw.ins [0] (by decide) rfl) (hw.envAt 1 rfl) (hw.envAt 0 rfl)) (do_call Try.call83 rfl) trivial rfl rfl ?_
     intro v121 Sv118 w a h119 h120 hs
     obtain ⟨rfl, h122⟩ := h120
     have hw := hw.callO [0] [] (by decide) rfl h119 h122
     refine av hs rfl rfl fun a hs => ?_
     refine nl ?_
     exact ⟨rv117.2, rv103.1, rv110.1, rv117.1, Sv118, hsh, (hs.wk rfl), (hw.ft [0] [1, 0] (by decide) rfl rfl)⟩
    have hsh := ite_f hsh h101
    refine wp_skip ?_
    refine then_normal ?_
    exact ⟨0, i16, j18, k20, S0, hsh, (hs.wk rfl), (hw.ft [0] [1, 0] (by decide) rfl rfl)⟩
   rintro a w ⟨x90, i91, j92, k93, Sv89, hsh, hs, hw⟩
   delta slices_choosePivotCmpFunc_api_Span_j2 at hsh
   refine then_normal ?_
   refine wp_region_lit ?_
   refine mv hs rfl rfl fun a hs => ?_
   refine mv hs rfl rfl fun a hs => ?_
   refine mv hs rfl rfl fun a hs => ?_
   refine mv hs rfl rfl fun a hs => ?_
   refine mv hs rfl rfl fun a hs => ?_
   obtain ⟨rv95, h94, hsh⟩ := bind_t hsh
   refine st_callR hs (slices_medianCmpFunc_api_Span_ok h94 hw.dom (hw.ins [0] (by decide) rfl) (hw.envAt 0 rfl) (hw.envAt 1 rfl)) (do_call Try.call84 rfl) trivial rfl rfl ?_
   intro v99 Sv96 w a h97 h98 hs
   obtain ⟨rfl, h100⟩ := h98
   have hw := hw.callO [0] [] (by decide) rfl h97 h100
   refine av hs rfl rfl fun a hs => ?_
   refine nl ?_
   exact ⟨rv95.2, rv95.1, Sv96, hsh, (hs.wk rfl), (hw.ft [0] [] (by decide) rfl rfl)⟩
  have hsh := ite_f hsh h66
  refine wp_skip ?_
  refine then_normal ?_
  exact ⟨0, j18, S0, hsh, (hs.wk rfl), (hw.ft [0] [] (by decide) rfl rfl)⟩
 rintro a w ⟨x57, j58, Sv56, hsh, hs, hw⟩
 delta slices_choosePivotCmpFunc_api_Span_j1 at hsh
 refine then_normal ?_
 refine sr ?_
 refine sv hs (y_loadB1 (hw.ownAt 0 rfl) rfl Try.isAgg3 rfl) rfl fun a hs => ?_
 refine nl ?_
 refine wp_block ?_
 refine sr ?_
 refine sv hs (y_eql rfl rfl) rfl fun a hs => ?_
 refine av hs rfl rfl fun a hs => ?_
 refine nl ?_
 refine wp_cond_split (hs.ev rfl) (fun h63 => ?_) (fun h63 => ?_)
 ·have hsh := ite_t hsh h63
  refine sr ?_
  refine mv hs rfl rfl fun a hs => ?_
  refine av hs rfl rfl fun a hs => ?_
  refine av hs rfl rfl fun a hs => ?_
  refine nl ?_
  have hsh := oi hsh
  subst hsh
  refine wp_ret ?_
  refine blk_ret ?_
  exact ret2 hs rfl (rv_tmp rfl) (rv_tmp rfl) (hw.ret rfl)
 have hsh := ite_f hsh h63
 refine sr ?_
 refine sv hs (y_eql rfl rfl) rfl fun a hs => ?_
 refine av hs rfl rfl fun a hs => ?_
 refine nl ?_
 refine wp_cond_split (hs.ev rfl) (fun h65 => ?_) (fun h65 => ?_)
 ·have hsh := ite_t hsh h65
  refine sr ?_
  refine mv hs rfl rfl fun a hs => ?_
  refine av hs rfl rfl fun a hs => ?_
  refine av hs rfl rfl fun a hs => ?_
  refine nl ?_
  have hsh := oi hsh
  subst hsh
  refine wp_ret ?_
  refine blk_ret ?_
  exact ret2 hs rfl (rv_tmp rfl) (rv_tmp rfl) (hw.ret rfl)
 have hsh := ite_f hsh h65
 refine sr ?_
 refine mv hs rfl rfl fun a hs => ?_
 refine av hs rfl rfl fun a hs => ?_
 refine av hs rfl rfl fun a hs => ?_
 refine nl ?_
 have hsh := oi hsh
 subst hsh
 refine wp_ret ?_
 refine blk_ret ?_
 exact ret2 hs rfl (rv_tmp rfl) (rv_tmp rfl) (hw.ret rfl)

abbrev slices_reverseRangeCmpFunc_api_Span_rd (w0 : World) (X : List Nat) (p2 : Option Addr) (k3 : Nat) (data1 : (List Span)) (r : (List Span)) : (Nat → Prop) → World → Value → Prop := fun S w v => ∃ (ck_0 : List Value), v = .tuple #[] ∧ Outs X w0 S w [.row p2 r.length k3 ck_0 46 2] ∧ (RowA ck_0 r).p S w ∧ (LenA data1.length r).p S w
set_option maxHeartbeats 4000000 in
set_option maxRecDepth 100000 in
theorem slices_reverseRangeCmpFunc_api_Span_ok {w0 : World} {S0 : Nat → Prop} {p2 : Option Addr} {k3 : Nat} {c4 : List Value} {g9 : Nat} {f10 : List Value} {cp11 : List Value} {data1 : (List Span)} {a6 : Int} {b7 : Int} {cmp8 : Span → Span → Option Int} {r : (List Span)} (hsh : slices_reverseRangeCmpFunc_api_Span data1 a6 b7 cmp8 = some r) (hS : ∀ b, S0 b → b < w0.heap.size) (hin : Ins S0 w0 [.row p2 data1.length k3 c4 46 2]) (h5 : (RowA c4 data1).p S0 w0) (h12 : (FnA2 Try.prog g9 f10 cp11 cmp8).p S0 w0) : Calls Try.prog 74 #[.slice p2 data1.length k3, .int .i64 a6, .int .i64 b7, .func (.func g9) f10.toArray cp11.toArray] w0 (Ret (blks [.row p2 data1.length k3 c4 46 2]) w0 S0 (slices_reverseRangeCmpFunc_api_Span_rd w0 (blks [.row p2 data1.length k3 c4 46 2]) p2 k3 data1 r)) := by
 refine calls_of_wp Try.func74 rfl ?_
 have hs := Sl.enter #[.slice p2 data1.length k3, .int .i64 a6, .int .i64 b7, .func (.func g9) f10.toArray cp11.toArray] 34 [(0, .slice p2 data1.length k3), (1, .int .i64 a6), (2, .int .i64 b7), (3, .func (.func g9) f10.toArray cp11.toArray)] rfl ⟨rfl, rfl, rfl, rfl, trivial⟩
 have hw := Wd.enterI hS hin
 have hw := hw.addE h5
 have hw := hw.addE (e := LenA data1.length data1) len_rfl
 have hw := hw.addE h12
 delta slices_reverseRangeCmpFunc_api_Span at hsh
 refine sr ?_
 refine mv hs rfl rfl fun a hs => ?_
 refine av hs rfl rfl fun a hs => ?_
 refine nl ?_
 refine sr ?_
 refine mv hs rfl rfl fun a hs => ?_
 refine sv hs (y_sub rfl rfl) rfl fun a hs => ?_
 obtain ⟨j14, h13, hsh⟩ := bind_t hsh
 refine sv hs (y_assignI rfl h13) rfl fun a hs => ?_
 refine nl ?_
 obtain ⟨e185, h301, hsh⟩ := bind_t hsh
 refine wp_join (fun a w => ∃ (c186 : List Value) (Sv187 : Nat → Prop), Sl 34 [] a ∧ Wd ⟨w0, S0, blks [.row p2 data1.length k3 c4 46 2]⟩ Sv187 [.row p2 e185.length k3 c186 46 2] [RowA c186 e185, LenA data1.length e185] w) ?_ ?_
 ·refine wp_block ?_
  refine wp_while (fun sv15 a w => ∃ (c126 : List Value) (Sv127 : Nat → Prop), Sl 34 [(0, .slice p2 sv15.1.length k3), (8, .int .i64 sv15.2.1), (9, .int .i64 sv15.2.2)] a ∧ Wd ⟨w0, S0, blks [.row p2 data1.length k3 c4 46 2]⟩ Sv127 [.row p2 sv15.1.length k3 c126 46 2] [RowA c126 sv15.1, LenA data1.length sv15.1] w) (data1, a6, j14) h301 ⟨c4, S0, (hs.wk rfl), (hw.ft [0] [2, 1] (by decide) rfl rfl)⟩ ?_
  clear h301
  repeat clear hsh
  rintro sv15 a w tv183 ⟨c126, Sv127, hs, hw⟩ hsh hd182
  delta slices_reverseRangeCmpFunc_api_Span_l1 at hsh
  refine wp_seq ?_
  refine sr ?_
  refine mv hs rfl rfl fun a hs => ?_
  refine mv hs rfl rfl fun a hs => ?_
  refine sv hs (y_lss rfl rfl) rfl fun a hs => ?_
  refine nl ?_
  refine wp_cond_split (hs.ev rfl) (fun h189 => ?_) (fun h189 => ?_)
  ·have hsh := ite_t hsh h189
   refine wp_skip ?_
   refine then_normal ?_
   refine wp_block ?_
   refine wp_seq ?_
   obtain ⟨x245, h243, hsh⟩ := bind_t hsh
   obtain ⟨b252, q249, c250, h253, h246, h247, h251, h244⟩ := hw.elemRV (α := Span) 0 rfl 0 rfl h243
   have hsv254 := hs
   have hwv255 := hw
   subst h253
   have hs := hsv254
   have hw := hwv255
   obtain ⟨_, _, rfl, rfl, rfl⟩ := h244
   obtain ⟨x258, h256, hsh⟩ := bind_t hsh
   obtain ⟨q262, c263, h259, h260, h264, h257⟩ := hw.elemRK (α := Span) 0 rfl 0 rfl h256
   obtain ⟨_, _, rfl, rfl, rfl⟩ := h257
   obtain ⟨x267, h265, hsh⟩ := bind_t hsh
   obtain ⟨q271, c272, h268, h269, h273, h266⟩ := hw.elemRK (α := Span) 0 rfl 0 rfl h265
   obtain ⟨_, _, rfl, rfl, rfl⟩ := h266
   obtain ⟨l275, h274, hsh⟩ := bind_t hsh
   obtain ⟨x280, h278, hsh⟩ := bind_t hsh
   obtain ⟨l288, h287, hsh⟩ := bind_t hsh
   refine wp_only (fun a w => ∃ (Sv291 : Nat → Prop) (c289 : List Value), Sl 34 [(0, .slice (some ⟨b252, 0, none⟩) l288.length k3), (8, .int .i64 sv15.2.1), (9, .int .i64 sv15.2.2)] a ∧ Wd ⟨w0, S0, blks [.row (some ⟨b252, 0, none⟩) data1.length k3 c4 46 2]⟩ Sv291 [.row (some ⟨b252, 0, none⟩) l288.length k3 c289 46 2] [RowA c289 l288, LenA data1.length l288] w) ?_ ?_
   ·refine h_b (C := Cls [] []) (by kernel_rfl) rfl (hw.drew.cs [] [] rfl rfl) fun hC => ?_
    have hw := hw.drew
    refine gm hs 0 rfl rfl rfl hC fun a hs => ?_
    refine gm hs 1 rfl rfl rfl hC fun a hs => ?_
    refine gm hs 2 rfl rfl rfl hC fun a hs => ?_
    refine gm hs 3 rfl rfl rfl hC fun a hs => ?_
    refine gm hs 4 rfl rfl rfl hC fun a hs => ?_
    refine gm hs 5 rfl rfl rfl hC fun a hs => ?_
    refine gv hs 6 rfl rfl hC (fun w hC => y_indexAt Try.runUnderlying27 Try.sizeOf46 rfl rfl h246.1 h246.2 h247) fun a hs => ?_
    refine gm hs 8 rfl rfl rfl hC fun a hs => ?_
    refine gm hs 9 rfl rfl rfl hC fun a hs => ?_
    refine gv hs 10 rfl rfl hC (fun w hC => y_indexAt Try.runUnderlying27 Try.sizeOf46 rfl rfl h259.1 h259.2 h260) fun a hs => ?_
    refine h_all (rs := [7, 11]) (by kernel_rfl) rfl ?_
    refine AllH.cons rfl ?_ ?_
    ·refine sv hs (y_loadQA (j := 0) (hw.ownAt 0 rfl) rfl Try.isAgg46 Try.sizeOf46 h251 rfl rfl) rfl fun a hs => ?_
     refine h_nx (hw.cs [] [] rfl rfl) fun hC => ?_
     refine ho 11 rfl ?_
     refine sv hs (y_loadQA (j := 0) (hw.ownAt 0 rfl) rfl Try.isAgg46 Try.sizeOf46 h264 rfl rfl) rfl fun a hs => ?_
     refine h_nx (hw.cs [] [] rfl rfl) fun hC => ?_
     refine gv hs 12 rfl rfl hC (fun w hC => y_indexAt Try.runUnderlying27 Try.sizeOf46 rfl rfl h268.1 h268.2 h269) fun a hs => ?_
     refine ho 13 rfl ?_
     have h292 := hw.envAt 1 rfl
     refine w_storeF (α := Span) hs hw 0 rfl 0 rfl h269 rfl rfl Try.sizeOf46 rfl h274 ⟨_, _, rfl, rfl, rfl⟩ trivial ?_
     intro c276 a w hs hw
     have hw := hw.addE (e := LenA data1.length l275) (len_set (w := w) (S := S0) h292 h274)
     have h277 := setM_len h274
     try have hs := hs.fl 0 rfl h277
     try have hs := hs.fl 16 rfl h277
     try have hs := hs.fl 18 rfl h277
     try have hs := hs.fl 20 rfl h277
     try have hs := hs.fl 24 rfl h277
     refine h_nx (hw.cs [] [] rfl rfl) fun hC => ?_
     refine ho 14 rfl ?_
     obtain ⟨c285, h281, h286, h279⟩ := hw.elemRX (α := Span) 0 rfl 1 rfl h278
     obtain ⟨_, _, rfl, rfl, rfl⟩ := h279
     refine sv hs (y_indexAt Try.runUnderlying27 Try.sizeOf46 rfl rfl h281.1 h281.2 rfl) rfl fun a hs => ?_
     refine h_nx (hw.cs [] [] rfl rfl) fun hC => ?_
     refine ho 15 rfl ?_
     have h293 := hw.envAt 0 rfl
     refine w_storeF (α := Span) hs hw 0 rfl 1 rfl rfl rfl rfl Try.sizeOf46 rfl h287 ⟨_, _, rfl, rfl, rfl⟩ trivial ?_
     intro c289 a w hs hw
     have hw := hw.addE (e := LenA data1.length l288) (len_set (w := w) (S := S0) h293 h287)
     have h290 := setM_len h287
     try have hs := hs.fl 0 rfl h290
     try have hs := hs.fl 16 rfl h290
     try have hs := hs.fl 18 rfl h290
     try have hs := hs.fl 20 rfl h290
     try have hs := hs.fl 24 rfl h290
     refine h_nx (hw.cs [] [] rfl rfl) fun hC => ?_
     refine h_done (by kernel_rfl) ?_
     exact ⟨Sv127, c289, (hs.wk rfl), (hw.ft [0] [1, 0] (by decide) rfl rfl)⟩
    refine AllH.cons rfl ?_ ?_
    ·refine sv hs (y_loadQA (j := 0) (hw.ownAt 0 rfl) rfl Try.isAgg46 Try.sizeOf46 h264 rfl rfl) rfl fun a hs => ?_
     refine h_nx (hw.cs [] [] rfl rfl) fun hC => ?_
     refine ho 7 rfl ?_
     refine sv hs (y_loadQA (j := 0) (hw.ownAt 0 rfl) rfl Try.isAgg46 Try.sizeOf46 h251 rfl rfl) rfl fun a hs => ?_
     refine h_nx (hw.cs [] [] rfl rfl) fun hC => ?_
     refine gv hs 12 rfl rfl hC (fun w hC => y_indexAt Try.runUnderlying27 Try.sizeOf46 rfl rfl h268.1 h268.2 h269) fun a hs => ?_
     refine ho 13 rfl ?_
     have h294 := hw.envAt 1 rfl
     refine w_storeF (α := Span) hs hw 0 rfl 0 rfl h269 rfl rfl Try.sizeOf46 rfl h274 ⟨_, _, rfl, rfl, rfl⟩ trivial ?_
     intro c276 a w hs hw
     have hw := hw.addE (e := LenA data1.length l275) (len_set (w := w) (S := S0) h294 h274)
     have h277 := setM_len h274
     try have hs := hs.fl 0 rfl h277
     try have hs := hs.fl 16 rfl h277
     try have hs := hs.fl 18 rfl h277
     try have hs := hs.fl 20 rfl h277
     try have hs := hs.fl 24 rfl h277
     refine h_nx (hw.cs [] [] rfl rfl) fun hC => ?_
     refine ho 14 rfl ?_
     obtain ⟨c285, h281, h286, h279⟩ := hw.elemRX (α := Span) 0 rfl 1 rfl h278
     obtain ⟨_, _, rfl, rfl, rfl⟩ := h279
     refine sv hs (y_indexAt Try.runUnderlying27 Try.sizeOf46 rfl rfl h281.1 h281.2 rfl) rfl fun a hs => ?_
     refine h_nx (hw.cs [] [] rfl rfl) fun hC => ?_
     refine ho 15 rfl ?_
     have h295 := hw.envAt 0 rfl
     refine w_storeF (α := Span) hs hw 0 rfl 1 rfl rfl rfl rfl Try.sizeOf46 rfl h287 ⟨_, _, rfl, rfl, rfl⟩ trivial ?_
     intro c289 a w hs hw
     have hw := hw.addE (e := LenA data1.length l288) (len_set (w := w) (S := S0) h295 h287)
     have h290 := setM_len h287
     try have hs := hs.fl 0 rfl h290
     try have hs := hs.fl 16 rfl h290
     try have hs := hs.fl 18 rfl h290
     try have hs := hs.fl 20 rfl h290
     try have hs := hs.fl 24 rfl h290
     refine h_nx (hw.cs [] [] rfl rfl) fun hC => ?_
     refine h_done (by kernel_rfl) ?_
     exact ⟨Sv127, c289, (hs.wk rfl), (hw.ft [0] [1, 0] (by decide) rfl rfl)⟩
    exact AllH.nil
   rintro a w ⟨Sv291, c289, hs, hw⟩
   refine then_normal ?_
   refine sr ?_
   refine mv hs rfl rfl fun a hs => ?_
   refine sv hs (y_add rfl rfl) rfl fun a hs => ?_
   obtain ⟨i297, h296, hsh⟩ := bind_t hsh
   refine sv hs (y_assignI rfl h296) rfl fun a hs => ?_
   refine nl ?_
   refine wp_region_lit ?_
   refine mv hs rfl rfl fun a hs => ?_
   refine sv hs (y_sub rfl rfl) rfl fun a hs => ?_
   obtain ⟨j299, h298, hsh⟩ := bind_t hsh
   refine sv hs (y_assignI rfl h298) rfl fun a hs => ?_
   refine wpList_nil ?_
   refine blk_normal ?_
   refine then_normal ?_
   exact ⟨_, (Option.some.inj hsh).symm, c289, Sv291, (hs.wk rfl), (hw.ft [0] [0, 1] (by decide) rfl rfl)⟩
  have hsh := ite_f hsh h189
  refine wp_exit ?_
  refine then_exit ?_
  refine then_exit ?_
  refine blk_exit ?_
  have hsh := oi hsh
  subst hsh
  have h300 := hd182 _ rfl
  subst h300
  refine then_normal ?_
  exact ⟨c126, Sv127, (hs.wk rfl), (hw.ft [0] [0, 1] (by decide) rfl rfl)⟩
 rintro a w ⟨c186, Sv187, hs, hw⟩
 have hsh := oi hsh
 subst hsh
 exact ret0 hs rfl (hw.ret ⟨c186, rfl, (hw.outs [0] (by decide) rfl), (hw.envAt 0 rfl), (hw.envAt 1 rfl)⟩)

abbrev slices_partialInsertionSortCmpFunc_api_Span_rd (w0 : World) (X : List Nat) (p2 : Option Addr) (k3 : Nat) (data1 : (List Span)) (r : (Bool × (List Span))) : (Nat → Prop) → World → Value → Prop := fun S w v => ∃ (ck_0 : List Value), v = .bool r.1 ∧ Outs X w0 S w [.row p2 r.2.length k3 ck_0 46 2] ∧ (RowA ck_0 r.2).p S w ∧ (LenA data1.length r.2).p S w
set_option maxHeartbeats 4000000 in
set_option maxRecDepth 100000 in
theorem slices_partialInsertionSortCmpFunc_api_Span_ok {w0 : World} {S0 : Nat → Prop} {p2 : Option Addr} {k3 : Nat} {c4 : List Value} {g9 : Nat} {f10 : List Value} {cp11 : List Value} {data1 : (List Span)} {a6 : Int} {b7 : Int} {cmp8 : Span → Span → Option Int} {r : (Bool × (List Span))} (hsh : slices_partialInsertionSortCmpFunc_api_Span data1 a6 b7 cmp8 = some r) (hS : ∀ b, S0 b → b < w0.heap.size) (hin : Ins S0 w0 [.row p2 data1.length k3 c4 46 2]) (h5 : (RowA c4 data1).p S0 w0) (h12 : (FnA2 Try.prog g9 f10 cp11 cmp8).p S0 w0) : Calls Try.prog 75 #[.slice p2 data1.length k3, .int .i64 a6, .int .i64 b7, .func (.func g9) f10.toArray cp11.toArray] w0 (Ret (blks [.row p2 data1.length k3 c4 46 2]) w0 S0 (slices_partialInsertionSortCmpFunc_api_Span_rd w0 (blks [.row p2 data1.length k3 c4 46 2]) p2 k3 data1 r)) := by
 refine calls_of_wp Try.func75 rfl ?_
 have hs := Sl.enter #[.slice p2 data1.length k3, .int .i64 a6, .int .i64 b7, .func (.func g9) f10.toArray cp11.toArray] 141 [(0, .slice p2 data1.length k3), (1, .int .i64 a6), (2, .int .i64 b7), (3, .func (.func g9) f10.toArray cp11.toArray)] rfl ⟨rfl, rfl, rfl, rfl, trivial⟩
 have hw := Wd.enterI hS hin
 have hw := hw.addE h5
 have hw := hw.addE (e := LenA data1.length data1) len_rfl
 have hw := hw.addE h12
 delta slices_partialInsertionSortCmpFunc_api_Span at hsh
 refine sr ?_
 refine av hs rfl rfl fun a hs => ?_
 refine nl ?_
 refine sr ?_
 refine mv hs rfl rfl fun a hs => ?_
 refine sv hs (y_add rfl rfl) rfl fun a hs => ?_
 obtain ⟨i14, h13, hsh⟩ := bind_t hsh
 refine sv hs (y_assignI rfl h13) rfl fun a hs => ?_
 refine nl ?_
 refine wp_seq ?_
 refine sr ?_
 refine av hs rfl rfl fun a hs => ?_
 refine nl ?_
 refine wp_block ?_
 refine wp_while (fun sv1831 a w => ∃ (c3040 : List Value) (Sv3041 : Nat → Prop), Sl 141 [(0, .slice p2 sv1831.1.length k3), (1, .int .i64 a6), (2, .int .i64 b7), (3, .func (.func g9) f10.toArray cp11.toArray), (9, .int .i64 sv1831.2.1), (10, .int .i64 sv1831.2.2)] a ∧ Wd ⟨w0, S0, blks [.row p2 data1.length k3 c4 46 2]⟩ Sv3041 [.row p2 sv1831.1.length k3 c3040 46 2] [FnA2 Try.prog g9 f10 cp11 cmp8, RowA c3040 sv1831.1, LenA data1.length sv1831.1] w) (data1, i14, 0) hsh ⟨c4, S0, (hs.wk rfl), (hw.ft [0] [0, 2, 1] (by decide) rfl rfl)⟩ ?_
 repeat clear hsh
 rintro sv1831 a w tv3646 ⟨c3040, Sv3041, hs, hw⟩ hsh hd3645
 delta slices_partialInsertionSortCmpFunc_api_Span_l17 at hsh
 refine wp_seq ?_
 refine sr ?_
 refine mv hs rfl rfl fun a hs => ?_
 refine sv hs (y_lss rfl rfl) rfl fun a hs => ?_
 refine nl ?_
 refine wp_cond_split (hs.ev rfl) (fun h3650 => ?_) (fun h3650 => ?_)
 ·have hsh := ite_t hsh h3650
  refine wp_skip ?_
  refine then_normal ?_
  refine wp_seq ?_
  refine wp_block ?_
  refine wp_seq ?_
  obtain ⟨e4344, h5673, hsh⟩ := bind_t hsh
  refine wp_join (fun a w => ∃ (Sv4345 : Nat → Prop), Sl 141 [(0, .slice p2 sv1831.1.length k3), (1, .int .i64 a6), (2, .int .i64 b7), (3, .func (.func g9) f10.toArray cp11.toArray), (9, .int .i64 e4344), (10, .int .i64 sv1831.2.2)] a ∧ Wd ⟨w0, S0, blks [.row p2 data1.length k3 c4 46 2]⟩ Sv4345 [.row p2 sv1831.1.length k3 c3040 46 2] [FnA2 Try.prog g9 f10 cp11 cmp8, RowA c3040 sv1831.1, LenA data1.length sv1831.1] w) ?_ ?_
  ·refine wp_block ?_
   refine wp_while (fun sv4251 a w => ∃ (Sv4311 : Nat → Prop), Sl 141 [(0, .slice p2 sv1831.1.length k3), (1, .int .i64 a6), (2, .int .i64 b7), (3, .func (.func g9) f10.toArray cp11.toArray), (9, .int .i64 sv4251), (10, .int .i64 sv1831.2.2)] a ∧ Wd ⟨w0, S0, blks [.row p2 data1.length k3 c4 46 2]⟩ Sv4311 [.row p2 sv1831.1.length k3 c3040 46 2] [FnA2 Try.prog g9 f10 cp11 cmp8, RowA c3040 sv1831.1, LenA data1.length sv1831.1] w) sv1831.2.1 h5673 ⟨Sv3041, (hs.wk rfl), (hw.ft [0] [0, 1, 2] (by decide) rfl rfl)⟩ ?_
   clear h5673
   repeat clear hsh
   rintro sv4251 a w tv4342 ⟨Sv4311, hs, hw⟩ hsh hd4341
   delta slices_partialInsertionSortCmpFunc_api_Span_l24 at hsh
   refine wp_seq ?_
   refine wp_seq ?_
   obtain ⟨c4370, hc4370, hsh⟩ := bind_t hsh
   refine wp_only (fun a w => ∃ (Sv4371 : Nat → Prop), Sl 141 [(0, .slice p2 sv1831.1.length k3), (1, .int .i64 a6), (2, .int .i64 b7), (3, .func (.func g9) f10.toArray cp11.toArray), (9, .int .i64 sv4251), (10, .int .i64 sv1831.2.2), (36, .bool c4370)] a ∧ Wd ⟨w0, S0, blks [.row p2 data1.length k3 c4 46 2]⟩ Sv4371 [.row p2 sv1831.1.length k3 c3040 46 2] [FnA2 Try.prog g9 f10 cp11 cmp8, RowA c3040 sv1831.1, LenA data1.length sv1831.1] w) ?_ ?_
   ·rcases Bool.eq_false_or_eq_true (decide (sv4251 < b7)) with h4372 | h4372
    ·have h4373 := ite_t hc4370 h4372
     obtain ⟨x4376, h4374, h4373⟩ := bind_t h4373
     obtain ⟨b4383, q4380, c4381, h4384, h4377, h4378, h4382, h4375⟩ := hw.elemRV (α := Span) 0 rfl 1 rfl h4374
     have hsv4385 := hs
     have hwv4386 := hw
     subst h4384
     have hs := hsv4385
     have hw := hwv4386
     obtain ⟨_, _, rfl, rfl, rfl⟩ := h4375
     obtain ⟨x4389, h4387, h4373⟩ := bind_t h4373
     obtain ⟨q4393, c4394, h4390, h4391, h4395, h4388⟩ := hw.elemRK (α := Span) 0 rfl 1 rfl h4387
     obtain ⟨_, _, rfl, rfl, rfl⟩ := h4388
     obtain ⟨rv4397, h4396, h4373⟩ := bind_t h4373
     refine h_b (C := Cls [.row (some ⟨b4383, 0, none⟩) sv1831.1.length k3 c3040 46 2] []) (by kernel_rfl) rfl (hw.drew.cs [0] [] rfl rfl) fun hC => ?_
     have hw := hw.drew
     refine gm hs 0 rfl rfl rfl hC fun a hs => ?_
     refine gm hs 1 rfl rfl rfl hC fun a hs => ?_
     refine gv hs 2 rfl rfl hC (fun w hC => y_lss rfl rfl) fun a hs => ?_
     refine gm hs 3 rfl rfl rfl hC fun a hs => ?_
     have hs := hs.fix 22 (.bool true) rfl (vb h4372)
     refine gt hs 4 rfl ⟨_, rfl, rfl⟩ rfl hC (fun w hC => y_move rfl) fun a hs => ?_
     refine gt hs 5 rfl ⟨_, rfl, rfl⟩ rfl hC (fun w hC => y_move rfl) fun a hs => ?_
     refine gt hs 6 rfl ⟨_, rfl, rfl⟩ rfl hC (fun w hC => y_move rfl) fun a hs => ?_
     refine gt hs 7 rfl ⟨_, rfl, rfl⟩ rfl hC (fun w hC => y_indexAt Try.runUnderlying27 Try.sizeOf46 rfl rfl h4377.1 h4377.2 h4378) fun a hs => ?_
     refine gt hs 8 rfl ⟨_, rfl, rfl⟩ rfl hC (fun w hC => y_loadQA (j := 0) (hC.ownAt 0 rfl) rfl Try.isAgg46 Try.sizeOf46 h4382 rfl rfl) fun a hs => ?_
     refine gt hs 9 rfl ⟨_, rfl, rfl⟩ rfl hC (fun w hC => y_move rfl) fun a hs => ?_
     refine gt hs 10 rfl ⟨_, rfl, rfl⟩ rfl hC (fun w hC => y_move rfl) fun a hs => ?_
     refine gt hs 11 rfl ⟨_, rfl, rfl⟩ rfl hC (fun w hC => y_sub rfl rfl) fun a hs => ?_
     refine gt hs 12 rfl ⟨_, rfl, rfl⟩ rfl hC (fun w hC => y_indexAt Try.runUnderlying27 Try.sizeOf46 rfl rfl h4390.1 h4390.2 h4391) fun a hs => ?_
     refine gt hs 13 rfl ⟨_, rfl, rfl⟩ rfl hC (fun w hC => y_loadQA (j := 0) (hC.ownAt 0 rfl) rfl Try.isAgg46 Try.sizeOf46 h4395 rfl rfl) fun a hs => ?_
     refine ho 14 rfl ?_
     refine st_callR hs ((hw.bE 0 rfl).2 Keep.rfl' hw.bdom ⟨_, _, rfl, rfl, rfl⟩ ⟨_, _, rfl, rfl, rfl⟩ h4396) (do_callF (hw.bE 0 rfl).1 rfl rfl) ⟨_, rfl, rfl⟩ rfl rfl ?_
     intro v4401 Sv4398 w a h4399 h4400 hs
     subst h4400
     have hw := hw.callB h4399
     refine h_nx (hw.cs [0] [] rfl rfl) fun hC => ?_
     refine gt hs 15 rfl ⟨_, rfl, rfl⟩ rfl hC (fun w hC => y_lss rfl rfl) fun a hs => ?_
     refine gt hs 16 rfl ⟨_, rfl, rfl⟩ rfl hC (fun w hC => y_not rfl) fun a hs => ?_
     refine gv hs 17 rfl rfl hC (fun w hC => y_pickTE (v := .bool c4370) rfl rfl (vbs h4373)) fun a hs => ?_
     refine h_done (by kernel_rfl) ?_
     exact ⟨Sv4311, (hs.wk rfl), (hw.ft [0] [0, 1, 2] (by decide) rfl rfl)⟩
    have h4402 := ite_f hc4370 h4372
    refine h_b (C := Cls [.row p2 sv1831.1.length k3 c3040 46 2] []) (by kernel_rfl) rfl (hw.drew.cs [0] [] rfl rfl) fun hC => ?_
    have hw := hw.drew
    refine gm hs 0 rfl rfl rfl hC fun a hs => ?_
    refine gm hs 1 rfl rfl rfl hC fun a hs => ?_
    refine gv hs 2 rfl rfl hC (fun w hC => y_lss rfl rfl) fun a hs => ?_
    refine gm hs 3 rfl rfl rfl hC fun a hs => ?_
    have hs := hs.fix 22 (.bool false) rfl (vb h4372)
    refine gs hs 4 rfl rfl rfl rfl hC fun a hs => ?_
    refine gs hs 5 rfl rfl rfl rfl hC fun a hs => ?_
    refine gs hs 6 rfl rfl rfl rfl hC fun a hs => ?_
    refine gs hs 7 rfl rfl rfl rfl hC fun a hs => ?_
    refine gs hs 8 rfl rfl rfl rfl hC fun a hs => ?_
    refine gs hs 9 rfl rfl rfl rfl hC fun a hs => ?_
    refine gs hs 10 rfl rfl rfl rfl hC fun a hs => ?_
    refine gs hs 11 rfl rfl rfl rfl hC fun a hs => ?_
    refine gs hs 12 rfl rfl rfl rfl hC fun a hs => ?_
    refine gs hs 13 rfl rfl rfl rfl hC fun a hs => ?_
    refine gs hs 14 rfl rfl rfl rfl hC fun a hs => ?_
    refine gs hs 15 rfl rfl rfl rfl hC fun a hs => ?_
    refine gs hs 16 rfl rfl rfl rfl hC fun a hs => ?_
    refine gv hs 17 rfl rfl hC (fun w hC => y_pickFE (v := .bool c4370) rfl rfl (vbs h4402)) fun a hs => ?_
    refine h_done (by kernel_rfl) ?_
    exact ⟨Sv4311, (hs.wk rfl), (hw.ft [0] [0, 1, 2] (by decide) rfl rfl)⟩
   rintro a w ⟨Sv4371, hs, hw⟩
   refine then_normal ?_
   refine wp_cond_split (hs.ev rfl) (fun h4404 => ?_) (fun h4404 => ?_)
   ·have hsh := ite_t hsh h4404
    refine wp_skip ?_
    refine then_normal ?_
    refine wp_block ?_
    refine wp_region_lit ?_
    refine mv hs rfl rfl fun a hs => ?_
    refine sv hs (y_add rfl rfl) rfl fun a hs => ?_
    obtain ⟨i4408, h4407, hsh⟩ := bind_t hsh
    refine sv hs (y_assignI rfl h4407) rfl fun a hs => ?_
    refine wpList_nil ?_
    refine blk_normal ?_
    refine then_normal ?_
    exact ⟨_, (Option.some.inj hsh).symm, Sv4371, (hs.wk rfl), (hw.ft [0] [0, 1, 2] (by decide) rfl rfl)⟩
   have hsh := ite_f hsh h4404
   refine wp_exit ?_
   refine then_exit ?_
   refine then_exit ?_
   refine blk_exit ?_
   have hsh := oi hsh
   subst hsh
   have h4409 := hd4341 _ rfl
   subst h4409
   refine then_normal ?_
   exact ⟨Sv4371, (hs.wk rfl), (hw.ft [0] [0, 1, 2] (by decide) rfl rfl)⟩
  rintro a w ⟨Sv4345, hs, hw⟩
  refine then_normal ?_
  refine wp_seq ?_
  refine sr ?_
  refine mv hs rfl rfl fun a hs => ?_
  refine mv hs rfl rfl fun a hs => ?_
  refine sv hs (y_eql rfl rfl) rfl fun a hs => ?_
  refine nl ?_
  refine wp_cond_split (hs.ev rfl) (fun h4411 => ?_) (fun h4411 => ?_)
  ·have hsh := ite_t hsh h4411
   refine sr ?_
   refine av hs rfl rfl fun a hs => ?_
   refine nl ?_
   have hsh := oi hsh
   subst hsh
   have h4412 := hd3645 _ rfl
   subst h4412
   refine wp_ret ?_
   refine then_ret ?_
   refine blk_ret ?_
   refine then_ret ?_
   refine then_ret ?_
   refine blk_ret ?_
   refine then_ret ?_
   exact ret1 hs rfl (rv_tmp rfl) (hw.ret ⟨c3040, rfl, (hw.outs [0] (by decide) rfl), (hw.envAt 1 rfl), (hw.envAt 2 rfl)⟩)
  have hsh := ite_f hsh h4411
  refine wp_skip ?_
  refine then_normal ?_
  refine wp_seq ?_
  refine sr ?_
  refine mv hs rfl rfl fun a hs => ?_
  refine mv hs rfl rfl fun a hs => ?_
  refine sv hs (y_sub rfl rfl) rfl fun a hs => ?_
  refine sv hs (y_lss rfl rfl) rfl fun a hs => ?_
  refine nl ?_
  refine wp_cond_split (hs.ev rfl) (fun h4414 => ?_) (fun h4414 => ?_)
  ·have hsh := ite_t hsh h4414
   refine sr ?_
   refine av hs rfl rfl fun a hs => ?_
   refine nl ?_
   have hsh := oi hsh
   subst hsh
   have h4415 := hd3645 _ rfl
   subst h4415
   refine wp_ret ?_
   refine then_ret ?_
   refine blk_ret ?_
   refine then_ret ?_
   refine then_ret ?_
   refine blk_ret ?_
   refine then_ret ?_
   exact ret1 hs rfl (rv_tmp rfl) (hw.ret ⟨c3040, rfl, (hw.outs [0] (by decide) rfl), (hw.envAt 1 rfl), (hw.envAt 2 rfl)⟩)
  have hsh := ite_f hsh h4414
  refine wp_skip ?_
  refine then_normal ?_
  refine wp_seq ?_
  obtain ⟨x4418, h4416, hsh⟩ := bind_t hsh
  obtain ⟨b4425, q4422, c4423, h4426, h4419, h4420, h4424, h4417⟩ := hw.elemRV (α := Span) 0 rfl 1 rfl h4416
  have hsv4427 := hs
  have hwv4428 := hw
  subst h4426
  have hs := hsv4427
  have hw := hwv4428
  obtain ⟨_, _, rfl, rfl, rfl⟩ := h4417
  obtain ⟨x4431, h4429, hsh⟩ := bind_t hsh
  obtain ⟨q4435, c4436, h4432, h4433, h4437, h4430⟩ := hw.elemRK (α := Span) 0 rfl 1 rfl h4429
  obtain ⟨_, _, rfl, rfl, rfl⟩ := h4430
  obtain ⟨x4440, h4438, hsh⟩ := bind_t hsh
  obtain ⟨q4444, c4445, h4441, h4442, h4446, h4439⟩ := hw.elemRK (α := Span) 0 rfl 1 rfl h4438
  obtain ⟨_, _, rfl, rfl, rfl⟩ := h4439
  obtain ⟨l4448, h4447, hsh⟩ := bind_t hsh
  obtain ⟨x4453, h4451, hsh⟩ := bind_t hsh
  obtain ⟨l4461, h4460, hsh⟩ := bind_t hsh
  refine wp_only (fun a w => ∃ (Sv4464 : Nat → Prop) (c4462 : List Value), Sl 141 [(0, .slice (some ⟨b4425, 0, none⟩) l4461.length k3), (1, .int .i64 a6), (2, .int .i64 b7), (3, .func (.func g9) f10.toArray cp11.toArray), (9, .int .i64 e4344), (10, .int .i64 sv1831.2.2)] a ∧ Wd ⟨w0, S0, blks [.row (some ⟨b4425, 0, none⟩) data1.length k3 c4 46 2]⟩ Sv4464 [.row (some ⟨b4425, 0, none⟩) l4461.length k3 c4462 46 2] [FnA2 Try.prog g9 f10 cp11 cmp8, RowA c4462 l4461, LenA data1.length l4461] w) ?_ ?_
  ·refine h_b (C := Cls [] []) (by kernel_rfl) rfl (hw.drew.cs [] [] rfl rfl) fun hC => ?_
   have hw := hw.drew
   refine gm hs 0 rfl rfl rfl hC fun a hs => ?_
   refine gm hs 1 rfl rfl rfl hC fun a hs => ?_
   refine gm hs 2 rfl rfl rfl hC fun a hs => ?_
   refine gm hs 3 rfl rfl rfl hC fun a hs => ?_
   refine gv hs 4 rfl rfl hC (fun w hC => y_sub rfl rfl) fun a hs => ?_
   refine gm hs 5 rfl rfl rfl hC fun a hs => ?_
   refine gm hs 6 rfl rfl rfl hC fun a hs => ?_
   refine gv hs 7 rfl rfl hC (fun w hC => y_sub rfl rfl) fun a hs => ?_
   refine gv hs 8 rfl rfl hC (fun w hC => y_indexAt Try.runUnderlying27 Try.sizeOf46 rfl rfl h4419.1 h4419.2 h4420) fun a hs => ?_
   refine gm hs 10 rfl rfl rfl hC fun a hs => ?_
   refine gm hs 11 rfl rfl rfl hC fun a hs => ?_
   refine gv hs 12 rfl rfl hC (fun w hC => y_indexAt Try.runUnderlying27 Try.sizeOf46 rfl rfl h4432.1 h4432.2 h4433) fun a hs => ?_
   refine h_all (rs := [9, 13]) (by kernel_rfl) rfl ?_
   refine AllH.cons rfl ?_ ?_
   ·refine sv hs (y_loadQA (j := 0) (hw.ownAt 0 rfl) rfl Try.isAgg46 Try.sizeOf46 h4424 rfl rfl) rfl fun a hs => ?_
    refine h_nx (hw.cs [] [] rfl rfl) fun hC => ?_
    refine ho 13 rfl ?_
    refine sv hs (y_loadQA (j := 0) (hw.ownAt 0 rfl) rfl Try.isAgg46 Try.sizeOf46 h4437 rfl rfl) rfl fun a hs => ?_
    refine h_nx (hw.cs [] [] rfl rfl) fun hC => ?_
    refine gv hs 14 rfl rfl hC (fun w hC => y_indexAt Try.runUnderlying27 Try.sizeOf46 rfl rfl h4441.1 h4441.2 h4442) fun a hs => ?_
    refine ho 15 rfl ?_
    have h4465 := hw.envAt 2 rfl
    refine w_storeF (α := Span) hs hw 0 rfl 1 rfl h4442 rfl rfl Try.sizeOf46 rfl h4447 ⟨_, _, rfl, rfl, rfl⟩ trivial ?_
    intro c4449 a w hs hw
    have hw := hw.addE (e := LenA data1.length l4448) (len_set (w := w) (S := S0) h4465 h4447)
    have h4450 := setM_len h4447
    try have hs := hs.fl 0 rfl h4450
    try have hs := hs.fl 46 rfl h4450
    try have hs := hs.fl 48 rfl h4450
    try have hs := hs.fl 51 rfl h4450
    try have hs := hs.fl 56 rfl h4450
    refine h_nx (hw.cs [] [] rfl rfl) fun hC => ?_
    refine ho 16 rfl ?_
    obtain ⟨c4458, h4454, h4459, h4452⟩ := hw.elemRX (α := Span) 0 rfl 1 rfl h4451
    obtain ⟨_, _, rfl, rfl, rfl⟩ := h4452
    refine sv hs (y_indexAt Try.runUnderlying27 Try.sizeOf46 rfl rfl h4454.1 h4454.2 rfl) rfl fun a hs => ?_
    refine h_nx (hw.cs [] [] rfl rfl) fun hC => ?_
    refine ho 17 rfl ?_
    have h4466 := hw.envAt 0 rfl
    refine w_storeF (α := Span) hs hw 0 rfl 1 rfl rfl rfl rfl Try.sizeOf46 rfl h4460 ⟨_, _, rfl, rfl, rfl⟩ trivial ?_
    intro c4462 a w hs hw
    have hw := hw.addE (e := LenA data1.length l4461) (len_set (w := w) (S := S0) h4466 h4460)
    have h4463 := setM_len h4460
    try have hs := hs.fl 0 rfl h4463
    try have hs := hs.fl 46 rfl h4463
    try have hs := hs.fl 48 rfl h4463
    try have hs := hs.fl 51 rfl h4463
    try have hs := hs.fl 56 rfl h4463
    refine h_nx (hw.cs [] [] rfl rfl) fun hC => ?_
    refine h_done (by kernel_rfl) ?_
    exact ⟨Sv4345, c4462, (hs.wk rfl), (hw.ft [0] [4, 1, 0] (by decide) rfl rfl)⟩
   refine AllH.cons rfl ?_ ?_
   ·refine sv hs (y_loadQA (j := 0) (hw.ownAt 0 rfl) rfl Try.isAgg46 Try.sizeOf46 h4437 rfl rfl) rfl fun a hs => ?_
    refine h_nx (hw.cs [] [] rfl rfl) fun hC => ?_
    refine ho 9 rfl ?_
    refine sv hs (y_loadQA (j := 0) (hw.ownAt 0 rfl) rfl Try.isAgg46 Try.sizeOf46 h4424 rfl rfl) rfl fun a hs => ?_
    refine h_nx (hw.cs [] [] rfl rfl) fun hC => ?_
    refine gv hs 14 rfl rfl hC (fun w hC => y_indexAt Try.runUnderlying27 Try.sizeOf46 rfl rfl h4441.1 h4441.2 h4442) fun a hs => ?_
    refine ho 15 rfl ?_
    have h4467 := hw.envAt 2 rfl
    refine w_storeF (α := Span) hs hw 0 rfl 1 rfl h4442 rfl rfl Try.sizeOf46 rfl h4447 ⟨_, _, rfl, rfl, rfl⟩ trivial ?_
    intro c4449 a w hs hw
    have hw := hw.addE (e := LenA data1.length l4448) (len_set (w := w) (S := S0) h4467 h4447)
    have h4450 := setM_len h4447
    try have hs := hs.fl 0 rfl h4450
    try have hs := hs.fl 46 rfl h4450
    try have hs := hs.fl 48 rfl h4450
    try have hs := hs.fl 51 rfl h4450
    try have hs := hs.fl 56 rfl h4450
    refine h_nx (hw.cs [] [] rfl rfl) fun hC => ?_
    refine ho 16 rfl ?_
    obtain ⟨c4458, h4454, h4459, h4452⟩ := hw.elemRX (α := Span) 0 rfl 1 rfl h4451
    obtain ⟨_, _, rfl, rfl, rfl⟩ := h4452
    refine sv hs (y_indexAt Try.runUnderlying27 Try.sizeOf46 rfl rfl h4454.1 h4454.2 rfl) rfl fun a hs => ?_
    refine h_nx (hw.cs [] [] rfl rfl) fun hC => ?_
    refine ho 17 rfl ?_
    have h4468 := hw.envAt 0 rfl
    refine w_storeF (α := Span) hs hw 0 rfl 1 rfl rfl rfl rfl Try.sizeOf46 rfl h4460 ⟨_, _, rfl, rfl, rfl⟩ trivial ?_
    intro c4462 a w hs hw
    have hw := hw.addE (e := LenA data1.length l4461) (len_set (w := w) (S := S0) h4468 h4460)
    have h4463 := setM_len h4460
    try have hs := hs.fl 0 rfl h4463
    try have hs := hs.fl 46 rfl h4463
    try have hs := hs.fl 48 rfl h4463
    try have hs := hs.fl 51 rfl h4463
    try have hs := hs.fl 56 rfl h4463
    refine h_nx (hw.cs [] [] rfl rfl) fun hC => ?_
    refine h_done (by kernel_rfl) ?_
    exact ⟨Sv4345, c4462, (hs.wk rfl), (hw.ft [0] [4, 1, 0] (by decide) rfl rfl)⟩
   exact AllH.nil
  rintro a w ⟨Sv4464, c4462, hs, hw⟩
  refine then_normal ?_
  refine wp_seq ?_
  refine sr ?_
  refine mv hs rfl rfl fun a hs => ?_
  refine mv hs rfl rfl fun a hs => ?_
  refine sv hs (y_sub rfl rfl) rfl fun a hs => ?_
  refine sv hs (y_geq rfl rfl) rfl fun a hs => ?_
  refine nl ?_
  refine wp_join (fun a w => ∃ (data4695 : (List Span)) (c4693 : List Value) (Sv4694 : Nat → Prop), slices_partialInsertionSortCmpFunc_api_Span_j2 b7 cmp8 sv1831 e4344 data4695 = some tv3646 ∧ Sl 141 [(0, .slice (some ⟨b4425, 0, none⟩) data4695.length k3), (1, .int .i64 a6), (2, .int .i64 b7), (3, .func (.func g9) f10.toArray cp11.toArray), (9, .int .i64 e4344), (10, .int .i64 sv1831.2.2)] a ∧ Wd ⟨w0, S0, blks [.row (some ⟨b4425, 0, none⟩) data1.length k3 c4 46 2]⟩ Sv4694 [.row (some ⟨b4425, 0, none⟩) data4695.length k3 c4693 46 2] [FnA2 Try.prog g9 f10 cp11 cmp8, RowA c4693 data4695, LenA data1.length data4695] w) ?_ ?_
  ·refine wp_cond_split (hs.ev rfl) (fun h5299 => ?_) (fun h5299 => ?_)
   ·have hsh := ite_t hsh h5299
    refine sr ?_
    refine mv hs rfl rfl fun a hs => ?_
    refine sv hs (y_sub rfl rfl) rfl fun a hs => ?_
    obtain ⟨j5301, h5300, hsh⟩ := bind_t hsh
    refine sv hs (y_assignI rfl h5300) rfl fun a hs => ?_
    refine nl ?_
    obtain ⟨e5520, h5672, hsh⟩ := bind_t hsh
    refine wp_join (fun a w => ∃ (c5521 : List Value) (Sv5522 : Nat → Prop), Sl 141 [(0, .slice (some ⟨b4425, 0, none⟩) e5520.length k3), (1, .int .i64 a6), (2, .int .i64 b7), (3, .func (.func g9) f10.toArray cp11.toArray), (9, .int .i64 e4344), (10, .int .i64 sv1831.2.2)] a ∧ Wd ⟨w0, S0, blks [.row (some ⟨b4425, 0, none⟩) data1.length k3 c4 46 2]⟩ Sv5522 [.row (some ⟨b4425, 0, none⟩) e5520.length k3 c5521 46 2] [FnA2 Try.prog g9 f10 cp11 cmp8, RowA c5521 e5520, LenA data1.length e5520] w) ?_ ?_
    ·refine wp_block ?_
     refine wp_while (fun sv5302 a w => ∃ (c5445 : List Value) (Sv5446 : Nat → Prop), Sl 141 [(0, .slice (some ⟨b4425, 0, none⟩) sv5302.1.length k3), (1, .int .i64 a6), (2, .int .i64 b7), (3, .func (.func g9) f10.toArray cp11.toArray), (9, .int .i64 e4344), (10, .int .i64 sv1831.2.2), (11, .int .i64 sv5302.2)] a ∧ Wd ⟨w0, S0, blks [.row (some ⟨b4425, 0, none⟩) data1.length k3 c4 46 2]⟩ Sv5446 [.row (some ⟨b4425, 0, none⟩) sv5302.1.length k3 c5445 46 2] [FnA2 Try.prog g9 f10 cp11 cmp8, RowA c5445 sv5302.1, LenA data1.length sv5302.1] w) (l4461, j5301) h5672 ⟨c4462, Sv4464, (hs.wk rfl), (hw.ft [0] [0, 1, 2] (by decide) rfl rfl)⟩ ?_
     clear h5672
     repeat clear hsh
     rintro sv5302 a w tv5518 ⟨c5445, Sv5446, hs, hw⟩ hsh hd5517
     delta slices_partialInsertionSortCmpFunc_api_Span_l28 at hsh
     refine wp_seq ?_
     refine sr ?_
     refine mv hs rfl rfl fun a hs => ?_
     refine sv hs (y_geq rfl rfl) rfl fun a hs => ?_
     refine nl ?_
     refine wp_cond_split (hs.ev rfl) (fun h5524 => ?_) (fun h5524 => ?_)
     ·have hsh := ite_t hsh h5524
      refine wp_skip ?_
      refine then_normal ?_
      refine wp_seq ?_
      refine wp_block ?_
      refine wp_seq ?_
      refine wp_seq ?_
      obtain ⟨x5594, h5592, hsh⟩ := bind_t hsh
      obtain ⟨q5598, c5599, h5595, h5596, h5600, h5593⟩ := hw.elemRK (α := Span) 0 rfl 1 rfl h5592
      obtain ⟨_, _, rfl, rfl, rfl⟩ := h5593
      obtain ⟨x5603, h5601, hsh⟩ := bind_t hsh
      obtain ⟨q5607, c5608, h5604, h5605, h5609, h5602⟩ := hw.elemRK (α := Span) 0 rfl 1 rfl h5601
      obtain ⟨_, _, rfl, rfl, rfl⟩ := h5602
      obtain ⟨rv5611, h5610, hsh⟩ := bind_t hsh
      refine wp_only (fun a w => ∃ (Sv5612 : Nat → Prop), Sl 141 [(0, .slice (some ⟨b4425, 0, none⟩) sv5302.1.length k3), (1, .int .i64 a6), (2, .int .i64 b7), (3, .func (.func g9) f10.toArray cp11.toArray), (9, .int .i64 e4344), (10, .int .i64 sv1831.2.2), (11, .int .i64 sv5302.2), (84, .bool (!(decide (rv5611 < 0))))] a ∧ Wd ⟨w0, S0, blks [.row (some ⟨b4425, 0, none⟩) data1.length k3 c4 46 2]⟩ Sv5612 [.row (some ⟨b4425, 0, none⟩) sv5302.1.length k3 c5445 46 2] [FnA2 Try.prog g9 f10 cp11 cmp8, RowA c5445 sv5302.1, LenA data1.length sv5302.1] w) ?_ ?_
      ·refine h_b (C := Cls [.row (some ⟨b4425, 0, none⟩) sv5302.1.length k3 c5445 46 2] []) (by kernel_rfl) rfl (hw.drew.cs [0] [] rfl rfl) fun hC => ?_
       have hw := hw.drew
       refine gm hs 0 rfl rfl rfl hC fun a hs => ?_
       refine gm hs 1 rfl rfl rfl hC fun a hs => ?_
       refine gm hs 2 rfl rfl rfl hC fun a hs => ?_
       refine gv hs 3 rfl rfl hC (fun w hC => y_indexAt Try.runUnderlying27 Try.sizeOf46 rfl rfl h5595.1 h5595.2 h5596) fun a hs => ?_
       refine gv hs 4 rfl rfl hC (fun w hC => y_loadQA (j := 0) (hC.ownAt 0 rfl) rfl Try.isAgg46 Try.sizeOf46 h5600 rfl rfl) fun a hs => ?_
       refine gm hs 5 rfl rfl rfl hC fun a hs => ?_
       refine gm hs 6 rfl rfl rfl hC fun a hs => ?_
       refine gv hs 7 rfl rfl hC (fun w hC => y_sub rfl rfl) fun a hs => ?_
       refine gv hs 8 rfl rfl hC (fun w hC => y_indexAt Try.runUnderlying27 Try.sizeOf46 rfl rfl h5604.1 h5604.2 h5605) fun a hs => ?_
       refine gv hs 9 rfl rfl hC (fun w hC => y_loadQA (j := 0) (hC.ownAt 0 rfl) rfl Try.isAgg46 Try.sizeOf46 h5609 rfl rfl) fun a hs => ?_
       refine ho 10 rfl ?_
       refine st_callR hs ((hw.bE 0 rfl).2 Keep.rfl' hw.bdom ⟨_, _, rfl, rfl, rfl⟩ ⟨_, _, rfl, rfl, rfl⟩ h5610) (do_callF (hw.bE 0 rfl).1 rfl rfl) trivial rfl rfl ?_
       intro v5616 Sv5613 w a h5614 h5615 hs
       subst h5615
       have hw := hw.callB h5614
       refine h_nx (hw.cs [0] [] rfl rfl) fun hC => ?_
       refine gv hs 11 rfl rfl hC (fun w hC => y_lss rfl rfl) fun a hs => ?_
       refine gv hs 12 rfl rfl hC (fun w hC => y_not rfl) fun a hs => ?_
       refine h_done (by kernel_rfl) ?_
       exact ⟨Sv5446, (hs.wk rfl), (hw.ft [0] [0, 1, 2] (by decide) rfl rfl)⟩
      rintro a w ⟨Sv5612, hs, hw⟩
      refine then_normal ?_
      refine wp_cond_split (hs.ev rfl) (fun h5618 => ?_) (fun h5618 => ?_)
      ·have hsh := ite_t hsh h5618
       refine wp_exit ?_
       refine then_exit ?_
       refine blk_other rfl ?_
       refine then_exit ?_
       refine then_exit ?_
       refine blk_exit ?_
       have hsh := oi hsh
       subst hsh
       have h5619 := hd5517 _ rfl
       subst h5619
       refine then_normal ?_
       exact ⟨c5445, Sv5612, (hs.wk rfl), (hw.ft [0] [0, 1, 2] (by decide) rfl rfl)⟩
      have hsh := ite_f hsh h5618
      refine wp_skip ?_
      refine then_normal ?_
      obtain ⟨x5622, h5620, hsh⟩ := bind_t hsh
      obtain ⟨q5626, c5627, h5623, h5624, h5628, h5621⟩ := hw.elemRK (α := Span) 0 rfl 1 rfl h5620
      obtain ⟨_, _, rfl, rfl, rfl⟩ := h5621
      obtain ⟨x5631, h5629, hsh⟩ := bind_t hsh
      obtain ⟨q5635, c5636, h5632, h5633, h5637, h5630⟩ := hw.elemRK (α := Span) 0 rfl 1 rfl h5629
      obtain ⟨_, _, rfl, rfl, rfl⟩ := h5630
      obtain ⟨x5640, h5638, hsh⟩ := bind_t hsh
      obtain ⟨q5644, c5645, h5641, h5642, h5646, h5639⟩ := hw.elemRK (α := Span) 0 rfl 1 rfl h5638
      obtain ⟨_, _, rfl, rfl, rfl⟩ := h5639
      obtain ⟨l5648, h5647, hsh⟩ := bind_t hsh
      obtain ⟨x5653, h5651, hsh⟩ := bind_t hsh
      obtain ⟨l5661, h5660, hsh⟩ := bind_t hsh
      refine wp_only (fun a w => ∃ (Sv5664 : Nat → Prop) (c5662 : List Value), Sl 141 [(0, .slice (some ⟨b4425, 0, none⟩) l5661.length k3), (1, .int .i64 a6), (2, .int .i64 b7), (3, .func (.func g9) f10.toArray cp11.toArray), (9, .int .i64 e4344), (10, .int .i64 sv1831.2.2), (11, .int .i64 sv5302.2)] a ∧ Wd ⟨w0, S0, blks [.row (some ⟨b4425, 0, none⟩) data1.length k3 c4 46 2]⟩ Sv5664 [.row (some ⟨b4425, 0, none⟩) l5661.length k3 c5662 46 2] [FnA2 Try.prog g9 f10 cp11 cmp8, RowA c5662 l5661, LenA data1.length l5661] w) ?_ ?_
      ·refine h_b (C := Cls [] []) (by kernel_rfl) rfl (hw.drew.cs [] [] rfl rfl) fun hC => ?_
       have hw := hw.drew
       refine gm hs 0 rfl rfl rfl hC fun a hs => ?_
       refine gm hs 1 rfl rfl rfl hC fun a hs => ?_
       refine gm hs 2 rfl rfl rfl hC fun a hs => ?_
       refine gm hs 3 rfl rfl rfl hC fun a hs => ?_
       refine gv hs 4 rfl rfl hC (fun w hC => y_sub rfl rfl) fun a hs => ?_
       refine gm hs 5 rfl rfl rfl hC fun a hs => ?_
       refine gm hs 6 rfl rfl rfl hC fun a hs => ?_
       refine gv hs 7 rfl rfl hC (fun w hC => y_sub rfl rfl) fun a hs => ?_
       refine gv hs 8 rfl rfl hC (fun w hC => y_indexAt Try.runUnderlying27 Try.sizeOf46 rfl rfl h5623.1 h5623.2 h5624) fun a hs => ?_
       refine gm hs 10 rfl rfl rfl hC fun a hs => ?_
       refine gm hs 11 rfl rfl rfl hC fun a hs => ?_
       refine gv hs 12 rfl rfl hC (fun w hC => y_indexAt Try.runUnderlying27 Try.sizeOf46 rfl rfl h5632.1 h5632.2 h5633) fun a hs => ?_
       refine h_all (rs := [9, 13]) (by kernel_rfl) rfl ?_
       refine AllH.cons rfl ?_ ?_
       ·refine sv hs (y_loadQA (j := 0) (hw.ownAt 0 rfl) rfl Try.isAgg46 Try.sizeOf46 h5628 rfl rfl) rfl fun a hs => ?_
        refine h_nx (hw.cs [] [] rfl rfl) fun hC => ?_
        refine ho 13 rfl ?_
        refine sv hs (y_loadQA (j := 0) (hw.ownAt 0 rfl) rfl Try.isAgg46 Try.sizeOf46 h5637 rfl rfl) rfl fun a hs => ?_
        refine h_nx (hw.cs [] [] rfl rfl) fun hC => ?_
        refine gv hs 14 rfl rfl hC (fun w hC => y_indexAt Try.runUnderlying27 Try.sizeOf46 rfl rfl h5641.1 h5641.2 h5642) fun a hs => ?_
        refine ho 15 rfl ?_
        have h5665 := hw.envAt 2 rfl
        refine w_storeF (α := Span) hs hw 0 rfl 1 rfl h5642 rfl rfl Try.sizeOf46 rfl h5647 ⟨_, _, rfl, rfl, rfl⟩ trivial ?_
        intro c5649 a w hs hw
        have hw := hw.addE (e := LenA data1.length l5648) (len_set (w := w) (S := S0) h5665 h5647)
        have h5650 := setM_len h5647
        try have hs := hs.fl 0 rfl h5650
        try have hs := hs.fl 85 rfl h5650
        try have hs := hs.fl 87 rfl h5650
        try have hs := hs.fl 90 rfl h5650
        try have hs := hs.fl 95 rfl h5650
        refine h_nx (hw.cs [] [] rfl rfl) fun hC => ?_
        refine ho 16 rfl ?_
        obtain ⟨c5658, h5654, h5659, h5652⟩ := hw.elemRX (α := Span) 0 rfl 1 rfl h5651
        obtain ⟨_, _, rfl, rfl, rfl⟩ := h5652
        refine sv hs (y_indexAt Try.runUnderlying27 Try.sizeOf46 rfl rfl h5654.1 h5654.2 rfl) rfl fun a hs => ?_
        refine h_nx (hw.cs [] [] rfl rfl) fun hC => ?_
        refine ho 17 rfl ?_
        have h5666 := hw.envAt 0 rfl
        refine w_storeF (α := Span) hs hw 0 rfl 1 rfl rfl rfl rfl Try.sizeOf46 rfl h5660 ⟨_, _, rfl, rfl, rfl⟩ trivial ?_
        intro c5662 a w hs hw
        have hw := hw.addE (e := LenA data1.length l5661) (len_set (w := w) (S := S0) h5666 h5660)
        have h5663 := setM_len h5660
        try have hs := hs.fl 0 rfl h5663
        try have hs := hs.fl 85 rfl h5663
        try have hs := hs.fl 87 rfl h5663
        try have hs := hs.fl 90 rfl h5663
        try have hs := hs.fl 95 rfl h5663
        refine h_nx (hw.cs [] [] rfl rfl) fun hC => ?_
        refine h_done (by kernel_rfl) ?_
        exact ⟨Sv5612, c5662, (hs.wk rfl), (hw.ft [0] [4, 1, 0] (by decide) rfl rfl)⟩
       refine AllH.cons rfl ?_ ?_
       ·refine sv hs (y_loadQA (j := 0) (hw.ownAt 0 rfl) rfl Try.isAgg46 Try.sizeOf46 h5637 rfl rfl) rfl fun a hs => ?_
        refine h_nx (hw.cs [] [] rfl rfl) fun hC => ?_
        refine ho 9 rfl ?_
        refine sv hs (y_loadQA (j := 0) (hw.ownAt 0 rfl) rfl Try.isAgg46 Try.sizeOf46 h5628 rfl rfl) rfl fun a hs => ?_
        refine h_nx (hw.cs [] [] rfl rfl) fun hC => ?_
        refine gv hs 14 rfl rfl hC (fun w hC => y_indexAt Try.runUnderlying27 Try.sizeOf46 rfl rfl h5641.1 h5641.2 h5642) fun a hs => ?_
        refine ho 15 rfl ?_
        have h5667 := hw.envAt 2 rfl
        refine w_storeF (α := Span) hs hw 0 rfl 1 rfl h5642 rfl rfl Try.sizeOf46 rfl h5647 ⟨_, _, rfl, rfl, rfl⟩ trivial ?_
        intro c5649 a w hs hw
        have hw := hw.addE (e := LenA data1.length l5648) (len_set (w := w) (S := S0) h5667 h5647)
        have h5650 := setM_len h5647
        try have hs := hs.fl 0 rfl h5650
        try have hs := hs.fl 85 rfl h5650
        try have hs := hs.fl 87 rfl h5650
        try have hs := hs.fl 90 rfl h5650
        try have hs := hs.fl 95 rfl h5650
        refine h_nx (hw.cs [] [] rfl rfl) fun hC => ?_
        refine ho 16 rfl ?_
        obtain ⟨c5658, h5654, h5659, h5652⟩ := hw.elemRX (α := Span) 0 rfl 1 rfl h5651
        obtain ⟨_, _, rfl, rfl, rfl⟩ := h5652
        refine sv hs (y_indexAt Try.runUnderlying27 Try.sizeOf46 rfl rfl h5654.1 h5654.2 rfl) rfl fun a hs => ?_
        refine h_nx (hw.cs [] [] rfl rfl) fun hC => ?_
        refine ho 17 rfl ?_
        have h5668 := hw.envAt 0 rfl
        refine w_storeF (α := Span) hs hw 0 rfl 1 rfl rfl rfl rfl Try.sizeOf46 rfl h5660 ⟨_, _, rfl, rfl, rfl⟩ trivial ?_
        intro c5662 a w hs hw
        have hw := hw.addE (e := LenA data1.length l5661) (len_set (w := w) (S := S0) h5668 h5660)
        have h5663 := setM_len h5660
        try have hs := hs.fl 0 rfl h5663
        try have hs := hs.fl 85 rfl h5663
        try have hs := hs.fl 87 rfl h5663
        try have hs := hs.fl 90 rfl h5663
        try have hs := hs.fl 95 rfl h5663
        refine h_nx (hw.cs [] [] rfl rfl) fun hC => ?_
        refine h_done (by kernel_rfl) ?_
        exact ⟨Sv5612, c5662, (hs.wk rfl), (hw.ft [0] [4, 1, 0] (by decide) rfl rfl)⟩
       exact AllH.nil
      rintro a w ⟨Sv5664, c5662, hs, hw⟩
      refine blk_normal ?_
      refine then_normal ?_
      refine wp_region_lit ?_
      refine mv hs rfl rfl fun a hs => ?_
      refine sv hs (y_sub rfl rfl) rfl fun a hs => ?_
      obtain ⟨j5670, h5669, hsh⟩ := bind_t hsh
      refine sv hs (y_assignI rfl h5669) rfl fun a hs => ?_
      refine nl ?_
      exact ⟨_, (Option.some.inj hsh).symm, c5662, Sv5664, (hs.wk rfl), (hw.ft [0] [0, 1, 2] (by decide) rfl rfl)⟩
     have hsh := ite_f hsh h5524
     refine wp_exit ?_
     refine then_exit ?_
     refine then_exit ?_
     refine blk_exit ?_
     have hsh := oi hsh
     subst hsh
     have h5671 := hd5517 _ rfl
     subst h5671
     refine then_normal ?_
     exact ⟨c5445, Sv5446, (hs.wk rfl), (hw.ft [0] [0, 1, 2] (by decide) rfl rfl)⟩
    rintro a w ⟨c5521, Sv5522, hs, hw⟩
    refine then_normal ?_
    exact ⟨e5520, c5521, Sv5522, hsh, (hs.wk rfl), (hw.ft [0] [0, 1, 2] (by decide) rfl rfl)⟩
   have hsh := ite_f hsh h5299
   refine wp_skip ?_
   refine then_normal ?_
   exact ⟨l4461, c4462, Sv4464, hsh, (hs.wk rfl), (hw.ft [0] [0, 1, 2] (by decide) rfl rfl)⟩
  rintro a w ⟨data4695, c4693, Sv4694, hsh, hs, hw⟩
  delta slices_partialInsertionSortCmpFunc_api_Span_j2 at hsh
  refine then_normal ?_
  refine sr ?_
  refine mv hs rfl rfl fun a hs => ?_
  refine mv hs rfl rfl fun a hs => ?_
  refine sv hs (y_sub rfl rfl) rfl fun a hs => ?_
  refine sv hs (y_geq rfl rfl) rfl fun a hs => ?_
  refine nl ?_
  refine wp_join (fun a w => ∃ (data4922 : (List Span)) (c4920 : List Value) (Sv4921 : Nat → Prop), slices_partialInsertionSortCmpFunc_api_Span_j3 sv1831 e4344 data4922 = some tv3646 ∧ Sl 141 [(0, .slice (some ⟨b4425, 0, none⟩) data4922.length k3), (1, .int .i64 a6), (2, .int .i64 b7), (3, .func (.func g9) f10.toArray cp11.toArray), (9, .int .i64 e4344), (10, .int .i64 sv1831.2.2)] a ∧ Wd ⟨w0, S0, blks [.row (some ⟨b4425, 0, none⟩) data1.length k3 c4 46 2]⟩ Sv4921 [.row (some ⟨b4425, 0, none⟩) data4922.length k3 c4920 46 2] [FnA2 Try.prog g9 f10 cp11 cmp8, RowA c4920 data4922, LenA data1.length data4922] w) ?_ ?_
  ·refine wp_cond_split (hs.ev rfl) (fun h4925 => ?_) (fun h4925 => ?_)
   ·have hsh := ite_t hsh h4925
    refine sr ?_
    refine mv hs rfl rfl fun a hs => ?_
    refine sv hs (y_add rfl rfl) rfl fun a hs => ?_
    obtain ⟨j4927, h4926, hsh⟩ := bind_t hsh
    refine sv hs (y_assignI rfl h4926) rfl fun a hs => ?_
    refine nl ?_
    obtain ⟨e5146, h5298, hsh⟩ := bind_t hsh
    refine wp_join (fun a w => ∃ (c5147 : List Value) (Sv5148 : Nat → Prop), Sl 141 [(0, .slice (some ⟨b4425, 0, none⟩) e5146.length k3), (1, .int .i64 a6), (2, .int .i64 b7), (3, .func (.func g9) f10.toArray cp11.toArray), (9, .int .i64 e4344), (10, .int .i64 sv1831.2.2)] a ∧ Wd ⟨w0, S0, blks [.row (some ⟨b4425, 0, none⟩) data1.length k3 c4 46 2]⟩ Sv5148 [.row (some ⟨b4425, 0, none⟩) e5146.length k3 c5147 46 2] [FnA2 Try.prog g9 f10 cp11 cmp8, RowA c5147 e5146, LenA data1.length e5146] w) ?_ ?_
    ·refine wp_block ?_
     refine wp_while (fun sv4928 a w => ∃ (c5071 : List Value) (Sv5072 : Nat → Prop), Sl 141 [(0, .slice (some ⟨b4425, 0, none⟩) sv4928.1.length k3), (1, .int .i64 a6), (2, .int .i64 b7), (3, .func (.func g9) f10.toArray cp11.toArray), (9, .int .i64 e4344), (10, .int .i64 sv1831.2.2), (12, .int .i64 sv4928.2)] a ∧ Wd ⟨w0, S0, blks [.row (some ⟨b4425, 0, none⟩) data1.length k3 c4 46 2]⟩ Sv5072 [.row (some ⟨b4425, 0, none⟩) sv4928.1.length k3 c5071 46 2] [FnA2 Try.prog g9 f10 cp11 cmp8, RowA c5071 sv4928.1, LenA data1.length sv4928.1] w) (data4695, j4927) h5298 ⟨c4693, Sv4694, (hs.wk rfl), (hw.ft [0] [0, 1, 2] (by decide) rfl rfl)⟩ ?_
     clear h5298
     repeat clear hsh
     rintro sv4928 a w tv5144 ⟨c5071, Sv5072, hs, hw⟩ hsh hd5143
     delta slices_partialInsertionSortCmpFunc_api_Span_l27 at hsh
     refine wp_seq ?_
     refine sr ?_
     refine mv hs rfl rfl fun a hs => ?_
     refine mv hs rfl rfl fun a hs => ?_
     refine sv hs (y_lss rfl rfl) rfl fun a hs => ?_
     refine nl ?_
     refine wp_cond_split (hs.ev rfl) (fun h5150 => ?_) (fun h5150 => ?_)
     ·have hsh := ite_t hsh h5150
      refine wp_skip ?_
      refine then_normal ?_
      refine wp_seq ?_
      refine wp_block ?_
      refine wp_seq ?_
      refine wp_seq ?_
      obtain ⟨x5220, h5218, hsh⟩ := bind_t hsh
      obtain ⟨q5224, c5225, h5221, h5222, h5226, h5219⟩ := hw.elemRK (α := Span) 0 rfl 1 rfl h5218
      obtain ⟨_, _, rfl, rfl, rfl⟩ := h5219
      obtain ⟨x5229, h5227, hsh⟩ := bind_t hsh
      obtain ⟨q5233, c5234, h5230, h5231, h5235, h5228⟩ := hw.elemRK (α := Span) 0 rfl 1 rfl h5227
      obtain ⟨_, _, rfl, rfl, rfl⟩ := h5228
      obtain ⟨rv5237, h5236, hsh⟩ := bind_t hsh
      refine wp_only (fun a w => ∃ (Sv5238 : Nat → Prop), Sl 141 [(0, .slice (some ⟨b4425, 0, none⟩) sv4928.1.length k3), (1, .int .i64 a6), (2, .int .i64 b7), (3, .func (.func g9) f10.toArray cp11.toArray), (9, .int .i64 e4344), (10, .int .i64 sv1831.2.2), (12, .int .i64 sv4928.2), (124, .bool (!(decide (rv5237 < 0))))] a ∧ Wd ⟨w0, S0, blks [.row (some ⟨b4425, 0, none⟩) data1.length k3 c4 46 2]⟩ Sv5238 [.row (some ⟨b4425, 0, none⟩) sv4928.1.length k3 c5071 46 2] [FnA2 Try.prog g9 f10 cp11 cmp8, RowA c5071 sv4928.1, LenA data1.length sv4928.1] w) ?_ ?_
      ·refine h_b (C := Cls [.row (some ⟨b4425, 0, none⟩) sv4928.1.length k3 c5071 46 2] []) (by kernel_rfl) rfl (hw.drew.cs [0] [] rfl rfl) fun hC => ?_
       have hw := hw.drew
       refine gm hs 0 rfl rfl rfl hC fun a hs => ?_
       refine gm hs 1 rfl rfl rfl hC fun a hs => ?_
       refine gm hs 2 rfl rfl rfl hC fun a hs => ?_
       refine gv hs 3 rfl rfl hC (fun w hC => y_indexAt Try.runUnderlying27 Try.sizeOf46 rfl rfl h5221.1 h5221.2 h5222) fun a hs => ?_
       refine gv hs 4 rfl rfl hC (fun w hC => y_loadQA (j := 0) (hC.ownAt 0 rfl) rfl Try.isAgg46 Try.sizeOf46 h5226 rfl rfl) fun a hs => ?_
       refine gm hs 5 rfl rfl rfl hC fun a hs => ?_
       refine gm hs 6 rfl rfl rfl hC fun a hs => ?_
       refine gv hs 7 rfl rfl hC (fun w hC => y_sub rfl rfl) fun a hs => ?_
       refine gv hs 8 rfl rfl hC (fun w hC => y_indexAt Try.runUnderlying27 Try.sizeOf46 rfl rfl h5230.1 h5230.2 h5231) fun a hs => ?_
       refine gv hs 9 rfl rfl hC (fun w hC => y_loadQA (j := 0) (hC.ownAt 0 rfl) rfl Try.isAgg46 Try.sizeOf46 h5235 rfl rfl) fun a hs => ?_
       refine ho 10 rfl ?_
       refine st_callR hs ((hw.bE 0 rfl).2 Keep.rfl' hw.bdom ⟨_, _, rfl, rfl, rfl⟩ ⟨_, _, rfl, rfl, rfl⟩ h5236) (do_callF (hw.bE 0 rfl).1 rfl rfl) trivial rfl rfl ?_
       intro v5242 Sv5239 w a h5240 h5241 hs
       subst h5241
       have hw := hw.callB h5240
       refine h_nx (hw.cs [0] [] rfl rfl) fun hC => ?_
       refine gv hs 11 rfl rfl hC (fun w hC => y_lss rfl rfl) fun a hs => ?_
       refine gv hs 12 rfl rfl hC (fun w hC => y_not rfl) fun a hs => ?_
       refine h_done (by kernel_rfl) ?_
       exact ⟨Sv5072, (hs.wk rfl), (hw.ft [0] [0, 1, 2] (by decide) rfl rfl)⟩
      rintro a w ⟨Sv5238, hs, hw⟩
      refine then_normal ?_
      refine wp_cond_split (hs.ev rfl) (fun h5244 => ?_) (fun h5244 => ?_)
      ·have hsh := ite_t hsh h5244
       refine wp_exit ?_
       refine then_exit ?_
       refine blk_other rfl ?_
       refine then_exit ?_
       refine then_exit ?_
       refine blk_exit ?_
       have hsh := oi hsh
       subst hsh
       have h5245 := hd5143 _ rfl
       subst h5245
       refine then_normal ?_
       exact ⟨c5071, Sv5238, (hs.wk rfl), (hw.ft [0] [0, 1, 2] (by decide) rfl rfl)⟩
      have hsh := ite_f hsh h5244
      refine wp_skip ?_
      refine then_normal ?_
      obtain ⟨x5248, h5246, hsh⟩ := bind_t hsh
      obtain ⟨q5252, c5253, h5249, h5250, h5254, h5247⟩ := hw.elemRK (α := Span) 0 rfl 1 rfl h5246
      obtain ⟨_, _, rfl, rfl, rfl⟩ := h5247
      obtain ⟨x5257, h5255, hsh⟩ := bind_t hsh
      obtain ⟨q5261, c5262, h5258, h5259, h5263, h5256⟩ := hw.elemRK (α := Span) 0 rfl 1 rfl h5255
      obtain ⟨_, _, rfl, rfl, rfl⟩ := h5256
      obtain ⟨x5266, h5264, hsh⟩ := bind_t hsh
      obtain ⟨q5270, c5271, h5267, h5268, h5272, h5265⟩ := hw.elemRK (α := Span) 0 rfl 1 rfl h5264
      obtain ⟨_, _, rfl, rfl, rfl⟩ := h5265
      obtain ⟨l5274, h5273, hsh⟩ := bind_t hsh
      obtain ⟨x5279, h5277, hsh⟩ := bind_t hsh
      obtain ⟨l5287, h5286, hsh⟩ := bind_t hsh
      refine wp_only (fun a w => ∃ (Sv5290 : Nat → Prop) (c5288 : List Value), Sl 141 [(0, .slice (some ⟨b4425, 0, none⟩) l5287.length k3), (1, .int .i64 a6), (2, .int .i64 b7), (3, .func (.func g9) f10.toArray cp11.toArray), (9, .int .i64 e4344), (10, .int .i64 sv1831.2.2), (12, .int .i64 sv4928.2)] a ∧ Wd ⟨w0, S0, blks [.row (some ⟨b4425, 0, none⟩) data1.length k3 c4 46 2]⟩ Sv5290 [.row (some ⟨b4425, 0, none⟩) l5287.length k3 c5288 46 2] [FnA2 Try.prog g9 f10 cp11 cmp8, RowA c5288 l5287, LenA data1.length l5287] w) ?_ ?_
      ·refine h_b (C := Cls [] []) (by kernel_rfl) rfl (hw.drew.cs [] [] rfl rfl) fun hC => ?_
       have hw := hw.drew
       refine gm hs 0 rfl rfl rfl hC fun a hs => ?_
       refine gm hs 1 rfl rfl rfl hC fun a hs => ?_
       refine gm hs 2 rfl rfl rfl hC fun a hs => ?_
       refine gm hs 3 rfl rfl rfl hC fun a hs => ?_
       refine gv hs 4 rfl rfl hC (fun w hC => y_sub rfl rfl) fun a hs => ?_
       refine gm hs 5 rfl rfl rfl hC fun a hs => ?_
       refine gm hs 6 rfl rfl rfl hC fun a hs => ?_
       refine gv hs 7 rfl rfl hC (fun w hC => y_sub rfl rfl) fun a hs => ?_
       refine gv hs 8 rfl rfl hC (fun w hC => y_indexAt Try.runUnderlying27 Try.sizeOf46 rfl rfl h5249.1 h5249.2 h5250) fun a hs => ?_
       refine gm hs 10 rfl rfl rfl hC fun a hs => ?_
       refine gm hs 11 rfl rfl rfl hC fun a hs => ?_
       refine gv hs 12 rfl rfl hC (fun w hC => y_indexAt Try.runUnderlying27 Try.sizeOf46 rfl rfl h5258.1 h5258.2 h5259) fun a hs => ?_
       refine h_all (rs := [9, 13]) (by kernel_rfl) rfl ?_
       refine AllH.cons rfl ?_ ?_
       ·refine sv hs (y_loadQA (j := 0) (hw.ownAt 0 rfl) rfl Try.isAgg46 Try.sizeOf46 h5254 rfl rfl) rfl fun a hs => ?_
        refine h_nx (hw.cs [] [] rfl rfl) fun hC => ?_
        refine ho 13 rfl ?_
        refine sv hs (y_loadQA (j := 0) (hw.ownAt 0 rfl) rfl Try.isAgg46 Try.sizeOf46 h5263 rfl rfl) rfl fun a hs => ?_
        refine h_nx (hw.cs [] [] rfl rfl) fun hC => ?_
        refine gv hs 14 rfl rfl hC (fun w hC => y_indexAt Try.runUnderlying27 Try.sizeOf46 rfl rfl h5267.1 h5267.2 h5268) fun a hs => ?_
        refine ho 15 rfl ?_
        have h5291 := hw.envAt 2 rfl
        refine w_storeF (α := Span) hs hw 0 rfl 1 rfl h5268 rfl rfl Try.sizeOf46 rfl h5273 ⟨_, _, rfl, rfl, rfl⟩ trivial ?_
        intro c5275 a w hs hw
        have hw := hw.addE (e := LenA data1.length l5274) (len_set (w := w) (S := S0) h5291 h5273)
        have h5276 := setM_len h5273
        try have hs := hs.fl 0 rfl h5276
        try have hs := hs.fl 125 rfl h5276
        try have hs := hs.fl 127 rfl h5276
        try have hs := hs.fl 130 rfl h5276
        try have hs := hs.fl 135 rfl h5276
        refine h_nx (hw.cs [] [] rfl rfl) fun hC => ?_
        refine ho 16 rfl ?_
        obtain ⟨c5284, h5280, h5285, h5278⟩ := hw.elemRX (α := Span) 0 rfl 1 rfl h5277
        obtain ⟨_, _, rfl, rfl, rfl⟩ := h5278
        refine sv hs (y_indexAt Try.runUnderlying27 Try.sizeOf46 rfl rfl h5280.1 h5280.2 rfl) rfl fun a hs => ?_
        refine h_nx (hw.cs [] [] rfl rfl) fun hC => ?_
        refine ho 17 rfl ?_
        have h5292 := hw.envAt 0 rfl
        refine w_storeF (α := Span) hs hw 0 rfl 1 rfl rfl rfl rfl Try.sizeOf46 rfl h5286 ⟨_, _, rfl, rfl, rfl⟩ trivial ?_
        intro c5288 a w hs hw
        have hw := hw.addE (e := LenA data1.length l5287) (len_set (w := w) (S := S0) h5292 h5286)
        have h5289 := setM_len h5286
        try have hs := hs.fl 0 rfl h5289
        try have hs := hs.fl 125 rfl h5289
        try have hs := hs.fl 127 rfl h5289
        try have hs := hs.fl 130 rfl h5289
        try have hs := hs.fl 135 rfl h5289
        refine h_nx (hw.cs [] [] rfl rfl) fun hC => ?_
        refine h_done (by kernel_rfl) ?_
        exact ⟨Sv5238, c5288, (hs.wk rfl), (hw.ft [0] [4, 1, 0] (by decide) rfl rfl)⟩
       refine AllH.cons rfl ?_ ?_
       ·refine sv hs (y_loadQA (j := 0) (hw.ownAt 0 rfl) rfl Try.isAgg46 Try.sizeOf46 h5263 rfl rfl) rfl fun a hs => ?_
        refine h_nx (hw.cs [] [] rfl rfl) fun hC => ?_
        refine ho 9 rfl ?_
        refine sv hs (y_loadQA (j := 0) (hw.ownAt 0 rfl) rfl Try.isAgg46 Try.sizeOf46 h5254 rfl rfl) rfl fun a hs => ?_
        refine h_nx (hw.cs [] [] rfl rfl) fun hC => ?_
        refine gv hs 14 rfl rfl hC (fun w hC => y_indexAt Try.runUnderlying27 Try.sizeOf46 rfl rfl h5267.1 h5267.2 h5268) fun a hs => ?_
        refine ho 15 rfl ?_
        have h5293 := hw.envAt 2 rfl
        refine w_storeF (α := Span) hs hw 0 rfl 1 rfl h5268 rfl rfl Try.sizeOf46 rfl h5273 ⟨_, _, rfl, rfl, rfl⟩ trivial ?_
        intro c5275 a w hs hw
        have hw := hw.addE (e := LenA data1.length l5274) (len_set (w := w) (S := S0) h5293 h5273)
        have h5276 := setM_len h5273
        try have hs := hs.fl 0 rfl h5276
        try have hs := hs.fl 125 rfl h5276
        try have hs := hs.fl 127 rfl h5276
        try have hs := hs.fl 130 rfl h5276
        try have hs := hs.fl 135 rfl h5276
        refine h_nx (hw.cs [] [] rfl rfl) fun hC => ?_
        refine ho 16 rfl ?_
        obtain ⟨c5284, h5280, h5285, h5278⟩ := hw.elemRX (α := Span) 0 rfl 1 rfl h5277
        obtain ⟨_, _, rfl, rfl, rfl⟩ := h5278
        refine sv hs (y_indexAt Try.runUnderlying27 Try.sizeOf46 rfl rfl h5280.1 h5280.2 rfl) rfl fun a hs => ?_
        refine h_nx (hw.cs [] [] rfl rfl) fun hC => ?_
        refine ho 17 rfl ?_
        have h5294 := hw.envAt 0 rfl
        refine w_storeF (α := Span) hs hw 0 rfl 1 rfl rfl rfl rfl Try.sizeOf46 rfl h5286 ⟨_, _, rfl, rfl, rfl⟩ trivial ?_
        intro c5288 a w hs hw
        have hw := hw.addE (e := LenA data1.length l5287) (len_set (w := w) (S := S0) h5294 h5286)
        have h5289 := setM_len h5286
        try have hs := hs.fl 0 rfl h5289
        try have hs := hs.fl 125 rfl h5289
        try have hs := hs.fl 127 rfl h5289
        try have hs := hs.fl 130 rfl h5289
        try have hs := hs.fl 135 rfl h5289
        refine h_nx (hw.cs [] [] rfl rfl) fun hC => ?_
        refine h_done (by kernel_rfl) ?_
        exact ⟨Sv5238, c5288, (hs.wk rfl), (hw.ft [0] [4, 1, 0] (by decide) rfl rfl)⟩
       exact AllH.nil
      rintro a w ⟨Sv5290, c5288, hs, hw⟩
      refine blk_normal ?_
      refine then_normal ?_
      refine wp_region_lit ?_
      refine mv hs rfl rfl fun a hs => ?_
      refine sv hs (y_add rfl rfl) rfl fun a hs => ?_
      obtain ⟨j5296, h5295, hsh⟩ := bind_t hsh
      refine sv hs (y_assignI rfl h5295) rfl fun a hs => ?_
      refine nl ?_
      exact ⟨_, (Option.some.inj hsh).symm, c5288, Sv5290, (hs.wk rfl), (hw.ft [0] [0, 1, 2] (by decide) rfl rfl)⟩
     have hsh := ite_f hsh h5150
     refine wp_exit ?_
     refine then_exit ?_
     refine then_exit ?_
     refine blk_exit ?_
     have hsh := oi hsh
     subst hsh
     have h5297 := hd5143 _ rfl
     subst h5297
     refine then_normal ?_
     exact ⟨c5071, Sv5072, (hs.wk rfl), (hw.ft [0] [0, 1, 2] (by decide) rfl rfl)⟩
    rintro a w ⟨c5147, Sv5148, hs, hw⟩
    refine then_normal ?_
    exact ⟨e5146, c5147, Sv5148, hsh, (hs.wk rfl), (hw.ft [0] [0, 1, 2] (by decide) rfl rfl)⟩
   have hsh := ite_f hsh h4925
   refine wp_skip ?_
   refine then_normal ?_
   exact ⟨data4695, c4693, Sv4694, hsh, (hs.wk rfl), (hw.ft [0] [0, 1, 2] (by decide) rfl rfl)⟩
  rintro a w ⟨data4922, c4920, Sv4921, hsh, hs, hw⟩
  delta slices_partialInsertionSortCmpFunc_api_Span_j3 at hsh
  refine blk_normal ?_
  refine then_normal ?_
  refine wp_region_lit ?_
  refine mv hs rfl rfl fun a hs => ?_
  refine sv hs (y_add rfl rfl) rfl fun a hs => ?_
  obtain ⟨j4924, h4923, hsh⟩ := bind_t hsh
  refine sv hs (y_assignI rfl h4923) rfl fun a hs => ?_
  refine nl ?_
  exact ⟨_, (Option.some.inj hsh).symm, c4920, Sv4921, (hs.wk rfl), (hw.ft [0] [0, 1, 2] (by decide) rfl rfl)⟩
 have hsh := ite_f hsh h3650
 obtain ⟨rv5674, hsh, h5675⟩ := map_t hsh
 have h5675 := (hd3645 _ h5675.symm).symm
 subst h5675
 refine wp_exit ?_
 refine then_exit ?_
 refine then_exit ?_
 refine blk_exit ?_
 refine then_normal ?_
 refine sr ?_
 refine av hs rfl rfl fun a hs => ?_
 refine nl ?_
 have hsh := oi hsh
 subst hsh
 refine wp_ret ?_
 exact ret1 hs rfl (rv_tmp rfl) (hw.ret ⟨c3040, rfl, (hw.outs [0] (by decide) rfl), (hw.envAt 1 rfl), (hw.envAt 2 rfl)⟩)

abbrev slices_partitionEqualCmpFunc_api_Span_rd (w0 : World) (X : List Nat) (p2 : Option Addr) (k3 : Nat) (data1 : (List Span)) (r : (Int × (List Span))) : (Nat → Prop) → World → Value → Prop := fun S w v => ∃ (ck_0 : List Value), v = .int .i64 r.1 ∧ Outs X w0 S w [.row p2 r.2.length k3 ck_0 46 2] ∧ (RowA ck_0 r.2).p S w ∧ (LenA data1.length r.2).p S w
set_option maxHeartbeats 4000000 in
set_option maxRecDepth 100000 in
theorem slices_partitionEqualCmpFunc_api_Span_ok {w0 : World} {S0 : Nat → Prop} {p2 : Option Addr} {k3 : Nat} {c4 : List Value} {g10 : Nat} {f11 : List Value} {cp12 : List Value} {data1 : (List Span)} {a6 : Int} {b7 : Int} {pivot8 : Int} {cmp9 : Span → Span → Option Int} {r : (Int × (List Span))} (hsh : slices_partitionEqualCmpFunc_api_Span data1 a6 b7 pivot8 cmp9 = some r) (hS : ∀ b, S0 b → b < w0.heap.size) (hin : Ins S0 w0 [.row p2 data1.length k3 c4 46 2]) (h5 : (RowA c4 data1).p S0 w0) (h13 : (FnA2 Try.prog g10 f11 cp12 cmp9).p S0 w0) : Calls Try.prog 76 #[.slice p2 data1.length k3, .int .i64 a6, .int .i64 b7, .int .i64 pivot8, .func (.func g10) f11.toArray cp12.toArray] w0 (Ret (blks [.row p2 data1.length k3 c4 46 2]) w0 S0 (slices_partitionEqualCmpFunc_api_Span_rd w0 (blks [.row p2 data1.length k3 c4 46 2]) p2 k3 data1 r)) := by
 refine calls_of_wp Try.func76 rfl ?_
 have hs := Sl.enter #[.slice p2 data1.length k3, .int .i64 a6, .int .i64 b7, .int .i64 pivot8, .func (.func g10) f11.toArray cp12.toArray] 90 [(0, .slice p2 data1.length k3), (1, .int .i64 a6), (2, .int .i64 b7), (3, .int .i64 pivot8), (4, .func (.func g10) f11.toArray cp12.toArray)] rfl ⟨rfl, rfl, rfl, rfl, rfl, trivial⟩
 have hw := Wd.enterI hS hin
 have hw := hw.addE h5
 have hw := hw.addE (e := LenA data1.length data1) len_rfl
 have hw := hw.addE h13
 delta slices_partitionEqualCmpFunc_api_Span at hsh
 refine sr ?_
 refine av hs rfl rfl fun a hs => ?_
 refine nl ?_
 refine wp_seq ?_
 obtain ⟨x16, h14, hsh⟩ := bind_t hsh
 obtain ⟨b23, q20, c21, h24, h17, h18, h22, h15⟩ := hw.elemRV (α := Span) 0 rfl 2 rfl h14
 have hsv25 := hs
 have hwv26 := hw
 subst h24
 have hs := hsv25
 have hw := hwv26
 obtain ⟨_, _, rfl, rfl, rfl⟩ := h15
 obtain ⟨x29, h27, hsh⟩ := bind_t hsh
 obtain ⟨q33, c34, h30, h31, h35, h28⟩ := hw.elemRK (α := Span) 0 rfl 2 rfl h27
 obtain ⟨_, _, rfl, rfl, rfl⟩ := h28
 obtain ⟨x38, h36, hsh⟩ := bind_t hsh
 obtain ⟨q42, c43, h39, h40, h44, h37⟩ := hw.elemRK (α := Span) 0 rfl 2 rfl h36
 obtain ⟨_, _, rfl, rfl, rfl⟩ := h37
 obtain ⟨l46, h45, hsh⟩ := bind_t hsh
 obtain ⟨x51, h49, hsh⟩ := bind_t hsh
 obtain ⟨l59, h58, hsh⟩ := bind_t hsh
 refine wp_only (fun a w => ∃ (Sv62 : Nat → Prop) (c60 : List Value), Sl 90 [(0, .slice (some ⟨b23, 0, none⟩) l59.length k3), (1, .int .i64 a6), (2, .int .i64 b7), (4, .func (.func g10) f11.toArray cp12.toArray)] a ∧ Wd ⟨w0, S0, blks [.row (some ⟨b23, 0, none⟩) data1.length k3 c4 46 2]⟩ Sv62 [.row (some ⟨b23, 0, none⟩) l59.length k3 c60 46 2] [FnA2 Try.prog g10 f11 cp12 cmp9, RowA c60 l59, LenA data1.length l59] w) ?_ ?_
 ·refine h_b (C := Cls [] []) (by kernel_rfl) rfl (hw.drew.cs [] [] rfl rfl) fun hC => ?_
  have hw := hw.drew
  refine gm hs 0 rfl rfl rfl hC fun a hs => ?_
  refine gm hs 1 rfl rfl rfl hC fun a hs => ?_
  refine gm hs 2 rfl rfl rfl hC fun a hs => ?_
  refine gm hs 3 rfl rfl rfl hC fun a hs => ?_
  refine gm hs 4 rfl rfl rfl hC fun a hs => ?_
  refine gm hs 5 rfl rfl rfl hC fun a hs => ?_
  refine gv hs 6 rfl rfl hC (fun w hC => y_indexAt Try.runUnderlying27 Try.sizeOf46 rfl rfl h17.1 h17.2 h18) fun a hs => ?_
  refine gm hs 8 rfl rfl rfl hC fun a hs => ?_
  refine gm hs 9 rfl rfl rfl hC fun a hs => ?_
  refine gv hs 10 rfl rfl hC (fun w hC => y_indexAt Try.runUnderlying27 Try.sizeOf46 rfl rfl h30.1 h30.2 h31) fun a hs => ?_
  refine h_all (rs := [7, 11]) (by kernel_rfl) rfl ?_
  refine AllH.cons rfl ?_ ?_
  ·refine sv hs (y_loadQA (j := 0) (hw.ownAt 0 rfl) rfl Try.isAgg46 Try.sizeOf46 h22 rfl rfl) rfl fun a hs => ?_
   refine h_nx (hw.cs [] [] rfl rfl) fun hC => ?_
   refine ho 11 rfl ?_
   refine sv hs (y_loadQA (j := 0) (hw.ownAt 0 rfl) rfl Try.isAgg46 Try.sizeOf46 h35 rfl rfl) rfl fun a hs => ?_
   refine h_nx (hw.cs [] [] rfl rfl) fun hC => ?_
   refine gv hs 12 rfl rfl hC (fun w hC => y_indexAt Try.runUnderlying27 Try.sizeOf46 rfl rfl h39.1 h39.2 h40) fun a hs => ?_
   refine ho 13 rfl ?_
   have h63 := hw.envAt 1 rfl
   refine w_storeF (α := Span) hs hw 0 rfl 2 rfl h40 rfl rfl Try.sizeOf46 rfl h45 ⟨_, _, rfl, rfl, rfl⟩ trivial ?_
   intro c47 a w hs hw
   have hw := hw.addE (e := LenA data1.length l46) (len_set (w := w) (S := S0) h63 h45)
   have h48 := setM_len h45
   try have hs := hs.fl 0 rfl h48
   try have hs := hs.fl 13 rfl h48
   try have hs := hs.fl 15 rfl h48
   try have hs := hs.fl 17 rfl h48
   try have hs := hs.fl 21 rfl h48
   refine h_nx (hw.cs [] [] rfl rfl) fun hC => ?_
   refine ho 14 rfl ?_
   obtain ⟨c56, h52, h57, h50⟩ := hw.elemRX (α := Span) 0 rfl 1 rfl h49
   obtain ⟨_, _, rfl, rfl, rfl⟩ := h50
   refine sv hs (y_indexAt Try.runUnderlying27 Try.sizeOf46 rfl rfl h52.1 h52.2 rfl) rfl fun a hs => ?_
   refine h_nx (hw.cs [] [] rfl rfl) fun hC => ?_
   refine ho 15 rfl ?_
   have h64 := hw.envAt 0 rfl
   refine w_storeF (α := Span) hs hw 0 rfl 1 rfl rfl rfl rfl Try.sizeOf46 rfl h58 ⟨_, _, rfl, rfl, rfl⟩ trivial ?_
   intro c60 a w hs hw
   have hw := hw.addE (e := LenA data1.length l59) (len_set (w := w) (S := S0) h64 h58)
   have h61 := setM_len h58
   try have hs := hs.fl 0 rfl h61
   try have hs := hs.fl 13 rfl h61
   try have hs := hs.fl 15 rfl h61
   try have hs := hs.fl 17 rfl h61
   try have hs := hs.fl 21 rfl h61
   refine h_nx (hw.cs [] [] rfl rfl) fun hC => ?_
   refine h_done (by kernel_rfl) ?_
   exact ⟨S0, c60, (hs.wk rfl), (hw.ft [0] [4, 1, 0] (by decide) rfl rfl)⟩
  refine AllH.cons rfl ?_ ?_
  ·refine sv hs (y_loadQA (j := 0) (hw.ownAt 0 rfl) rfl Try.isAgg46 Try.sizeOf46 h35 rfl rfl) rfl fun a hs => ?_
   refine h_nx (hw.cs [] [] rfl rfl) fun hC => ?_
   refine ho 7 rfl ?_
   refine sv hs (y_loadQA (j := 0) (hw.ownAt 0 rfl) rfl Try.isAgg46 Try.sizeOf46 h22 rfl rfl) rfl fun a hs => ?_
   refine h_nx (hw.cs [] [] rfl rfl) fun hC => ?_
   refine gv hs 12 rfl rfl hC (fun w hC => y_indexAt Try.runUnderlying27 Try.sizeOf46 rfl rfl h39.1 h39.2 h40) fun a hs => ?_
   refine ho 13 rfl ?_
   have h65 := hw.envAt 1 rfl
   refine w_storeF (α := Span) hs hw 0 rfl 2 rfl h40 rfl rfl Try.sizeOf46 rfl h45 ⟨_, _, rfl, rfl, rfl⟩ trivial ?_
   intro c47 a w hs hw
   have hw := hw.addE (e := LenA data1.length l46) (len_set (w := w) (S := S0) h65 h45)
   have h48 := setM_len h45
   try have hs := hs.fl 0 rfl h48
   try have hs := hs.fl 13 rfl h48
   try have hs := hs.fl 15 rfl h48
   try have hs := hs.fl 17 rfl h48
   try have hs := hs.fl 21 rfl h48
   refine h_nx (hw.cs [] [] rfl rfl) fun hC => ?_
   refine ho 14 rfl ?_
   obtain ⟨c56, h52, h57, h50⟩ := hw.elemRX (α := Span) 0 rfl 1 rfl h49
   obtain ⟨_, _, rfl, rfl, rfl⟩ := h50
   refine sv hs (y_indexAt Try.runUnderlying27 Try.sizeOf46 rfl rfl h52.1 h52.2 rfl) rfl fun a hs => ?_
   refine h_nx (hw.cs [] [] rfl rfl) fun hC => ?_
   refine ho 15 rfl ?_
   have h66 := hw.envAt 0 rfl
   refine w_storeF (α := Span) hs hw 0 rfl 1 rfl rfl rfl rfl Try.sizeOf46 rfl h58 ⟨_, _, rfl, rfl, rfl⟩ trivial ?_
   intro c60 a w hs hw
   have hw := hw.addE (e := LenA data1.length l59) (len_set (w := w) (S := S0) h66 h58)
   have h61 := setM_len h58
   try have hs := hs.fl 0 rfl h61
   try have hs := hs.fl 13 rfl h61
   try have hs := hs.fl 15 rfl h61
   try have hs := hs.fl 17 rfl h61
   try have hs := hs.fl 21 rfl h61
   refine h_nx (hw.cs [] [] rfl rfl) fun hC => ?_
   refine h_done (by kernel_rfl) ?_
   exact ⟨S0, c60, (hs.wk rfl), (hw.ft [0] [4, 1, 0] (by decide) rfl rfl)⟩
  exact AllH.nil
 rintro a w ⟨Sv62, c60, hs, hw⟩
 refine then_normal ?_
 refine sr ?_
 refine mv hs rfl rfl fun a hs => ?_
 refine sv hs (y_add rfl rfl) rfl fun a hs => ?_
 refine mv hs rfl rfl fun a hs => ?_
 refine sv hs (y_sub rfl rfl) rfl fun a hs => ?_
 obtain ⟨i68, h67, hsh⟩ := bind_t hsh
 refine sv hs (y_assignI rfl h67) rfl fun a hs => ?_
 obtain ⟨j70, h69, hsh⟩ := bind_t hsh
 refine sv hs (y_assignI rfl h69) rfl fun a hs => ?_
 refine nl ?_
 refine wp_seq ?_
 obtain ⟨e727, h1282, hsh⟩ := bind_t hsh
 refine wp_join (fun a w => ∃ (c728 : List Value) (Sv729 : Nat → Prop), Sl 90 [(11, .int .i64 e727.1)] a ∧ Wd ⟨w0, S0, blks [.row (some ⟨b23, 0, none⟩) data1.length k3 c4 46 2]⟩ Sv729 [.row (some ⟨b23, 0, none⟩) e727.2.length k3 c728 46 2] [RowA c728 e727.2, LenA data1.length e727.2] w) ?_ ?_
 ·refine wp_block ?_
  refine wp_while (fun sv71 a w => ∃ (c506 : List Value) (Sv507 : Nat → Prop), Sl 90 [(0, .slice (some ⟨b23, 0, none⟩) sv71.1.length k3), (1, .int .i64 a6), (4, .func (.func g10) f11.toArray cp12.toArray), (11, .int .i64 sv71.2.1), (12, .int .i64 sv71.2.2)] a ∧ Wd ⟨w0, S0, blks [.row (some ⟨b23, 0, none⟩) data1.length k3 c4 46 2]⟩ Sv507 [.row (some ⟨b23, 0, none⟩) sv71.1.length k3 c506 46 2] [FnA2 Try.prog g10 f11 cp12 cmp9, RowA c506 sv71.1, LenA data1.length sv71.1] w) (l59, i68, j70) h1282 ⟨c60, Sv62, (hs.wk rfl), (hw.ft [0] [0, 1, 2] (by decide) rfl rfl)⟩ ?_
  clear h1282
  repeat clear hsh
  rintro sv71 a w tv725 ⟨c506, Sv507, hs, hw⟩ hsh hd724
  delta slices_partitionEqualCmpFunc_api_Span_l5 at hsh
  refine wp_block ?_
  refine wp_seq ?_
  obtain ⟨e1027, h1281, hsh⟩ := bind_t hsh
  refine wp_join (fun a w => ∃ (Sv1028 : Nat → Prop), Sl 90 [(0, .slice (some ⟨b23, 0, none⟩) sv71.1.length k3), (1, .int .i64 a6), (4, .func (.func g10) f11.toArray cp12.toArray), (11, .int .i64 e1027), (12, .int .i64 sv71.2.2)] a ∧ Wd ⟨w0, S0, blks [.row (some ⟨b23, 0, none⟩) data1.length k3 c4 46 2]⟩ Sv1028 [.row (some ⟨b23, 0, none⟩) sv71.1.length k3 c506 46 2] [FnA2 Try.prog g10 f11 cp12 cmp9, RowA c506 sv71.1, LenA data1.length sv71.1] w) ?_ ?_
  ·refine wp_block ?_
   refine wp_while (fun sv946 a w => ∃ (Sv998 : Nat → Prop), Sl 90 [(0, .slice (some ⟨b23, 0, none⟩) sv71.1.length k3), (1, .int .i64 a6), (4, .func (.func g10) f11.toArray cp12.toArray), (11, .int .i64 sv946), (12, .int .i64 sv71.2.2)] a ∧ Wd ⟨w0, S0, blks [.row (some ⟨b23, 0, none⟩) data1.length k3 c4 46 2]⟩ Sv998 [.row (some ⟨b23, 0, none⟩) sv71.1.length k3 c506 46 2] [FnA2 Try.prog g10 f11 cp12 cmp9, RowA c506 sv71.1, LenA data1.length sv71.1] w) sv71.2.1 h1281 ⟨Sv507, (hs.wk rfl), (hw.ft [0] [0, 1, 2] (by decide) rfl rfl)⟩ ?_
   clear h1281
   repeat clear hsh
   rintro sv946 a w tv1025 ⟨Sv998, hs, hw⟩ hsh hd1024
   delta slices_partitionEqualCmpFunc_api_Span_l10 at hsh
   refine wp_seq ?_
   refine wp_seq ?_
   obtain ⟨c1049, hc1049, hsh⟩ := bind_t hsh
   refine wp_only (fun a w => ∃ (Sv1050 : Nat → Prop), Sl 90 [(0, .slice (some ⟨b23, 0, none⟩) sv71.1.length k3), (1, .int .i64 a6), (4, .func (.func g10) f11.toArray cp12.toArray), (11, .int .i64 sv946), (12, .int .i64 sv71.2.2), (47, .bool c1049)] a ∧ Wd ⟨w0, S0, blks [.row (some ⟨b23, 0, none⟩) data1.length k3 c4 46 2]⟩ Sv1050 [.row (some ⟨b23, 0, none⟩) sv71.1.length k3 c506 46 2] [FnA2 Try.prog g10 f11 cp12 cmp9, RowA c506 sv71.1, LenA data1.length sv71.1] w) ?_ ?_
   ·rcases Bool.eq_false_or_eq_true (decide (sv946 ≤ sv71.2.2)) with h1051 | h1051
    ·have h1052 := ite_t hc1049 h1051
     obtain ⟨x1055, h1053, h1052⟩ := bind_t h1052
     obtain ⟨q1059, c1060, h1056, h1057, h1061, h1054⟩ := hw.elemRK (α := Span) 0 rfl 1 rfl h1053
     obtain ⟨_, _, rfl, rfl, rfl⟩ := h1054
     obtain ⟨x1064, h1062, h1052⟩ := bind_t h1052
     obtain ⟨q1068, c1069, h1065, h1066, h1070, h1063⟩ := hw.elemRK (α := Span) 0 rfl 1 rfl h1062
     obtain ⟨_, _, rfl, rfl, rfl⟩ := h1063
     obtain ⟨rv1072, h1071, h1052⟩ := bind_t h1052
     refine h_b (C := Cls [.row (some ⟨b23, 0, none⟩) sv71.1.length k3 c506 46 2] []) (by kernel_rfl) rfl (hw.drew.cs [0] [] rfl rfl) fun hC => ?_
     have hw := hw.drew
     refine gm hs 0 rfl rfl rfl hC fun a hs => ?_
     refine gm hs 1 rfl rfl rfl hC fun a hs => ?_
     refine gv hs 2 rfl rfl hC (fun w hC => y_leq rfl rfl) fun a hs => ?_
     refine gm hs 3 rfl rfl rfl hC fun a hs => ?_
     have hs := hs.fix 34 (.bool true) rfl (vb h1051)
     refine gt hs 4 rfl ⟨_, rfl, rfl⟩ rfl hC (fun w hC => y_move rfl) fun a hs => ?_
     refine gt hs 5 rfl ⟨_, rfl, rfl⟩ rfl hC (fun w hC => y_move rfl) fun a hs => ?_
     refine gt hs 6 rfl ⟨_, rfl, rfl⟩ rfl hC (fun w hC => y_move rfl) fun a hs => ?_
     refine gt hs 7 rfl ⟨_, rfl, rfl⟩ rfl hC (fun w hC => y_indexAt Try.runUnderlying27 Try.sizeOf46 rfl rfl h1056.1 h1056.2 h1057) fun a hs => ?_
     refine gt hs 8 rfl ⟨_, rfl, rfl⟩ rfl hC (fun w hC => y_loadQA (j := 0) (hC.ownAt 0 rfl) rfl Try.isAgg46 Try.sizeOf46 h1061 rfl rfl) fun a hs => ?_
     refine gt hs 9 rfl ⟨_, rfl, rfl⟩ rfl hC (fun w hC => y_move rfl) fun a hs => ?_
     refine gt hs 10 rfl ⟨_, rfl, rfl⟩ rfl hC (fun w hC => y_move rfl) fun a hs => ?_
     refine gt hs 11 rfl ⟨_, rfl, rfl⟩ rfl hC (fun w hC => y_indexAt Try.runUnderlying27 Try.sizeOf46 rfl rfl h1065.1 h1065.2 h1066) fun a hs => ?_
     refine gt hs 12 rfl ⟨_, rfl, rfl⟩ rfl hC (fun w hC => y_loadQA (j := 0) (hC.ownAt 0 rfl) rfl Try.isAgg46 Try.sizeOf46 h1070 rfl rfl) fun a hs => ?_
     refine ho 13 rfl ?_
     refine st_callR hs ((hw.bE 0 rfl).2 Keep.rfl' hw.bdom ⟨_, _, rfl, rfl, rfl⟩ ⟨_, _, rfl, rfl, rfl⟩ h1071) (do_callF (hw.bE 0 rfl).1 rfl rfl) ⟨_, rfl, rfl⟩ rfl rfl ?_
     intro v1076 Sv1073 w a h1074 h1075 hs
     subst h1075
     have hw := hw.callB h1074
     refine h_nx (hw.cs [0] [] rfl rfl) fun hC => ?_
     refine gt hs 14 rfl ⟨_, rfl, rfl⟩ rfl hC (fun w hC => y_lss rfl rfl) fun a hs => ?_
     refine gt hs 15 rfl ⟨_, rfl, rfl⟩ rfl hC (fun w hC => y_not rfl) fun a hs => ?_
     refine gv hs 16 rfl rfl hC (fun w hC => y_pickTE (v := .bool c1049) rfl rfl (vbs h1052)) fun a hs => ?_
     refine h_done (by kernel_rfl) ?_
     exact ⟨Sv998, (hs.wk rfl), (hw.ft [0] [0, 1, 2] (by decide) rfl rfl)⟩
    have h1077 := ite_f hc1049 h1051
    refine h_b (C := Cls [.row (some ⟨b23, 0, none⟩) sv71.1.length k3 c506 46 2] []) (by kernel_rfl) rfl (hw.drew.cs [0] [] rfl rfl) fun hC => ?_
    have hw := hw.drew
    refine gm hs 0 rfl rfl rfl hC fun a hs => ?_
    refine gm hs 1 rfl rfl rfl hC fun a hs => ?_
    refine gv hs 2 rfl rfl hC (fun w hC => y_leq rfl rfl) fun a hs => ?_
    refine gm hs 3 rfl rfl rfl hC fun a hs => ?_
    have hs := hs.fix 34 (.bool false) rfl (vb h1051)
    refine gs hs 4 rfl rfl rfl rfl hC fun a hs => ?_
    refine gs hs 5 rfl rfl rfl rfl hC fun a hs => ?_
    refine gs hs 6 rfl rfl rfl rfl hC fun a hs => ?_
    refine gs hs 7 rfl rfl rfl rfl hC fun a hs => ?_
    refine gs hs 8 rfl rfl rfl rfl hC fun a hs => ?_
    refine gs hs 9 rfl rfl rfl rfl hC fun a hs => ?_
    refine gs hs 10 rfl rfl rfl rfl hC fun a hs => ?_
    refine gs hs 11 rfl rfl rfl rfl hC fun a hs => ?_
    refine gs hs 12 rfl rfl rfl rfl hC fun a hs => ?_
    refine gs hs 13 rfl rfl rfl rfl hC fun a hs => ?_
    refine gs hs 14 rfl rfl rfl rfl hC fun a hs => ?_
    refine gs hs 15 rfl rfl rfl rfl hC fun a hs => ?_
    refine gv hs 16 rfl rfl hC (fun w hC => y_pickFE (v := .bool c1049) rfl rfl (vbs h1077)) fun a hs => ?_
    refine h_done (by kernel_rfl) ?_
    exact ⟨Sv998, (hs.wk rfl), (hw.ft [0] [0, 1, 2] (by decide) rfl rfl)⟩
   rintro a w ⟨Sv1050, hs, hw⟩
   refine then_normal ?_
   refine wp_cond_split (hs.ev rfl) (fun h1079 => ?_) (fun h1079 => ?_)
   ·have hsh := ite_t hsh h1079
    refine wp_skip ?_
    refine then_normal ?_
    refine wp_block ?_
    refine wp_region_lit ?_
    refine mv hs rfl rfl fun a hs => ?_
    refine sv hs (y_add rfl rfl) rfl fun a hs => ?_
    obtain ⟨i1083, h1082, hsh⟩ := bind_t hsh
    refine sv hs (y_assignI rfl h1082) rfl fun a hs => ?_
    refine wpList_nil ?_
    refine blk_normal ?_
    refine then_normal ?_
    exact ⟨_, (Option.some.inj hsh).symm, Sv1050, (hs.wk rfl), (hw.ft [0] [0, 1, 2] (by decide) rfl rfl)⟩
   have hsh := ite_f hsh h1079
   refine wp_exit ?_
   refine then_exit ?_
   refine then_exit ?_
   refine blk_exit ?_
   have hsh := oi hsh
   subst hsh
   have h1084 := hd1024 _ rfl
   subst h1084
   refine then_normal ?_
   exact ⟨Sv1050, (hs.wk rfl), (hw.ft [0] [0, 1, 2] (by decide) rfl rfl)⟩
  rintro a w ⟨Sv1028, hs, hw⟩
  refine then_normal ?_
  refine wp_seq ?_
  obtain ⟨e1166, h1280, hsh⟩ := bind_t hsh
  refine wp_join (fun a w => ∃ (Sv1167 : Nat → Prop), Sl 90 [(0, .slice (some ⟨b23, 0, none⟩) sv71.1.length k3), (1, .int .i64 a6), (4, .func (.func g10) f11.toArray cp12.toArray), (11, .int .i64 e1027), (12, .int .i64 e1166)] a ∧ Wd ⟨w0, S0, blks [.row (some ⟨b23, 0, none⟩) data1.length k3 c4 46 2]⟩ Sv1167 [.row (some ⟨b23, 0, none⟩) sv71.1.length k3 c506 46 2] [FnA2 Try.prog g10 f11 cp12 cmp9, RowA c506 sv71.1, LenA data1.length sv71.1] w) ?_ ?_
  ·refine wp_block ?_
   refine wp_while (fun sv1085 a w => ∃ (Sv1137 : Nat → Prop), Sl 90 [(0, .slice (some ⟨b23, 0, none⟩) sv71.1.length k3), (1, .int .i64 a6), (4, .func (.func g10) f11.toArray cp12.toArray), (11, .int .i64 e1027), (12, .int .i64 sv1085)] a ∧ Wd ⟨w0, S0, blks [.row (some ⟨b23, 0, none⟩) data1.length k3 c4 46 2]⟩ Sv1137 [.row (some ⟨b23, 0, none⟩) sv71.1.length k3 c506 46 2] [FnA2 Try.prog g10 f11 cp12 cmp9, RowA c506 sv71.1, LenA data1.length sv71.1] w) sv71.2.2 h1280 ⟨Sv1028, (hs.wk rfl), (hw.ft [0] [0, 1, 2] (by decide) rfl rfl)⟩ ?_
   clear h1280
   repeat clear hsh
   rintro sv1085 a w tv1164 ⟨Sv1137, hs, hw⟩ hsh hd1163
   delta slices_partitionEqualCmpFunc_api_Span_l11 at hsh
   refine wp_seq ?_
   refine wp_seq ?_
   obtain ⟨c1188, hc1188, hsh⟩ := bind_t hsh
   refine wp_only (fun a w => ∃ (Sv1189 : Nat → Prop), Sl 90 [(0, .slice (some ⟨b23, 0, none⟩) sv71.1.length k3), (1, .int .i64 a6), (4, .func (.func g10) f11.toArray cp12.toArray), (11, .int .i64 e1027), (12, .int .i64 sv1085), (65, .bool c1188)] a ∧ Wd ⟨w0, S0, blks [.row (some ⟨b23, 0, none⟩) data1.length k3 c4 46 2]⟩ Sv1189 [.row (some ⟨b23, 0, none⟩) sv71.1.length k3 c506 46 2] [FnA2 Try.prog g10 f11 cp12 cmp9, RowA c506 sv71.1, LenA data1.length sv71.1] w) ?_ ?_
   ·rcases Bool.eq_false_or_eq_true (decide (e1027 ≤ sv1085)) with h1190 | h1190
    ·have h1191 := ite_t hc1188 h1190
     obtain ⟨x1194, h1192, h1191⟩ := bind_t h1191
     obtain ⟨q1198, c1199, h1195, h1196, h1200, h1193⟩ := hw.elemRK (α := Span) 0 rfl 1 rfl h1192
     obtain ⟨_, _, rfl, rfl, rfl⟩ := h1193
     obtain ⟨x1203, h1201, h1191⟩ := bind_t h1191
     obtain ⟨q1207, c1208, h1204, h1205, h1209, h1202⟩ := hw.elemRK (α := Span) 0 rfl 1 rfl h1201
     obtain ⟨_, _, rfl, rfl, rfl⟩ := h1202
     obtain ⟨rv1211, h1210, h1191⟩ := bind_t h1191
     refine h_b (C := Cls [.row (some ⟨b23, 0, none⟩) sv71.1.length k3 c506 46 2] []) (by kernel_rfl) rfl (hw.drew.cs [0] [] rfl rfl) fun hC => ?_
     have hw := hw.drew
     refine gm hs 0 rfl rfl rfl hC fun a hs => ?_
     refine gm hs 1 rfl rfl rfl hC fun a hs => ?_
     refine gv hs 2 rfl rfl hC (fun w hC => y_leq rfl rfl) fun a hs => ?_
     refine gm hs 3 rfl rfl rfl hC fun a hs => ?_
     have hs := hs.fix 53 (.bool true) rfl (vb h1190)
     refine gt hs 4 rfl ⟨_, rfl, rfl⟩ rfl hC (fun w hC => y_move rfl) fun a hs => ?_
     refine gt hs 5 rfl ⟨_, rfl, rfl⟩ rfl hC (fun w hC => y_move rfl) fun a hs => ?_
     refine gt hs 6 rfl ⟨_, rfl, rfl⟩ rfl hC (fun w hC => y_move rfl) fun a hs => ?_
     refine gt hs 7 rfl ⟨_, rfl, rfl⟩ rfl hC (fun w hC => y_indexAt Try.runUnderlying27 Try.sizeOf46 rfl rfl h1195.1 h1195.2 h1196) fun a hs => ?_
     refine gt hs 8 rfl ⟨_, rfl, rfl⟩ rfl hC (fun w hC => y_loadQA (j := 0) (hC.ownAt 0 rfl) rfl Try.isAgg46 Try.sizeOf46 h1200 rfl rfl) fun a hs => ?_
     refine gt hs 9 rfl ⟨_, rfl, rfl⟩ rfl hC (fun w hC => y_move rfl) fun a hs => ?_
     refine gt hs 10 rfl ⟨_, rfl, rfl⟩ rfl hC (fun w hC => y_move rfl) fun a hs => ?_
     refine gt hs 11 rfl ⟨_, rfl, rfl⟩ rfl hC (fun w hC => y_indexAt Try.runUnderlying27 Try.sizeOf46 rfl rfl h1204.1 h1204.2 h1205) fun a hs => ?_
     refine gt hs 12 rfl ⟨_, rfl, rfl⟩ rfl hC (fun w hC => y_loadQA (j := 0) (hC.ownAt 0 rfl) rfl Try.isAgg46 Try.sizeOf46 h1209 rfl rfl) fun a hs => ?_
     refine ho 13 rfl ?_
     refine st_callR hs ((hw.bE 0 rfl).2 Keep.rfl' hw.bdom ⟨_, _, rfl, rfl, rfl⟩ ⟨_, _, rfl, rfl, rfl⟩ h1210) (do_callF (hw.bE 0 rfl).1 rfl rfl) ⟨_, rfl, rfl⟩ rfl rfl ?_
     intro v1215 Sv1212 w a h1213 h1214 hs
     subst h1214
     have hw := hw.callB h1213
     refine h_nx (hw.cs [0] [] rfl rfl) fun hC => ?_
     refine gt hs 14 rfl ⟨_, rfl, rfl⟩ rfl hC (fun w hC => y_lss rfl rfl) fun a hs => ?_
     refine gv hs 15 rfl rfl hC (fun w hC => y_pickTE (v := .bool c1188) rfl rfl (vbs h1191)) fun a hs => ?_
     refine h_done (by kernel_rfl) ?_
     exact ⟨Sv1137, (hs.wk rfl), (hw.ft [0] [0, 1, 2] (by decide) rfl rfl)⟩
    have h1216 := ite_f hc1188 h1190
    refine h_b (C := Cls [.row (some ⟨b23, 0, none⟩) sv71.1.length k3 c506 46 2] []) (by kernel_rfl) rfl (hw.drew.cs [0] [] rfl rfl) fun hC => ?_
    have hw := hw.drew
    refine gm hs 0 rfl rfl rfl hC fun a hs => ?_
    refine gm hs 1 rfl rfl rfl hC fun a hs => ?_
    refine gv hs 2 rfl rfl hC (fun w hC => y_leq rfl rfl) fun a hs => ?_
    refine gm hs 3 rfl rfl rfl hC fun a hs => ?_
    have hs := hs.fix 53 (.bool false) rfl (vb h1190)
    refine gs hs 4 rfl rfl rfl rfl hC fun a hs => ?_
    refine gs hs 5 rfl rfl rfl rfl hC fun a hs => ?_
    refine gs hs 6 rfl rfl rfl rfl hC fun a hs => ?_
    refine gs hs 7 rfl rfl rfl rfl hC fun a hs => ?_
    refine gs hs 8 rfl rfl rfl rfl hC fun a hs => ?_
    refine gs hs 9 rfl rfl rfl rfl hC fun a hs => ?_
    refine gs hs 10 rfl rfl rfl rfl hC fun a hs => ?_
    refine gs hs 11 rfl rfl rfl rfl hC fun a hs => ?_
    refine gs hs 12 rfl rfl rfl rfl hC fun a hs => ?_
    refine gs hs 13 rfl rfl rfl rfl hC fun a hs => ?_
    refine gs hs 14 rfl rfl rfl rfl hC fun a hs => ?_
    refine gv hs 15 rfl rfl hC (fun w hC => y_pickFE (v := .bool c1188) rfl rfl (vbs h1216)) fun a hs => ?_
    refine h_done (by kernel_rfl) ?_
    exact ⟨Sv1137, (hs.wk rfl), (hw.ft [0] [0, 1, 2] (by decide) rfl rfl)⟩
   rintro a w ⟨Sv1189, hs, hw⟩
   refine then_normal ?_
   refine wp_cond_split (hs.ev rfl) (fun h1218 => ?_) (fun h1218 => ?_)
   ·have hsh := ite_t hsh h1218
    refine wp_skip ?_
    refine then_normal ?_
    refine wp_block ?_
    refine wp_region_lit ?_
    refine mv hs rfl rfl fun a hs => ?_
    refine sv hs (y_sub rfl rfl) rfl fun a hs => ?_
    obtain ⟨j1222, h1221, hsh⟩ := bind_t hsh
    refine sv hs (y_assignI rfl h1221) rfl fun a hs => ?_
    refine wpList_nil ?_
    refine blk_normal ?_
    refine then_normal ?_
    exact ⟨_, (Option.some.inj hsh).symm, Sv1189, (hs.wk rfl), (hw.ft [0] [0, 1, 2] (by decide) rfl rfl)⟩
   have hsh := ite_f hsh h1218
   refine wp_exit ?_
   refine then_exit ?_
   refine then_exit ?_
   refine blk_exit ?_
   have hsh := oi hsh
   subst hsh
   have h1223 := hd1163 _ rfl
   subst h1223
   refine then_normal ?_
   exact ⟨Sv1189, (hs.wk rfl), (hw.ft [0] [0, 1, 2] (by decide) rfl rfl)⟩
  rintro a w ⟨Sv1167, hs, hw⟩
  refine then_normal ?_
  refine wp_seq ?_
  refine sr ?_
  refine mv hs rfl rfl fun a hs => ?_
  refine mv hs rfl rfl fun a hs => ?_
  refine sv hs (y_gtr rfl rfl) rfl fun a hs => ?_
  refine nl ?_
  refine wp_cond_split (hs.ev rfl) (fun h1225 => ?_) (fun h1225 => ?_)
  ·have hsh := ite_t hsh h1225
   refine wp_exit ?_
   refine then_exit ?_
   refine blk_other rfl ?_
   refine then_exit ?_
   refine blk_exit ?_
   have hsh := oi hsh
   subst hsh
   have h1226 := hd724 _ rfl
   subst h1226
   refine then_normal ?_
   exact ⟨c506, Sv1167, (hs.wk rfl), (hw.ft [0] [1, 2] (by decide) rfl rfl)⟩
  have hsh := ite_f hsh h1225
  refine wp_skip ?_
  refine then_normal ?_
  refine wp_seq ?_
  obtain ⟨x1229, h1227, hsh⟩ := bind_t hsh
  obtain ⟨q1233, c1234, h1230, h1231, h1235, h1228⟩ := hw.elemRK (α := Span) 0 rfl 1 rfl h1227
  obtain ⟨_, _, rfl, rfl, rfl⟩ := h1228
  obtain ⟨x1238, h1236, hsh⟩ := bind_t hsh
  obtain ⟨q1242, c1243, h1239, h1240, h1244, h1237⟩ := hw.elemRK (α := Span) 0 rfl 1 rfl h1236
  obtain ⟨_, _, rfl, rfl, rfl⟩ := h1237
  obtain ⟨x1247, h1245, hsh⟩ := bind_t hsh
  obtain ⟨q1251, c1252, h1248, h1249, h1253, h1246⟩ := hw.elemRK (α := Span) 0 rfl 1 rfl h1245
  obtain ⟨_, _, rfl, rfl, rfl⟩ := h1246
  obtain ⟨l1255, h1254, hsh⟩ := bind_t hsh
  obtain ⟨x1260, h1258, hsh⟩ := bind_t hsh
  obtain ⟨l1268, h1267, hsh⟩ := bind_t hsh
  refine wp_only (fun a w => ∃ (Sv1271 : Nat → Prop) (c1269 : List Value), Sl 90 [(0, .slice (some ⟨b23, 0, none⟩) l1268.length k3), (1, .int .i64 a6), (4, .func (.func g10) f11.toArray cp12.toArray), (11, .int .i64 e1027), (12, .int .i64 e1166)] a ∧ Wd ⟨w0, S0, blks [.row (some ⟨b23, 0, none⟩) data1.length k3 c4 46 2]⟩ Sv1271 [.row (some ⟨b23, 0, none⟩) l1268.length k3 c1269 46 2] [FnA2 Try.prog g10 f11 cp12 cmp9, RowA c1269 l1268, LenA data1.length l1268] w) ?_ ?_
  ·refine h_b (C := Cls [] []) (by kernel_rfl) rfl (hw.drew.cs [] [] rfl rfl) fun hC => ?_
   have hw := hw.drew
   refine gm hs 0 rfl rfl rfl hC fun a hs => ?_
   refine gm hs 1 rfl rfl rfl hC fun a hs => ?_
   refine gm hs 2 rfl rfl rfl hC fun a hs => ?_
   refine gm hs 3 rfl rfl rfl hC fun a hs => ?_
   refine gm hs 4 rfl rfl rfl hC fun a hs => ?_
   refine gm hs 5 rfl rfl rfl hC fun a hs => ?_
   refine gv hs 6 rfl rfl hC (fun w hC => y_indexAt Try.runUnderlying27 Try.sizeOf46 rfl rfl h1230.1 h1230.2 h1231) fun a hs => ?_
   refine gm hs 8 rfl rfl rfl hC fun a hs => ?_
   refine gm hs 9 rfl rfl rfl hC fun a hs => ?_
   refine gv hs 10 rfl rfl hC (fun w hC => y_indexAt Try.runUnderlying27 Try.sizeOf46 rfl rfl h1239.1 h1239.2 h1240) fun a hs => ?_
   refine h_all (rs := [7, 11]) (by kernel_rfl) rfl ?_
   refine AllH.cons rfl ?_ ?_
   ·refine sv hs (y_loadQA (j := 0) (hw.ownAt 0 rfl) rfl Try.isAgg46 Try.sizeOf46 h1235 rfl rfl) rfl fun a hs => ?_
    refine h_nx (hw.cs [] [] rfl rfl) fun hC => ?_
    refine ho 11 rfl ?_
    refine sv hs (y_loadQA (j := 0) (hw.ownAt 0 rfl) rfl Try.isAgg46 Try.sizeOf46 h1244 rfl rfl) rfl fun a hs => ?_
    refine h_nx (hw.cs [] [] rfl rfl) fun hC => ?_
    refine gv hs 12 rfl rfl hC (fun w hC => y_indexAt Try.runUnderlying27 Try.sizeOf46 rfl rfl h1248.1 h1248.2 h1249) fun a hs => ?_
    refine ho 13 rfl ?_
    have h1272 := hw.envAt 2 rfl
    refine w_storeF (α := Span) hs hw 0 rfl 1 rfl h1249 rfl rfl Try.sizeOf46 rfl h1254 ⟨_, _, rfl, rfl, rfl⟩ trivial ?_
    intro c1256 a w hs hw
    have hw := hw.addE (e := LenA data1.length l1255) (len_set (w := w) (S := S0) h1272 h1254)
    have h1257 := setM_len h1254
    try have hs := hs.fl 0 rfl h1257
    try have hs := hs.fl 71 rfl h1257
    try have hs := hs.fl 73 rfl h1257
    try have hs := hs.fl 75 rfl h1257
    try have hs := hs.fl 79 rfl h1257
    refine h_nx (hw.cs [] [] rfl rfl) fun hC => ?_
    refine ho 14 rfl ?_
    obtain ⟨c1265, h1261, h1266, h1259⟩ := hw.elemRX (α := Span) 0 rfl 1 rfl h1258
    obtain ⟨_, _, rfl, rfl, rfl⟩ := h1259
    refine sv hs (y_indexAt Try.runUnderlying27 Try.sizeOf46 rfl rfl h1261.1 h1261.2 rfl) rfl fun a hs => ?_
    refine h_nx (hw.cs [] [] rfl rfl) fun hC => ?_
    refine ho 15 rfl ?_
    have h1273 := hw.envAt 0 rfl
    refine w_storeF (α := Span) hs hw 0 rfl 1 rfl rfl rfl rfl Try.sizeOf46 rfl h1267 ⟨_, _, rfl, rfl, rfl⟩ trivial ?_
    intro c1269 a w hs hw
    have hw := hw.addE (e := LenA data1.length l1268) (len_set (w := w) (S := S0) h1273 h1267)
    have h1270 := setM_len h1267
    try have hs := hs.fl 0 rfl h1270
    try have hs := hs.fl 71 rfl h1270
    try have hs := hs.fl 73 rfl h1270
    try have hs := hs.fl 75 rfl h1270
    try have hs := hs.fl 79 rfl h1270
    refine h_nx (hw.cs [] [] rfl rfl) fun hC => ?_
    refine h_done (by kernel_rfl) ?_
    exact ⟨Sv1167, c1269, (hs.wk rfl), (hw.ft [0] [4, 1, 0] (by decide) rfl rfl)⟩
   refine AllH.cons rfl ?_ ?_
   ·refine sv hs (y_loadQA (j := 0) (hw.ownAt 0 rfl) rfl Try.isAgg46 Try.sizeOf46 h1244 rfl rfl) rfl fun a hs => ?_
    refine h_nx (hw.cs [] [] rfl rfl) fun hC => ?_
    refine ho 7 rfl ?_
    refine sv hs (y_loadQA (j := 0) (hw.ownAt 0 rfl) rfl Try.isAgg46 Try.sizeOf46 h1235 rfl rfl) rfl fun a hs => ?_
    refine h_nx (hw.cs [] [] rfl rfl) fun hC => ?_
    refine gv hs 12 rfl rfl hC (fun w hC => y_indexAt Try.runUnderlying27 Try.sizeOf46 rfl rfl h1248.1 h1248.2 h1249) fun a hs => ?_
    refine ho 13 rfl ?_
    have h1274 := hw.envAt 2 rfl
    refine w_storeF (α := Span) hs hw 0 rfl 1 rfl h1249 rfl rfl Try.sizeOf46 rfl h1254 ⟨_, _, rfl, rfl, rfl⟩ trivial ?_
    intro c1256 a w hs hw
    have hw := hw.addE (e := LenA data1.length l1255) (len_set (w := w) (S := S0) h1274 h1254)
    have h1257 := setM_len h1254
    try have hs := hs.fl 0 rfl h1257
    try have hs := hs.fl 71 rfl h1257
    try have hs := hs.fl 73 rfl h1257
    try have hs := hs.fl 75 rfl h1257
    try have hs := hs.fl 79 rfl h1257
    refine h_nx (hw.cs [] [] rfl rfl) fun hC => ?_
    refine ho 14 rfl ?_
    obtain ⟨c1265, h1261, h1266, h1259⟩ := hw.elemRX (α := Span) 0 rfl 1 rfl h1258
    obtain ⟨_, _, rfl, rfl, rfl⟩ := h1259
    refine sv hs (y_indexAt Try.runUnderlying27 Try.sizeOf46 rfl rfl h1261.1 h1261.2 rfl) rfl fun a hs => ?_
    refine h_nx (hw.cs [] [] rfl rfl) fun hC => ?_
    refine ho 15 rfl ?_
    have h1275 := hw.envAt 0 rfl
    refine w_storeF (α := Span) hs hw 0 rfl 1 rfl rfl rfl rfl Try.sizeOf46 rfl h1267 ⟨_, _, rfl, rfl, rfl⟩ trivial ?_
    intro c1269 a w hs hw
    have hw := hw.addE (e := LenA data1.length l1268) (len_set (w := w) (S := S0) h1275 h1267)
    have h1270 := setM_len h1267
    try have hs := hs.fl 0 rfl h1270
    try have hs := hs.fl 71 rfl h1270
    try have hs := hs.fl 73 rfl h1270
    try have hs := hs.fl 75 rfl h1270
    try have hs := hs.fl 79 rfl h1270
    refine h_nx (hw.cs [] [] rfl rfl) fun hC => ?_
    refine h_done (by kernel_rfl) ?_
    exact ⟨Sv1167, c1269, (hs.wk rfl), (hw.ft [0] [4, 1, 0] (by decide) rfl rfl)⟩
   exact AllH.nil
  rintro a w ⟨Sv1271, c1269, hs, hw⟩
  refine then_normal ?_
  refine sr ?_
  refine mv hs rfl rfl fun a hs => ?_
  refine sv hs (y_add rfl rfl) rfl fun a hs => ?_
  obtain ⟨i1277, h1276, hsh⟩ := bind_t hsh
  refine sv hs (y_assignI rfl h1276) rfl fun a hs => ?_
  refine nl ?_
  refine wp_region_lit ?_
  refine mv hs rfl rfl fun a hs => ?_
  refine sv hs (y_sub rfl rfl) rfl fun a hs => ?_
  obtain ⟨j1279, h1278, hsh⟩ := bind_t hsh
  refine sv hs (y_assignI rfl h1278) rfl fun a hs => ?_
  refine wpList_nil ?_
  refine blk_normal ?_
  refine then_normal ?_
  exact ⟨_, (Option.some.inj hsh).symm, c1269, Sv1271, (hs.wk rfl), (hw.ft [0] [0, 1, 2] (by decide) rfl rfl)⟩
 rintro a w ⟨c728, Sv729, hs, hw⟩
 refine then_normal ?_
 refine sr ?_
 refine mv hs rfl rfl fun a hs => ?_
 refine av hs rfl rfl fun a hs => ?_
 refine nl ?_
 have hsh := oi hsh
 subst hsh
 refine wp_ret ?_
 exact ret1 hs rfl (rv_tmp rfl) (hw.ret ⟨c728, rfl, (hw.outs [0] (by decide) rfl), (hw.envAt 0 rfl), (hw.envAt 1 rfl)⟩)

end Go.Proofs.Ytiihddcppmjbaaa.Wk

/- The walks of LinkExact, part 2: each Go function computes what its plain program computes. Printed by a program of ours. -/
import Derived.Test.YtljdiobhmenjgaaProg
import Derived.Test.YtljdiobhmenjgaaDat
import Derived.Test.YtljdiobhmenjgaaSh
import Derived.Test.YtljdiobhmenjgaaLibL
import Derived.Test.YtljdiobhmenjgaaLibZ
import Derived.Test.YtljdiobhmenjgaaLibN
import Derived.KernelRfl
import Derived.Test.YtljdiobhmenjgaaWLinkExact1
namespace Go.Proofs.Ytljdiobhmenjgaa.Wk
open Go Go.RowKit Go.Proofs Go.Proofs.Ytljdiobhmenjgaa.Sh
set_option linter.unusedVariables false
set_option linter.unusedSimpArgs false

abbrev ref09_Tick_rd (w0 : World) (X : List Nat) (r : (Wire × (List ByteArray) × Int)) : (Nat → Prop) → World → Value → Prop := fun S w v => ∃ (p0_2 : Option Addr) (k0_2 : Nat) (c0_2 : List Value) (p1_0 : Option Addr) (k1_0 : Nat) (c1_0 : List Value), v = .tuple #[.agg #[.int .i64 r.1.Now, .int .i64 r.1.Order, .slice p0_2 r.1.Items.length k0_2], .slice p1_0 r.2.1.length k1_0, .int .i64 r.2.2] ∧ Outs X w0 S w [.row p0_2 r.1.Items.length k0_2 c0_2 47 3, .row p1_0 r.2.1.length k1_0 c1_0 9 1] ∧ (RowA c0_2 r.1.Items).p S w ∧ (RowA c1_0 r.2.1).p S w
set_option maxHeartbeats 4000000 in
set_option maxRecDepth 100000 in
theorem ref09_Tick_ok {w0 : World} {S0 : Nat → Prop} {p2 : Option Addr} {k3 : Nat} {wv1 : Wire} {r : (Wire × (List ByteArray) × Int)} (hsh : ref09_Tick wv1 = some r) (hS : ∀ b, S0 b → b < w0.heap.size) (h4 : (SlA p2 wv1.Items.length k3 wv1.Items).p S0 w0) : Calls Try.prog 24 #[.agg #[.int .i64 wv1.Now, .int .i64 wv1.Order, .slice p2 wv1.Items.length k3]] w0 (Ret ([]) w0 S0 (ref09_Tick_rd w0 ([]) r)) := by
 refine calls_of_wp Try.func24 rfl ?_
 have hs := Sl.enter #[.agg #[.int .i64 wv1.Now, .int .i64 wv1.Order, .slice p2 wv1.Items.length k3]] 59 [(0, .agg #[.int .i64 wv1.Now, .int .i64 wv1.Order, .slice p2 wv1.Items.length k3])] rfl ⟨rfl, trivial⟩
 have hw := Wd.enter (E := []) hS (fun _ h => (by cases h))
 have hw := hw.addE h4
 delta ref09_Tick at hsh
 refine sr ?_
 refine w_box (cs := [.int .i64 wv1.Now, .int .i64 wv1.Order, .slice p2 wv1.Items.length k3]) hs hw rfl rfl rfl trivial ?_
 intro b5 a w hs hw
 refine w_alloc (cs := [.int .i64 0, .int .i64 0, .slice none ([] : List Transit).length 0]) hs hw Try.zeroValue29 rfl rfl trivial ?_
 intro b6 a w hs hw
 refine av hs rfl rfl fun a hs => ?_
 refine av hs rfl rfl fun a hs => ?_
 refine nl ?_
 refine wp_seq ?_
 refine sr ?_
 refine sv hs (y_loadBA (hw.ownAt 1 rfl) rfl Try.isAgg29 Try.sizeOf29 rfl rfl) rfl fun a hs => ?_
 obtain ⟨rv8, h7, hsh⟩ := bind_t hsh
 refine st_callR hs (ref09_Valid_ok h7 hw.bdom (hw.bE 0 rfl)) (do_call Try.call15 rfl) trivial rfl rfl ?_
 intro v12 Sv9 w a h10 h11 hs
 subst h11
 have hw := hw.callB h10
 refine sv hs (y_not rfl) rfl fun a hs => ?_
 refine nl ?_
 refine wp_cond_split (hs.ev rfl) (fun h15 => ?_) (fun h15 => ?_)
 ·have hsh := ite_t hsh h15
  refine sr ?_
  refine sv hs (y_build (vs := []) Bld29 rfl rfl) rfl fun a hs => ?_
  refine w_store (m := 3) (cs' := [.int .i64 0, .int .i64 0, .slice none ([] : List Transit).length 0]) hs hw 0 rfl rfl rfl Try.sizeOf29 rfl rfl rfl rfl trivial ?_
  intro a w hs hw
  refine av hs rfl rfl fun a hs => ?_
  refine av hs rfl rfl fun a hs => ?_
  refine nl ?_
  have hsh := oi hsh
  subst hsh
  have hw := hw.nilRow Transit 47
  have hw := hw.nilRow ByteArray 9
  refine wp_ret ?_
  refine then_ret ?_
  exact ret3 hs rfl (rv_cell hw 2 rfl rfl Try.isAgg29 Try.sizeOf29 rfl) (rv_tmp rfl) (rv_tmp rfl) (hw.ret ⟨none, 0, [], none, 0, [], rfl, (hw.outs [1, 0] (by decide) rfl), (hw.envAt 1 rfl), (hw.envAt 0 rfl)⟩)
 have hsh := ite_f hsh h15
 refine wp_skip ?_
 refine then_normal ?_
 refine wp_seq ?_
 refine sr ?_
 refine sv hs (y_fieldAddr (o' := 0) Try.runUnderlying29 rfl Try.sizeOf3 rfl rfl rfl) rfl fun a hs => ?_
 refine sv hs (y_loadB1 (hw.ownAt 1 rfl) rfl Try.isAgg3 rfl) rfl fun a hs => ?_
 refine sv hs (y_eql rfl rfl) rfl fun a hs => ?_
 refine nl ?_
 refine wp_cond_split (hs.ev rfl) (fun h17 => ?_) (fun h17 => ?_)
 ·have hsh := ite_t hsh h17
  refine sr ?_
  refine sv hs (y_build (vs := []) Bld29 rfl rfl) rfl fun a hs => ?_
  refine w_store (m := 3) (cs' := [.int .i64 0, .int .i64 0, .slice none ([] : List Transit).length 0]) hs hw 0 rfl rfl rfl Try.sizeOf29 rfl rfl rfl rfl trivial ?_
  intro a w hs hw
  refine av hs rfl rfl fun a hs => ?_
  refine av hs rfl rfl fun a hs => ?_
  refine nl ?_
  have hsh := oi hsh
  subst hsh
  have hw := hw.nilRow Transit 47
  have hw := hw.nilRow ByteArray 9
  refine wp_ret ?_
  refine then_ret ?_
  exact ret3 hs rfl (rv_cell hw 2 rfl rfl Try.isAgg29 Try.sizeOf29 rfl) (rv_tmp rfl) (rv_tmp rfl) (hw.ret ⟨none, 0, [], none, 0, [], rfl, (hw.outs [1, 0] (by decide) rfl), (hw.envAt 1 rfl), (hw.envAt 0 rfl)⟩)
 have hsh := ite_f hsh h17
 refine wp_skip ?_
 refine then_normal ?_
 refine sr ?_
 refine sv hs (y_fieldAddr (o' := 0) Try.runUnderlying29 rfl Try.sizeOf3 rfl rfl rfl) rfl fun a hs => ?_
 refine sv hs (y_loadB1 (hw.ownAt 1 rfl) rfl Try.isAgg3 rfl) rfl fun a hs => ?_
 refine sv hs (y_add rfl rfl) rfl fun a hs => ?_
 refine sv hs (y_fieldAddr (o' := 1) Try.runUnderlying29 rfl Try.sizeOf3 rfl rfl rfl) rfl fun a hs => ?_
 refine sv hs (y_loadB1 (hw.ownAt 1 rfl) rfl Try.isAgg3 rfl) rfl fun a hs => ?_
 refine sv hs (y_build (vs := [(0, .int .i64 (w64 (wv1.Now + 1))), (1, .int .i64 wv1.Order)]) Bld29 rfl rfl) rfl fun a hs => ?_
 refine w_alloc (cs := [.int .i64 0, .int .i64 0, .slice none ([] : List Transit).length 0]) hs hw Try.zeroValue29 rfl rfl trivial ?_
 intro b18 a w hs hw
 refine w_store (m := 3) (cs' := [.int .i64 (w64 (wv1.Now + 1)), .int .i64 wv1.Order, .slice none ([] : List Transit).length 0]) hs hw 0 rfl rfl rfl Try.sizeOf29 rfl rfl rfl rfl trivial ?_
 intro a w hs hw
 refine nl ?_
 refine sr ?_
 refine av hs rfl rfl fun a hs => ?_
 refine nl ?_
 refine wp_seq ?_
 refine sr ?_
 refine av hs rfl rfl fun a hs => ?_
 refine nl ?_
 obtain ⟨e211, h366, hsh⟩ := bind_t hsh
 refine wp_join (fun a w => ∃ (c212 : List Value) (p213 : Option Addr) (k214 : Nat) (c215 : List Value) (p216 : Option Addr) (k217 : Nat) (Sv218 : Nat → Prop), Sl 59 [(2, .pointer (some ⟨b6, 0, none⟩)), (5, .pointer (some ⟨b18, 0, none⟩)), (6, .slice p216 e211.2.length k217)] a ∧ Wd ⟨w0, S0, []⟩ Sv218 [.box b6 [.int .i64 0, .int .i64 0, .slice none ([] : List Transit).length 0] 29, .box b18 [.int .i64 (w64 (wv1.Now + 1)), .int .i64 wv1.Order, .slice p213 e211.1.length k214] 29, .row p213 e211.1.length k214 c212 47 3, .row p216 e211.2.length k217 c215 9 1] [SlA none ([] : List Transit).length 0 ([] : List Transit), RowA c212 e211.1, RowA c215 e211.2] w) ?_ ?_
 ·refine wp_block ?_
  have hw := hw.nilRow Transit 47
  have hw := hw.nilRow ByteArray 9
  have hw := hw.addE (e := SlA (α := Transit) none 0 0 []) nil_sl
  refine wp_while (fun sv19 a w => ∃ (c143 : List Value) (p144 : Option Addr) (k145 : Nat) (c146 : List Value) (p147 : Option Addr) (k148 : Nat) (Sv149 : Nat → Prop), Sl 59 [(1, .pointer (some ⟨b5, 0, none⟩)), (2, .pointer (some ⟨b6, 0, none⟩)), (5, .pointer (some ⟨b18, 0, none⟩)), (6, .slice p147 sv19.2.1.length k148), (7, .int .i64 sv19.2.2)] a ∧ Wd ⟨w0, S0, []⟩ Sv149 [.box b5 [.int .i64 wv1.Now, .int .i64 wv1.Order, .slice p2 wv1.Items.length k3] 29, .box b6 [.int .i64 0, .int .i64 0, .slice none ([] : List Transit).length 0] 29, .box b18 [.int .i64 (w64 (wv1.Now + 1)), .int .i64 wv1.Order, .slice p144 sv19.1.length k145] 29, .row p144 sv19.1.length k145 c143 47 3, .row p147 sv19.2.1.length k148 c146 9 1] [SlA p2 wv1.Items.length k3 wv1.Items, SlA none ([] : List Transit).length 0 ([] : List Transit), RowA c143 sv19.1, RowA c146 sv19.2.1] w) (([] : List Transit), ([] : List ByteArray), 0) h366 ⟨[], none, 0, [], none, 0, S0, (hs.wk rfl), (hw.ft [4, 3, 2, 1, 0] [3, 0, 2, 1] (by decide) rfl rfl)⟩ ?_
  clear h366
  repeat clear hsh
  rintro sv19 a w tv209 ⟨c143, p144, k145, c146, p147, k148, Sv149, hs, hw⟩ hsh hd208
  delta ref09_Tick_l1 at hsh
  refine wp_seq ?_
  refine sr ?_
  refine mv hs rfl rfl fun a hs => ?_
  refine sv hs (y_fieldAddr (o' := 2) Try.runUnderlying29 rfl Try.sizeOf27 rfl rfl rfl) rfl fun a hs => ?_
  refine sv hs (y_loadB1 (hw.ownAt 0 rfl) rfl Try.isAgg27 rfl) rfl fun a hs => ?_
  refine sv hs (y_len Try.runUnderlying27 rfl) rfl fun a hs => ?_
  refine sv hs (y_lss rfl rfl) rfl fun a hs => ?_
  refine nl ?_
  refine wp_cond_split (hs.ev rfl) (fun h220 => ?_) (fun h220 => ?_)
  ·have hsh := ite_t hsh h220
   refine wp_skip ?_
   refine then_normal ?_
   refine wp_seq ?_
   refine wp_block ?_
   refine wp_seq ?_
   obtain ⟨x278, h276, hsh⟩ := bind_t hsh
   obtain ⟨b284, o285, q282, c283, h286, h279, h280, h281, h277⟩ := hw.elemV 0 rfl h276
   have hsv287 := hs
   have hwv288 := hw
   subst h286
   have hs := hsv287
   have hw := hwv288
   obtain ⟨_, _, _, rfl, rfl, rfl, rfl⟩ := h277
   have hw := hw.addE h281
   refine wp_only (fun a w => ∃ (Sv289 : Nat → Prop), Sl 59 [(1, .pointer (some ⟨b5, 0, none⟩)), (2, .pointer (some ⟨b6, 0, none⟩)), (5, .pointer (some ⟨b18, 0, none⟩)), (6, .slice p147 sv19.2.1.length k148), (7, .int .i64 sv19.2.2), (37, .bool (x278.At == (w64 (wv1.Now + 1))))] a ∧ Wd ⟨w0, S0, []⟩ Sv289 [.box b5 [.int .i64 wv1.Now, .int .i64 wv1.Order, .slice (some ⟨b284, o285, none⟩) wv1.Items.length k3] 29, .box b6 [.int .i64 0, .int .i64 0, .slice none ([] : List Transit).length 0] 29, .box b18 [.int .i64 (w64 (wv1.Now + 1)), .int .i64 wv1.Order, .slice p144 sv19.1.length k145] 29, .row p144 sv19.1.length k145 c143 47 3, .row p147 sv19.2.1.length k148 c146 9 1] [SlA (some ⟨b284, o285, none⟩) wv1.Items.length k3 wv1.Items, SlA none ([] : List Transit).length 0 ([] : List Transit), RowA c143 sv19.1, RowA c146 sv19.2.1] w) ?_ ?_
   ·refine h_b (C := Cls [.box b5 [.int .i64 wv1.Now, .int .i64 wv1.Order, .slice (some ⟨b284, o285, none⟩) wv1.Items.length k3] 29, .box b6 [.int .i64 0, .int .i64 0, .slice none ([] : List Transit).length 0] 29, .box b18 [.int .i64 (w64 (wv1.Now + 1)), .int .i64 wv1.Order, .slice p144 sv19.1.length k145] 29, .row p144 sv19.1.length k145 c143 47 3, .row p147 sv19.2.1.length k148 c146 9 1] [CeA b284 q282 [.int .i64 x278.At, .int .i64 x278.Order, .string x278.Data]]) (by kernel_rfl) rfl (hw.drew.cs [0, 1, 2, 3, 4] [0] rfl rfl) fun hC => ?_
    have hw := hw.drew
    refine gv hs 0 rfl rfl hC (fun w hC => y_fieldAddr (o' := 2) Try.runUnderlying29 rfl Try.sizeOf27 rfl rfl rfl) fun a hs => ?_
    refine gv hs 1 rfl rfl hC (fun w hC => y_loadB1 (hC.ownAt 0 rfl) rfl Try.isAgg27 rfl) fun a hs => ?_
    refine gm hs 2 rfl rfl rfl hC fun a hs => ?_
    refine gv hs 3 rfl rfl hC (fun w hC => y_indexAt Try.runUnderlying27 Try.sizeOf47 rfl rfl h279.1 h279.2 h280) fun a hs => ?_
    refine gv hs 4 rfl rfl hC (fun w hC => y_fieldAddr (o' := q282 + 0) Try.runUnderlying47 rfl Try.sizeOf3 rfl rfl rfl) fun a hs => ?_
    refine gv hs 5 rfl rfl hC (fun w hC => y_loadE1 (j := 0) (hC.ceAt 0 rfl) rfl Try.isAgg3 rfl) fun a hs => ?_
    refine gv hs 6 rfl rfl hC (fun w hC => y_fieldAddr (o' := 0) Try.runUnderlying29 rfl Try.sizeOf3 rfl rfl rfl) fun a hs => ?_
    refine gv hs 7 rfl rfl hC (fun w hC => y_loadB1 (hC.ownAt 2 rfl) rfl Try.isAgg3 rfl) fun a hs => ?_
    refine gv hs 8 rfl rfl hC (fun w hC => y_eql rfl rfl) fun a hs => ?_
    refine h_done (by kernel_rfl) ?_
    exact ⟨Sv149, (hs.wk rfl), (hw.ft [0, 1, 2, 3, 4] [1, 2, 3, 4] (by decide) rfl rfl)⟩
   rintro a w ⟨Sv289, hs, hw⟩
   refine then_normal ?_
   refine wp_join (fun a w => ∃ (x329 : (List Transit)) (l330 : (List ByteArray)) (c322 : List Value) (p323 : Option Addr) (k324 : Nat) (c325 : List Value) (p326 : Option Addr) (k327 : Nat) (Sv328 : Nat → Prop), ref09_Tick_j1 sv19 x329 l330 = some tv209 ∧ Sl 59 [(1, .pointer (some ⟨b5, 0, none⟩)), (2, .pointer (some ⟨b6, 0, none⟩)), (5, .pointer (some ⟨b18, 0, none⟩)), (6, .slice p326 l330.length k327), (7, .int .i64 sv19.2.2)] a ∧ Wd ⟨w0, S0, []⟩ Sv328 [.box b5 [.int .i64 wv1.Now, .int .i64 wv1.Order, .slice (some ⟨b284, o285, none⟩) wv1.Items.length k3] 29, .box b6 [.int .i64 0, .int .i64 0, .slice none ([] : List Transit).length 0] 29, .box b18 [.int .i64 (w64 (wv1.Now + 1)), .int .i64 wv1.Order, .slice p323 x329.length k324] 29, .row p323 x329.length k324 c322 47 3, .row p326 l330.length k327 c325 9 1] [SlA (some ⟨b284, o285, none⟩) wv1.Items.length k3 wv1.Items, SlA none ([] : List Transit).length 0 ([] : List Transit), RowA c322 x329, RowA c325 l330] w) ?_ ?_
   ·refine wp_cond_split (hs.ev rfl) (fun h333 => ?_) (fun h333 => ?_)
    ·have hsh := ite_t hsh h333
     refine wp_region_lit ?_
     refine mv hs rfl rfl fun a hs => ?_
     refine sv hs (y_fieldAddr (o' := 2) Try.runUnderlying29 rfl Try.sizeOf27 rfl rfl rfl) rfl fun a hs => ?_
     refine sv hs (y_loadB1 (hw.ownAt 0 rfl) rfl Try.isAgg27 rfl) rfl fun a hs => ?_
     refine mv hs rfl rfl fun a hs => ?_
     obtain ⟨x336, h334, hsh⟩ := bind_t hsh
     obtain ⟨q340, c341, h337, h338, h339, h335⟩ := hw.elemK 0 rfl h334
     obtain ⟨_, _, _, rfl, rfl, rfl, rfl⟩ := h335
     have hw := hw.addE h339
     refine sv hs (y_indexAt Try.runUnderlying27 Try.sizeOf47 rfl rfl h337.1 h337.2 h338) rfl fun a hs => ?_
     refine sv hs (y_fieldAddr (o' := q340 + 2) Try.runUnderlying47 rfl Try.sizeOf9 rfl rfl rfl) rfl fun a hs => ?_
     refine sv hs (y_loadE1 (j := 2) (hw.ceAt 0 rfl) rfl Try.isAgg9 rfl) rfl fun a hs => ?_
     refine w_litSlice (α := ByteArray) (vs := [.string x336.Data]) (cs := [.string x336.Data]) (xs := ([x336.Data] : List ByteArray)) hs hw El34 rfl rfl rfl rfl rfl rfl ⟨⟨_, rfl, rfl⟩, rfl⟩ rfl trivial rfl fun b343 a w hs hw => ?_
     obtain ⟨l345, h344, hsh⟩ := bind_t hsh
     refine w_appendR (α := ByteArray) hs hw El34 5 rfl rfl rfl 5 rfl 0 rfl 0 rfl h344 rfl trivial ?_
     intro p346 k347 c348 a w hs hw
     refine av hs rfl rfl fun a hs => ?_
     refine nl ?_
     exact ⟨sv19.1, l345, c143, p144, k145, c348, p346, k347, Sv289, hsh, (hs.wk rfl), (hw.ft [1, 2, 3, 4, 5] [3, 4, 5, 0] (by decide) rfl rfl)⟩
    have hsh := ite_f hsh h333
    obtain ⟨x351, h349, hsh⟩ := bind_t hsh
    obtain ⟨q355, c356, h352, h353, h354, h350⟩ := hw.elemK 0 rfl h349
    obtain ⟨_, _, _, rfl, rfl, rfl, rfl⟩ := h350
    have hw := hw.addE h354
    obtain ⟨l360, h359, hsh⟩ := bind_t hsh
    refine wp_only (fun a w => ∃ (Sv364 : Nat → Prop) (c363 : List Value) (k362 : Nat) (p361 : Option Addr), Sl 59 [(1, .pointer (some ⟨b5, 0, none⟩)), (2, .pointer (some ⟨b6, 0, none⟩)), (5, .pointer (some ⟨b18, 0, none⟩)), (6, .slice p147 sv19.2.1.length k148), (7, .int .i64 sv19.2.2)] a ∧ Wd ⟨w0, S0, []⟩ Sv364 [.box b5 [.int .i64 wv1.Now, .int .i64 wv1.Order, .slice (some ⟨b284, o285, none⟩) wv1.Items.length k3] 29, .box b6 [.int .i64 0, .int .i64 0, .slice none ([] : List Transit).length 0] 29, .box b18 [.int .i64 (w64 (wv1.Now + 1)), .int .i64 wv1.Order, .slice p361 l360.length k362] 29, .row p361 l360.length k362 c363 47 3, .row p147 sv19.2.1.length k148 c146 9 1] [SlA (some ⟨b284, o285, none⟩) wv1.Items.length k3 wv1.Items, SlA none ([] : List Transit).length 0 ([] : List Transit), RowA c363 l360, RowA c146 sv19.2.1] w) ?_ ?_
    ·refine h_b (C := Cls [.box b5 [.int .i64 wv1.Now, .int .i64 wv1.Order, .slice (some ⟨b284, o285, none⟩) wv1.Items.length k3] 29, .box b6 [.int .i64 0, .int .i64 0, .slice none ([] : List Transit).length 0] 29, .row p147 sv19.2.1.length k148 c146 9 1] [CeA b284 q355 [.int .i64 x351.At, .int .i64 x351.Order, .string x351.Data]]) (by kernel_rfl) rfl (hw.drew.cs [0, 1, 4] [0] rfl rfl) fun hC => ?_
     have hw := hw.drew
     refine gv hs 0 rfl rfl hC (fun w hC => y_fieldAddr (o' := 2) Try.runUnderlying29 rfl Try.sizeOf27 rfl rfl rfl) fun a hs => ?_
     refine gv hs 2 rfl rfl hC (fun w hC => y_fieldAddr (o' := 2) Try.runUnderlying29 rfl Try.sizeOf27 rfl rfl rfl) fun a hs => ?_
     refine gv hs 3 rfl rfl hC (fun w hC => y_loadB1 (hC.ownAt 0 rfl) rfl Try.isAgg27 rfl) fun a hs => ?_
     refine gm hs 4 rfl rfl rfl hC fun a hs => ?_
     refine gv hs 5 rfl rfl hC (fun w hC => y_indexAt Try.runUnderlying27 Try.sizeOf47 rfl rfl h352.1 h352.2 h353) fun a hs => ?_
     refine gv hs 6 rfl rfl hC (fun w hC => y_loadEA (j := 0) (hC.ceAt 0 rfl) rfl Try.isAgg47 Try.sizeOf47 rfl rfl) fun a hs => ?_
     refine h_all (rs := [1, 7]) (by kernel_rfl) rfl ?_
     refine AllH.cons rfl ?_ ?_
     ·refine sv hs (y_loadB1 (hw.ownAt 2 rfl) rfl Try.isAgg27 rfl) rfl fun a hs => ?_
      refine h_nx (hw.cs [0, 1, 4] [0] rfl rfl) fun hC => ?_
      refine ho 7 rfl ?_
      refine w_litSlice (α := Transit) (vs := [.agg #[.int .i64 x351.At, .int .i64 x351.Order, .string x351.Data]]) (cs := [.int .i64 x351.At, .int .i64 x351.Order, .string x351.Data]) (xs := ([x351] : List Transit)) hs hw El27 rfl rfl rfl rfl rfl rfl ⟨⟨_, _, _, rfl, rfl, rfl, rfl⟩, rfl⟩ rfl trivial rfl fun b358 a w hs hw => ?_
      refine h_nx (hw.cs [1, 2, 5] [1] rfl rfl) fun hC => ?_
      refine h_st (C' := Cls [.box b5 [.int .i64 wv1.Now, .int .i64 wv1.Order, .slice (some ⟨b284, o285, none⟩) wv1.Items.length k3] 29, .box b6 [.int .i64 0, .int .i64 0, .slice none ([] : List Transit).length 0] 29, .row p147 sv19.2.1.length k148 c146 9 1, .row (some ⟨b358, 0, none⟩) ([x351] : List Transit).length ([x351] : List Transit).length [.int .i64 x351.At, .int .i64 x351.Order, .string x351.Data] 47 3] [CeA b284 q355 [.int .i64 x351.At, .int .i64 x351.Order, .string x351.Data]]) (fun _ h => by exact h.sub [0, 1, 2] (Sel.of rfl) (AllIn.of [0] rfl)) (hw.cs [1, 2, 5, 0] [1] rfl rfl) fun hC => ?_
      refine ho 8 rfl ?_
      refine w_appendR (α := Transit) hs hw El27 4 rfl rfl rfl 4 rfl 0 rfl 0 rfl h359 rfl trivial ?_
      intro p361 k362 c363 a w hs hw
      refine h_nx (hw.cs [1, 2, 5, 0] [2] rfl rfl) fun hC => ?_
      refine gv hs 9 rfl rfl hC (fun w hC => y_fieldAddr (o' := 2) Try.runUnderlying29 rfl Try.sizeOf27 rfl rfl rfl) fun a hs => ?_
      refine ho 10 rfl ?_
      refine w_store (m := 1) (cs' := [.int .i64 (w64 (wv1.Now + 1)), .int .i64 wv1.Order, .slice p361 l360.length k362]) hs hw 3 rfl rfl rfl Try.sizeOf27 rfl rfl rfl rfl trivial ?_
      intro a w hs hw
      refine h_nx (hw.cs [1, 2, 5, 0] [2] rfl rfl) fun hC => ?_
      refine h_done (by kernel_rfl) ?_
      exact ⟨Sv289, c363, k362, p361, (hs.wk rfl), (hw.ft [1, 2, 3, 4, 5] [3, 4, 0, 6] (by decide) rfl rfl)⟩
     refine AllH.cons rfl ?_ ?_
     ·refine w_litSlice (α := Transit) (vs := [.agg #[.int .i64 x351.At, .int .i64 x351.Order, .string x351.Data]]) (cs := [.int .i64 x351.At, .int .i64 x351.Order, .string x351.Data]) (xs := ([x351] : List Transit)) hs hw El27 rfl rfl rfl rfl rfl rfl ⟨⟨_, _, _, rfl, rfl, rfl, rfl⟩, rfl⟩ rfl trivial rfl fun b358 a w hs hw => ?_
      refine h_nx (hw.cs [1, 2, 5] [1] rfl rfl) fun hC => ?_
      refine h_st (C' := Cls [.box b5 [.int .i64 wv1.Now, .int .i64 wv1.Order, .slice (some ⟨b284, o285, none⟩) wv1.Items.length k3] 29, .box b6 [.int .i64 0, .int .i64 0, .slice none ([] : List Transit).length 0] 29, .row p147 sv19.2.1.length k148 c146 9 1, .row (some ⟨b358, 0, none⟩) ([x351] : List Transit).length ([x351] : List Transit).length [.int .i64 x351.At, .int .i64 x351.Order, .string x351.Data] 47 3] [CeA b284 q355 [.int .i64 x351.At, .int .i64 x351.Order, .string x351.Data]]) (fun _ h => by exact h.sub [0, 1, 2] (Sel.of rfl) (AllIn.of [0] rfl)) (hw.cs [1, 2, 5, 0] [1] rfl rfl) fun hC => ?_
      refine ho 1 rfl ?_
      refine sv hs (y_loadB1 (hw.ownAt 3 rfl) rfl Try.isAgg27 rfl) rfl fun a hs => ?_
      refine h_nx (hw.cs [1, 2, 5, 0] [1] rfl rfl) fun hC => ?_
      refine ho 8 rfl ?_
      refine w_appendR (α := Transit) hs hw El27 4 rfl rfl rfl 4 rfl 0 rfl 0 rfl h359 rfl trivial ?_
      intro p361 k362 c363 a w hs hw
      refine h_nx (hw.cs [1, 2, 5, 0] [2] rfl rfl) fun hC => ?_
      refine gv hs 9 rfl rfl hC (fun w hC => y_fieldAddr (o' := 2) Try.runUnderlying29 rfl Try.sizeOf27 rfl rfl rfl) fun a hs => ?_
      refine ho 10 rfl ?_
      refine w_store (m := 1) (cs' := [.int .i64 (w64 (wv1.Now + 1)), .int .i64 wv1.Order, .slice p361 l360.length k362]) hs hw 3 rfl rfl rfl Try.sizeOf27 rfl rfl rfl rfl trivial ?_
      intro a w hs hw
      refine h_nx (hw.cs [1, 2, 5, 0] [2] rfl rfl) fun hC => ?_
      refine h_done (by kernel_rfl) ?_
      exact ⟨Sv289, c363, k362, p361, (hs.wk rfl), (hw.ft [1, 2, 3, 4, 5] [3, 4, 0, 6] (by decide) rfl rfl)⟩
     exact AllH.nil
    rintro a w ⟨Sv364, c363, k362, p361, hs, hw⟩
    refine then_normal ?_
    exact ⟨l360, sv19.2.1, c363, p361, k362, c146, p147, k148, Sv364, hsh, (hs.wk rfl), (hw.ft [0, 1, 2, 3, 4] [0, 1, 2, 3] (by decide) rfl rfl)⟩
   rintro a w ⟨x329, l330, c322, p323, k324, c325, p326, k327, Sv328, hsh, hs, hw⟩
   delta ref09_Tick_j1 at hsh
   refine blk_normal ?_
   refine then_normal ?_
   refine wp_region_lit ?_
   refine mv hs rfl rfl fun a hs => ?_
   refine sv hs (y_add rfl rfl) rfl fun a hs => ?_
   obtain ⟨i332, h331, hsh⟩ := bind_t hsh
   refine sv hs (y_assignI rfl h331) rfl fun a hs => ?_
   refine nl ?_
   exact ⟨_, (Option.some.inj hsh).symm, c322, p323, k324, c325, p326, k327, Sv328, (hs.wk rfl), (hw.ft [0, 1, 2, 3, 4] [0, 1, 2, 3] (by decide) rfl rfl)⟩
  have hsh := ite_f hsh h220
  refine wp_exit ?_
  refine then_exit ?_
  refine then_exit ?_
  refine blk_exit ?_
  have hsh := oi hsh
  subst hsh
  have h365 := hd208 _ rfl
  subst h365
  refine then_normal ?_
  exact ⟨c143, p144, k145, c146, p147, k148, Sv149, (hs.wk rfl), (hw.ft [1, 2, 3, 4] [1, 2, 3] (by decide) rfl rfl)⟩
 rintro a w ⟨c212, p213, k214, c215, p216, k217, Sv218, hs, hw⟩
 refine then_normal ?_
 refine sr ?_
 refine sv hs (y_loadBA (hw.ownAt 1 rfl) rfl Try.isAgg29 Try.sizeOf29 rfl rfl) rfl fun a hs => ?_
 refine mv hs rfl rfl fun a hs => ?_
 refine w_store (m := 3) (cs' := [.int .i64 (w64 (wv1.Now + 1)), .int .i64 wv1.Order, .slice p213 e211.1.length k214]) hs hw 0 rfl rfl rfl Try.sizeOf29 rfl rfl rfl rfl trivial ?_
 intro a w hs hw
 refine av hs rfl rfl fun a hs => ?_
 refine av hs rfl rfl fun a hs => ?_
 refine nl ?_
 have hsh := oi hsh
 subst hsh
 refine wp_ret ?_
 exact ret3 hs rfl (rv_cell hw 0 rfl rfl Try.isAgg29 Try.sizeOf29 rfl) (rv_tmp rfl) (rv_tmp rfl) (hw.ret ⟨p213, k214, c212, p216, k217, c215, rfl, (hw.outs [2, 3] (by decide) rfl), (hw.envAt 1 rfl), (hw.envAt 2 rfl)⟩)

abbrev law09_wire_rd (w0 : World) (X : List Nat) (b2 : Nat) (r : (Wire × Dice)) : (Nat → Prop) → World → Value → Prop := fun S w v => ∃ (p0_2 : Option Addr) (k0_2 : Nat) (pq0_0 : Option Addr) (kq0_0 : Nat), v = .agg #[.int .i64 r.1.Now, .int .i64 r.1.Order, .slice p0_2 r.1.Items.length k0_2] ∧ Outs X w0 S w [.box b2 [.slice pq0_0 r.2.L.length kq0_0, .int .i64 r.2.At] 59] ∧ (SlA p0_2 r.1.Items.length k0_2 r.1.Items).p S w ∧ (SlA pq0_0 r.2.L.length kq0_0 r.2.L).p S w
set_option maxHeartbeats 4000000 in
set_option maxRecDepth 100000 in
theorem law09_wire_ok {w0 : World} {S0 : Nat → Prop} {b2 : Nat} {p3 : Option Addr} {k4 : Nat} {d1 : Dice} {r : (Wire × Dice)} (hsh : law09_wire d1 = some r) (hS : ∀ b, S0 b → b < w0.heap.size) (hin : Ins S0 w0 [.box b2 [.slice p3 d1.L.length k4, .int .i64 d1.At] 59]) (h5 : (SlA p3 d1.L.length k4 d1.L).p S0 w0) : Calls Try.prog 17 #[.pointer (some ⟨b2, 0, none⟩)] w0 (Ret (blks [.box b2 [.slice p3 d1.L.length k4, .int .i64 d1.At] 59]) w0 S0 (law09_wire_rd w0 (blks [.box b2 [.slice p3 d1.L.length k4, .int .i64 d1.At] 59]) b2 r)) := by
 refine calls_of_wp Try.func17 rfl ?_
 have hs := Sl.enter #[.pointer (some ⟨b2, 0, none⟩)] 34 [(0, .pointer (some ⟨b2, 0, none⟩))] rfl ⟨rfl, trivial⟩
 have hw := Wd.enterI hS hin
 have hw := hw.addE h5
 delta law09_wire at hsh
 refine sr ?_
 refine w_alloc (cs := [.int .i64 0, .int .i64 0, .slice none ([] : List Transit).length 0]) hs hw Try.zeroValue29 rfl rfl trivial ?_
 intro b6 a w hs hw
 refine nl ?_
 refine sr ?_
 obtain ⟨rv8, h7, hsh⟩ := bind_t hsh
 refine st_callR hs (ref09_New_ok h7 hw.dom) (do_call Try.call30 rfl) trivial rfl rfl ?_
 intro v15 Sv12 w a h13 h14 hs
 obtain ⟨p9, k10, rfl, h11⟩ := h14
 have hw := hw.call h13
 have hw := hw.addE (e := SlA p9 rv8.Items.length k10 rv8.Items) h11
 refine w_alloc (cs := [.int .i64 0, .int .i64 0, .slice none ([] : List Transit).length 0]) hs hw Try.zeroValue29 rfl rfl trivial ?_
 intro b17 a w hs hw
 refine w_store (m := 3) (cs' := [.int .i64 rv8.Now, .int .i64 rv8.Order, .slice p9 rv8.Items.length k10]) hs hw 0 rfl rfl rfl Try.sizeOf29 rfl rfl rfl rfl trivial ?_
 intro a w hs hw
 refine nl ?_
 refine wp_seq ?_
 refine sr ?_
 refine mv hs rfl rfl fun a hs => ?_
 obtain ⟨rv19, h18, hsh⟩ := bind_t hsh
 refine st_callR hs (made_Dice_Next_ok h18 hw.dom (hw.ins [2] (by decide) rfl) (hw.envAt 1 rfl)) (do_call Try.call12 rfl) trivial rfl rfl ?_
 intro v26 Sv23 w a h24 h25 hs
 obtain ⟨p20, k21, rfl, h27, h22⟩ := h25
 have hw := hw.callO [2] [0, 1] (by decide) rfl h24 h27
 have hw := hw.addE (e := SlA p20 rv19.2.L.length k21 rv19.2.L) h22
 refine av hs rfl rfl fun a hs => ?_
 refine nl ?_
 obtain ⟨e237, h530, hsh⟩ := bind_t hsh
 refine wp_join (fun a w => ∃ (p238 : Option Addr) (k239 : Nat) (p240 : Option Addr) (k241 : Nat) (Sv242 : Nat → Prop), Sl 34 [(2, .pointer (some ⟨b6, 0, none⟩)), (3, .pointer (some ⟨b17, 0, none⟩))] a ∧ Wd ⟨w0, S0, blks [.box b2 [.slice p3 d1.L.length k4, .int .i64 d1.At] 59]⟩ Sv242 [.box b2 [.slice p238 e237.1.length k239, .int .i64 e237.2.1] 59, .box b6 [.int .i64 0, .int .i64 0, .slice none ([] : List Transit).length 0] 29, .box b17 [.int .i64 e237.2.2.1, .int .i64 e237.2.2.2.1, .slice p240 e237.2.2.2.2.length k241] 29] [SlA p238 e237.1.length k239 e237.1, SlA none ([] : List Transit).length 0 ([] : List Transit), SlA p240 e237.2.2.2.2.length k241 e237.2.2.2.2] w) ?_ ?_
 ·refine wp_block ?_
  have hw := hw.addE (e := SlA (α := Transit) none 0 0 []) nil_sl
  refine wp_while (fun sv28 a w => ∃ (p164 : Option Addr) (k165 : Nat) (p166 : Option Addr) (k167 : Nat) (Sv168 : Nat → Prop), Sl 34 [(0, .pointer (some ⟨b2, 0, none⟩)), (2, .pointer (some ⟨b6, 0, none⟩)), (3, .pointer (some ⟨b17, 0, none⟩)), (4, .int .i64 sv28.2.2.2.2.2)] a ∧ Wd ⟨w0, S0, blks [.box b2 [.slice p3 d1.L.length k4, .int .i64 d1.At] 59]⟩ Sv168 [.box b2 [.slice p164 sv28.1.length k165, .int .i64 sv28.2.1] 59, .box b6 [.int .i64 0, .int .i64 0, .slice none ([] : List Transit).length 0] 29, .box b17 [.int .i64 sv28.2.2.1, .int .i64 sv28.2.2.2.1, .slice p166 sv28.2.2.2.2.1.length k167] 29] [SlA p164 sv28.1.length k165 sv28.1, SlA none ([] : List Transit).length 0 ([] : List Transit), SlA p166 sv28.2.2.2.2.1.length k167 sv28.2.2.2.2.1] w) (rv19.2.L, rv19.2.At, rv8.Now, rv8.Order, rv8.Items, rv19.1) h530 ⟨p20, k21, p9, k10, Sv23, (hs.wk rfl), (hw.ft [0, 2, 1] [1, 0, 2] (by decide) rfl rfl)⟩ ?_
  clear h530
  repeat clear hsh
  rintro sv28 a w tv235 ⟨p164, k165, p166, k167, Sv168, hs, hw⟩ hsh hd234
  delta law09_wire_l1 at hsh
  refine wp_seq ?_
  refine sr ?_
  refine mv hs rfl rfl fun a hs => ?_
  refine sv hs (y_gtr rfl rfl) rfl fun a hs => ?_
  refine nl ?_
  refine wp_cond_split (hs.ev rfl) (fun h244 => ?_) (fun h244 => ?_)
  ·have hsh := ite_t hsh h244
   refine wp_skip ?_
   refine then_normal ?_
   refine wp_seq ?_
   refine wp_block ?_
   refine wp_seq ?_
   obtain ⟨rv310, h309, hsh⟩ := bind_t hsh
   obtain ⟨x316, h314, hsh⟩ := bind_t hsh
   obtain ⟨rv324, h323, hsh⟩ := bind_t hsh
   obtain ⟨rv329, h328, hsh⟩ := bind_t hsh
   refine wp_only (fun a w => ∃ (Sv334 : Nat → Prop) (c333 : List Value) (k326 : Nat) (k331 : Nat) (p325 : Option Addr) (p330 : Option Addr), Sl 34 [(0, .pointer (some ⟨b2, 0, none⟩)), (2, .pointer (some ⟨b6, 0, none⟩)), (3, .pointer (some ⟨b17, 0, none⟩)), (4, .int .i64 sv28.2.2.2.2.2)] a ∧ Wd ⟨w0, S0, blks [.box b2 [.slice p3 d1.L.length k4, .int .i64 d1.At] 59]⟩ Sv334 [.box b2 [.slice p325 rv324.2.L.length k326, .int .i64 rv324.2.At] 59, .box b6 [.int .i64 0, .int .i64 0, .slice none ([] : List Transit).length 0] 29, .box b17 [.int .i64 rv329.1.Now, .int .i64 rv329.1.Order, .slice p330 rv329.1.Items.length k331] 29, .row p330 rv329.1.Items.length k331 c333 47 3] [SlA p325 rv324.2.L.length k326 rv324.2.L, SlA none ([] : List Transit).length 0 ([] : List Transit), RowA c333 rv329.1.Items] w) ?_ ?_
   ·refine h_b (C := Cls [.box b6 [.int .i64 0, .int .i64 0, .slice none ([] : List Transit).length 0] 29] []) (by kernel_rfl) rfl (hw.drew.cs [1] [] rfl rfl) fun hC => ?_
    have hw := hw.drew
    refine gm hs 2 rfl rfl rfl hC fun a hs => ?_
    refine gm hs 6 rfl rfl rfl hC fun a hs => ?_
    refine h_all (rs := [0, 1, 3]) (by kernel_rfl) rfl ?_
    refine AllH.cons rfl ?_ ?_
    ·refine sv hs (y_loadBA (hw.ownAt 2 rfl) rfl Try.isAgg29 Try.sizeOf29 rfl rfl) rfl fun a hs => ?_
     refine h_nx (hw.cs [1] [] rfl rfl) fun hC => ?_
     refine h_all (rs := [1, 3]) (by kernel_rfl) rfl ?_
     refine AllH.cons rfl ?_ ?_
     ·refine w_litSlice (α := ByteArray) (vs := [.string (⟨#[97]⟩ : ByteArray), .string (⟨#[98]⟩ : ByteArray), .string (⟨#[]⟩ : ByteArray), .string (⟨#[99, 99]⟩ : ByteArray)]) (cs := [.string (⟨#[97]⟩ : ByteArray), .string (⟨#[98]⟩ : ByteArray), .string (⟨#[]⟩ : ByteArray), .string (⟨#[99, 99]⟩ : ByteArray)]) (xs := ([(⟨#[97]⟩ : ByteArray), (⟨#[98]⟩ : ByteArray), (⟨#[]⟩ : ByteArray), (⟨#[99, 99]⟩ : ByteArray)] : List ByteArray)) hs hw El34 rfl rfl rfl rfl rfl rfl ⟨⟨_, rfl, rfl⟩, ⟨⟨_, rfl, rfl⟩, ⟨⟨_, rfl, rfl⟩, ⟨⟨_, rfl, rfl⟩, rfl⟩⟩⟩⟩ rfl trivial rfl fun b308 a w hs hw => ?_
      refine h_nx (hw.cs [2] [] rfl rfl) fun hC => ?_
      refine h_st (C' := Cls [.box b6 [.int .i64 0, .int .i64 0, .slice none ([] : List Transit).length 0] 29, .row (some ⟨b308, 0, none⟩) ([(⟨#[97]⟩ : ByteArray), (⟨#[98]⟩ : ByteArray), (⟨#[]⟩ : ByteArray), (⟨#[99, 99]⟩ : ByteArray)] : List ByteArray).length ([(⟨#[97]⟩ : ByteArray), (⟨#[98]⟩ : ByteArray), (⟨#[]⟩ : ByteArray), (⟨#[99, 99]⟩ : ByteArray)] : List ByteArray).length [.string (⟨#[97]⟩ : ByteArray), .string (⟨#[98]⟩ : ByteArray), .string (⟨#[]⟩ : ByteArray), .string (⟨#[99, 99]⟩ : ByteArray)] 9 1] []) (fun _ h => by exact h.sub [0] (Sel.of rfl) (AllIn.of [] rfl)) (hw.cs [2, 0] [] rfl rfl) fun hC => ?_
      refine ho 3 rfl ?_
      refine st_callR hs (made_Dice_Next_ok h309 hw.dom (hw.ins [1] (by decide) rfl) (hw.envAt 1 rfl)) (do_call Try.call12 rfl) trivial rfl rfl ?_
      intro v338 Sv335 w a h336 h337 hs
      obtain ⟨p311, k312, rfl, h339, h313⟩ := h337
      have hw := hw.callO [1] [0, 2, 3] (by decide) rfl h336 h339
      have hw := hw.addE (e := SlA p311 rv310.2.L.length k312 rv310.2.L) h313
      refine h_nx (hw.cs [2, 1] [] rfl rfl) fun hC => ?_
      obtain ⟨c321, h317, h322, h315⟩ := hw.elemRX (α := ByteArray) 1 rfl 1 rfl h314
      obtain ⟨_, rfl, rfl⟩ := h315
      refine gv hs 4 rfl rfl hC (fun w hC => y_indexAt Try.runUnderlying34 Try.sizeOf9 rfl rfl h317.1 h317.2 rfl) fun a hs => ?_
      refine gv hs 5 rfl rfl hC (fun w hC => y_loadQ1 (j := 0) (hC.ownAt 1 rfl) rfl Try.isAgg9 h322 rfl) fun a hs => ?_
      refine ho 7 rfl ?_
      refine st_callR hs (made_Dice_Fault_ok h323 hw.dom (hw.ins [0] (by decide) rfl) (hw.envAt 0 rfl)) (do_call Try.call11 rfl) trivial rfl rfl ?_
      intro v343 Sv340 w a h341 h342 hs
      obtain ⟨p325, k326, rfl, h344, h327⟩ := h342
      have hw := hw.callO [0] [1, 2, 3] (by decide) rfl h341 h344
      have hw := hw.addE (e := SlA p325 rv324.2.L.length k326 rv324.2.L) h327
      refine h_nx (hw.cs [2, 1] [] rfl rfl) fun hC => ?_
      refine ho 8 rfl ?_
      refine st_callR hs (ref09_Send_ok h328 hw.dom (hw.envAt 5 rfl)) (do_call Try.call20 rfl) trivial rfl rfl ?_
      intro v348 Sv345 w a h346 h347 hs
      obtain ⟨p330, k331, c333, rfl, h349, h332⟩ := h347
      have hw := hw.callN h346 h349
      have hw := hw.addE (e := RowA c333 rv329.1.Items) h332
      refine h_nx (hw.cs [3, 2] [] rfl rfl) fun hC => ?_
      refine h_st (C' := Cls [.box b6 [.int .i64 0, .int .i64 0, .slice none ([] : List Transit).length 0] 29, .row (some ⟨b308, 0, none⟩) ([(⟨#[97]⟩ : ByteArray), (⟨#[98]⟩ : ByteArray), (⟨#[]⟩ : ByteArray), (⟨#[99, 99]⟩ : ByteArray)] : List ByteArray).length ([(⟨#[97]⟩ : ByteArray), (⟨#[98]⟩ : ByteArray), (⟨#[]⟩ : ByteArray), (⟨#[99, 99]⟩ : ByteArray)] : List ByteArray).length [.string (⟨#[97]⟩ : ByteArray), .string (⟨#[98]⟩ : ByteArray), .string (⟨#[]⟩ : ByteArray), .string (⟨#[99, 99]⟩ : ByteArray)] 9 1, .row p330 rv329.1.Items.length k331 c333 47 3] []) (fun _ h => by exact h.sub [0, 1] (Sel.of rfl) (AllIn.of [] rfl)) (hw.cs [3, 2, 0] [] rfl rfl) fun hC => ?_
      refine gm hs 9 rfl rfl rfl hC fun a hs => ?_
      refine gv hs 10 rfl rfl hC (fun w hC => y_extract rfl rfl) fun a hs => ?_
      refine gv hs 11 rfl rfl hC (fun w hC => y_extract rfl rfl) fun a hs => ?_
      refine ho 12 rfl ?_
      refine w_store (m := 3) (cs' := [.int .i64 rv329.1.Now, .int .i64 rv329.1.Order, .slice p330 rv329.1.Items.length k331]) hs hw 4 rfl rfl rfl Try.sizeOf29 rfl rfl rfl rfl trivial ?_
      intro a w hs hw
      refine h_nx (hw.cs [3, 2, 0] [] rfl rfl) fun hC => ?_
      refine h_done (by kernel_rfl) ?_
      exact ⟨Sv345, c333, k326, k331, p325, p330, (hs.wk rfl), (hw.ft [1, 3, 4, 0] [1, 5, 0] (by decide) rfl rfl)⟩
     refine AllH.cons rfl ?_ ?_
     ·refine st_callR hs (made_Dice_Next_ok h309 hw.dom (hw.ins [0] (by decide) rfl) (hw.envAt 0 rfl)) (do_call Try.call12 rfl) trivial rfl rfl ?_
      intro v353 Sv350 w a h351 h352 hs
      obtain ⟨p311, k312, rfl, h354, h313⟩ := h352
      have hw := hw.callO [0] [1, 2] (by decide) rfl h351 h354
      have hw := hw.addE (e := SlA p311 rv310.2.L.length k312 rv310.2.L) h313
      refine h_nx (hw.cs [1] [] rfl rfl) fun hC => ?_
      refine h_all (rs := [1, 7]) (by kernel_rfl) rfl ?_
      refine AllH.cons rfl ?_ ?_
      ·refine w_litSlice (α := ByteArray) (vs := [.string (⟨#[97]⟩ : ByteArray), .string (⟨#[98]⟩ : ByteArray), .string (⟨#[]⟩ : ByteArray), .string (⟨#[99, 99]⟩ : ByteArray)]) (cs := [.string (⟨#[97]⟩ : ByteArray), .string (⟨#[98]⟩ : ByteArray), .string (⟨#[]⟩ : ByteArray), .string (⟨#[99, 99]⟩ : ByteArray)]) (xs := ([(⟨#[97]⟩ : ByteArray), (⟨#[98]⟩ : ByteArray), (⟨#[]⟩ : ByteArray), (⟨#[99, 99]⟩ : ByteArray)] : List ByteArray)) hs hw El34 rfl rfl rfl rfl rfl rfl ⟨⟨_, rfl, rfl⟩, ⟨⟨_, rfl, rfl⟩, ⟨⟨_, rfl, rfl⟩, ⟨⟨_, rfl, rfl⟩, rfl⟩⟩⟩⟩ rfl trivial rfl fun b308 a w hs hw => ?_
       refine h_nx (hw.cs [2] [] rfl rfl) fun hC => ?_
       refine h_st (C' := Cls [.box b6 [.int .i64 0, .int .i64 0, .slice none ([] : List Transit).length 0] 29, .row (some ⟨b308, 0, none⟩) ([(⟨#[97]⟩ : ByteArray), (⟨#[98]⟩ : ByteArray), (⟨#[]⟩ : ByteArray), (⟨#[99, 99]⟩ : ByteArray)] : List ByteArray).length ([(⟨#[97]⟩ : ByteArray), (⟨#[98]⟩ : ByteArray), (⟨#[]⟩ : ByteArray), (⟨#[99, 99]⟩ : ByteArray)] : List ByteArray).length [.string (⟨#[97]⟩ : ByteArray), .string (⟨#[98]⟩ : ByteArray), .string (⟨#[]⟩ : ByteArray), .string (⟨#[99, 99]⟩ : ByteArray)] 9 1] []) (fun _ h => by exact h.sub [0] (Sel.of rfl) (AllIn.of [] rfl)) (hw.cs [2, 0] [] rfl rfl) fun hC => ?_
       obtain ⟨c321, h317, h322, h315⟩ := hw.elemRX (α := ByteArray) 0 rfl 0 rfl h314
       obtain ⟨_, rfl, rfl⟩ := h315
       refine gv hs 4 rfl rfl hC (fun w hC => y_indexAt Try.runUnderlying34 Try.sizeOf9 rfl rfl h317.1 h317.2 rfl) fun a hs => ?_
       refine gv hs 5 rfl rfl hC (fun w hC => y_loadQ1 (j := 0) (hC.ownAt 1 rfl) rfl Try.isAgg9 h322 rfl) fun a hs => ?_
       refine ho 7 rfl ?_
       refine st_callR hs (made_Dice_Fault_ok h323 hw.dom (hw.ins [1] (by decide) rfl) (hw.envAt 1 rfl)) (do_call Try.call11 rfl) trivial rfl rfl ?_
       intro v358 Sv355 w a h356 h357 hs
       obtain ⟨p325, k326, rfl, h359, h327⟩ := h357
       have hw := hw.callO [1] [0, 2, 3] (by decide) rfl h356 h359
       have hw := hw.addE (e := SlA p325 rv324.2.L.length k326 rv324.2.L) h327
       refine h_nx (hw.cs [2, 1] [] rfl rfl) fun hC => ?_
       refine ho 8 rfl ?_
       refine st_callR hs (ref09_Send_ok h328 hw.dom (hw.envAt 5 rfl)) (do_call Try.call20 rfl) trivial rfl rfl ?_
       intro v363 Sv360 w a h361 h362 hs
       obtain ⟨p330, k331, c333, rfl, h364, h332⟩ := h362
       have hw := hw.callN h361 h364
       have hw := hw.addE (e := RowA c333 rv329.1.Items) h332
       refine h_nx (hw.cs [3, 2] [] rfl rfl) fun hC => ?_
       refine h_st (C' := Cls [.box b6 [.int .i64 0, .int .i64 0, .slice none ([] : List Transit).length 0] 29, .row (some ⟨b308, 0, none⟩) ([(⟨#[97]⟩ : ByteArray), (⟨#[98]⟩ : ByteArray), (⟨#[]⟩ : ByteArray), (⟨#[99, 99]⟩ : ByteArray)] : List ByteArray).length ([(⟨#[97]⟩ : ByteArray), (⟨#[98]⟩ : ByteArray), (⟨#[]⟩ : ByteArray), (⟨#[99, 99]⟩ : ByteArray)] : List ByteArray).length [.string (⟨#[97]⟩ : ByteArray), .string (⟨#[98]⟩ : ByteArray), .string (⟨#[]⟩ : ByteArray), .string (⟨#[99, 99]⟩ : ByteArray)] 9 1, .row p330 rv329.1.Items.length k331 c333 47 3] []) (fun _ h => by exact h.sub [0, 1] (Sel.of rfl) (AllIn.of [] rfl)) (hw.cs [3, 2, 0] [] rfl rfl) fun hC => ?_
       refine gm hs 9 rfl rfl rfl hC fun a hs => ?_
       refine gv hs 10 rfl rfl hC (fun w hC => y_extract rfl rfl) fun a hs => ?_
       refine gv hs 11 rfl rfl hC (fun w hC => y_extract rfl rfl) fun a hs => ?_
       refine ho 12 rfl ?_
       refine w_store (m := 3) (cs' := [.int .i64 rv329.1.Now, .int .i64 rv329.1.Order, .slice p330 rv329.1.Items.length k331]) hs hw 4 rfl rfl rfl Try.sizeOf29 rfl rfl rfl rfl trivial ?_
       intro a w hs hw
       refine h_nx (hw.cs [3, 2, 0] [] rfl rfl) fun hC => ?_
       refine h_done (by kernel_rfl) ?_
       exact ⟨Sv360, c333, k326, k331, p325, p330, (hs.wk rfl), (hw.ft [1, 3, 4, 0] [1, 5, 0] (by decide) rfl rfl)⟩
      refine AllH.cons rfl ?_ ?_
      ·refine st_callR hs (made_Dice_Fault_ok h323 hw.dom (hw.ins [0] (by decide) rfl) (hw.envAt 0 rfl)) (do_call Try.call11 rfl) trivial rfl rfl ?_
       intro v368 Sv365 w a h366 h367 hs
       obtain ⟨p325, k326, rfl, h369, h327⟩ := h367
       have hw := hw.callO [0] [1, 2] (by decide) rfl h366 h369
       have hw := hw.addE (e := SlA p325 rv324.2.L.length k326 rv324.2.L) h327
       refine h_nx (hw.cs [1] [] rfl rfl) fun hC => ?_
       refine ho 1 rfl ?_
       refine w_litSlice (α := ByteArray) (vs := [.string (⟨#[97]⟩ : ByteArray), .string (⟨#[98]⟩ : ByteArray), .string (⟨#[]⟩ : ByteArray), .string (⟨#[99, 99]⟩ : ByteArray)]) (cs := [.string (⟨#[97]⟩ : ByteArray), .string (⟨#[98]⟩ : ByteArray), .string (⟨#[]⟩ : ByteArray), .string (⟨#[99, 99]⟩ : ByteArray)]) (xs := ([(⟨#[97]⟩ : ByteArray), (⟨#[98]⟩ : ByteArray), (⟨#[]⟩ : ByteArray), (⟨#[99, 99]⟩ : ByteArray)] : List ByteArray)) hs hw El34 rfl rfl rfl rfl rfl rfl ⟨⟨_, rfl, rfl⟩, ⟨⟨_, rfl, rfl⟩, ⟨⟨_, rfl, rfl⟩, ⟨⟨_, rfl, rfl⟩, rfl⟩⟩⟩⟩ rfl trivial rfl fun b308 a w hs hw => ?_
       refine h_nx (hw.cs [2] [] rfl rfl) fun hC => ?_
       refine h_st (C' := Cls [.box b6 [.int .i64 0, .int .i64 0, .slice none ([] : List Transit).length 0] 29, .row (some ⟨b308, 0, none⟩) ([(⟨#[97]⟩ : ByteArray), (⟨#[98]⟩ : ByteArray), (⟨#[]⟩ : ByteArray), (⟨#[99, 99]⟩ : ByteArray)] : List ByteArray).length ([(⟨#[97]⟩ : ByteArray), (⟨#[98]⟩ : ByteArray), (⟨#[]⟩ : ByteArray), (⟨#[99, 99]⟩ : ByteArray)] : List ByteArray).length [.string (⟨#[97]⟩ : ByteArray), .string (⟨#[98]⟩ : ByteArray), .string (⟨#[]⟩ : ByteArray), .string (⟨#[99, 99]⟩ : ByteArray)] 9 1] []) (fun _ h => by exact h.sub [0] (Sel.of rfl) (AllIn.of [] rfl)) (hw.cs [2, 0] [] rfl rfl) fun hC => ?_
       obtain ⟨c321, h317, h322, h315⟩ := hw.elemRX (α := ByteArray) 0 rfl 0 rfl h314
       obtain ⟨_, rfl, rfl⟩ := h315
       refine gv hs 4 rfl rfl hC (fun w hC => y_indexAt Try.runUnderlying34 Try.sizeOf9 rfl rfl h317.1 h317.2 rfl) fun a hs => ?_
       refine gv hs 5 rfl rfl hC (fun w hC => y_loadQ1 (j := 0) (hC.ownAt 1 rfl) rfl Try.isAgg9 h322 rfl) fun a hs => ?_
       refine ho 8 rfl ?_
       refine st_callR hs (ref09_Send_ok h328 hw.dom (hw.envAt 5 rfl)) (do_call Try.call20 rfl) trivial rfl rfl ?_
       intro v373 Sv370 w a h371 h372 hs
       obtain ⟨p330, k331, c333, rfl, h374, h332⟩ := h372
       have hw := hw.callN h371 h374
       have hw := hw.addE (e := RowA c333 rv329.1.Items) h332
       refine h_nx (hw.cs [3, 1] [] rfl rfl) fun hC => ?_
       refine h_st (C' := Cls [.box b6 [.int .i64 0, .int .i64 0, .slice none ([] : List Transit).length 0] 29, .row (some ⟨b308, 0, none⟩) ([(⟨#[97]⟩ : ByteArray), (⟨#[98]⟩ : ByteArray), (⟨#[]⟩ : ByteArray), (⟨#[99, 99]⟩ : ByteArray)] : List ByteArray).length ([(⟨#[97]⟩ : ByteArray), (⟨#[98]⟩ : ByteArray), (⟨#[]⟩ : ByteArray), (⟨#[99, 99]⟩ : ByteArray)] : List ByteArray).length [.string (⟨#[97]⟩ : ByteArray), .string (⟨#[98]⟩ : ByteArray), .string (⟨#[]⟩ : ByteArray), .string (⟨#[99, 99]⟩ : ByteArray)] 9 1, .row p330 rv329.1.Items.length k331 c333 47 3] []) (fun _ h => by exact h.sub [0, 1] (Sel.of rfl) (AllIn.of [] rfl)) (hw.cs [3, 1, 0] [] rfl rfl) fun hC => ?_
       refine gm hs 9 rfl rfl rfl hC fun a hs => ?_
       refine gv hs 10 rfl rfl hC (fun w hC => y_extract rfl rfl) fun a hs => ?_
       refine gv hs 11 rfl rfl hC (fun w hC => y_extract rfl rfl) fun a hs => ?_
       refine ho 12 rfl ?_
       refine w_store (m := 3) (cs' := [.int .i64 rv329.1.Now, .int .i64 rv329.1.Order, .slice p330 rv329.1.Items.length k331]) hs hw 4 rfl rfl rfl Try.sizeOf29 rfl rfl rfl rfl trivial ?_
       intro a w hs hw
       refine h_nx (hw.cs [3, 1, 0] [] rfl rfl) fun hC => ?_
       refine h_done (by kernel_rfl) ?_
       exact ⟨Sv370, c333, k326, k331, p325, p330, (hs.wk rfl), (hw.ft [2, 3, 4, 0] [2, 5, 0] (by decide) rfl rfl)⟩
      exact AllH.nil
     exact AllH.nil
    refine AllH.cons rfl ?_ ?_
    ·refine w_litSlice (α := ByteArray) (vs := [.string (⟨#[97]⟩ : ByteArray), .string (⟨#[98]⟩ : ByteArray), .string (⟨#[]⟩ : ByteArray), .string (⟨#[99, 99]⟩ : ByteArray)]) (cs := [.string (⟨#[97]⟩ : ByteArray), .string (⟨#[98]⟩ : ByteArray), .string (⟨#[]⟩ : ByteArray), .string (⟨#[99, 99]⟩ : ByteArray)]) (xs := ([(⟨#[97]⟩ : ByteArray), (⟨#[98]⟩ : ByteArray), (⟨#[]⟩ : ByteArray), (⟨#[99, 99]⟩ : ByteArray)] : List ByteArray)) hs hw El34 rfl rfl rfl rfl rfl rfl ⟨⟨_, rfl, rfl⟩, ⟨⟨_, rfl, rfl⟩, ⟨⟨_, rfl, rfl⟩, ⟨⟨_, rfl, rfl⟩, rfl⟩⟩⟩⟩ rfl trivial rfl fun b308 a w hs hw => ?_
     refine h_nx (hw.cs [2] [] rfl rfl) fun hC => ?_
     refine h_st (C' := Cls [.box b6 [.int .i64 0, .int .i64 0, .slice none ([] : List Transit).length 0] 29, .row (some ⟨b308, 0, none⟩) ([(⟨#[97]⟩ : ByteArray), (⟨#[98]⟩ : ByteArray), (⟨#[]⟩ : ByteArray), (⟨#[99, 99]⟩ : ByteArray)] : List ByteArray).length ([(⟨#[97]⟩ : ByteArray), (⟨#[98]⟩ : ByteArray), (⟨#[]⟩ : ByteArray), (⟨#[99, 99]⟩ : ByteArray)] : List ByteArray).length [.string (⟨#[97]⟩ : ByteArray), .string (⟨#[98]⟩ : ByteArray), .string (⟨#[]⟩ : ByteArray), .string (⟨#[99, 99]⟩ : ByteArray)] 9 1] []) (fun _ h => by exact h.sub [0] (Sel.of rfl) (AllIn.of [] rfl)) (hw.cs [2, 0] [] rfl rfl) fun hC => ?_
     refine h_all (rs := [0, 3]) (by kernel_rfl) rfl ?_
     refine AllH.cons rfl ?_ ?_
     ·refine sv hs (y_loadBA (hw.ownAt 3 rfl) rfl Try.isAgg29 Try.sizeOf29 rfl rfl) rfl fun a hs => ?_
      refine h_nx (hw.cs [2, 0] [] rfl rfl) fun hC => ?_
      refine ho 3 rfl ?_
      refine st_callR hs (made_Dice_Next_ok h309 hw.dom (hw.ins [1] (by decide) rfl) (hw.envAt 1 rfl)) (do_call Try.call12 rfl) trivial rfl rfl ?_
      intro v378 Sv375 w a h376 h377 hs
      obtain ⟨p311, k312, rfl, h379, h313⟩ := h377
      have hw := hw.callO [1] [0, 2, 3] (by decide) rfl h376 h379
      have hw := hw.addE (e := SlA p311 rv310.2.L.length k312 rv310.2.L) h313
      refine h_nx (hw.cs [2, 1] [] rfl rfl) fun hC => ?_
      obtain ⟨c321, h317, h322, h315⟩ := hw.elemRX (α := ByteArray) 1 rfl 1 rfl h314
      obtain ⟨_, rfl, rfl⟩ := h315
      refine gv hs 4 rfl rfl hC (fun w hC => y_indexAt Try.runUnderlying34 Try.sizeOf9 rfl rfl h317.1 h317.2 rfl) fun a hs => ?_
      refine gv hs 5 rfl rfl hC (fun w hC => y_loadQ1 (j := 0) (hC.ownAt 1 rfl) rfl Try.isAgg9 h322 rfl) fun a hs => ?_
      refine ho 7 rfl ?_
      refine st_callR hs (made_Dice_Fault_ok h323 hw.dom (hw.ins [0] (by decide) rfl) (hw.envAt 0 rfl)) (do_call Try.call11 rfl) trivial rfl rfl ?_
      intro v383 Sv380 w a h381 h382 hs
      obtain ⟨p325, k326, rfl, h384, h327⟩ := h382
      have hw := hw.callO [0] [1, 2, 3] (by decide) rfl h381 h384
      have hw := hw.addE (e := SlA p325 rv324.2.L.length k326 rv324.2.L) h327
      refine h_nx (hw.cs [2, 1] [] rfl rfl) fun hC => ?_
      refine ho 8 rfl ?_
      refine st_callR hs (ref09_Send_ok h328 hw.dom (hw.envAt 5 rfl)) (do_call Try.call20 rfl) trivial rfl rfl ?_
      intro v388 Sv385 w a h386 h387 hs
      obtain ⟨p330, k331, c333, rfl, h389, h332⟩ := h387
      have hw := hw.callN h386 h389
      have hw := hw.addE (e := RowA c333 rv329.1.Items) h332
      refine h_nx (hw.cs [3, 2] [] rfl rfl) fun hC => ?_
      refine h_st (C' := Cls [.box b6 [.int .i64 0, .int .i64 0, .slice none ([] : List Transit).length 0] 29, .row (some ⟨b308, 0, none⟩) ([(⟨#[97]⟩ : ByteArray), (⟨#[98]⟩ : ByteArray), (⟨#[]⟩ : ByteArray), (⟨#[99, 99]⟩ : ByteArray)] : List ByteArray).length ([(⟨#[97]⟩ : ByteArray), (⟨#[98]⟩ : ByteArray), (⟨#[]⟩ : ByteArray), (⟨#[99, 99]⟩ : ByteArray)] : List ByteArray).length [.string (⟨#[97]⟩ : ByteArray), .string (⟨#[98]⟩ : ByteArray), .string (⟨#[]⟩ : ByteArray), .string (⟨#[99, 99]⟩ : ByteArray)] 9 1, .row p330 rv329.1.Items.length k331 c333 47 3] []) (fun _ h => by exact h.sub [0, 1] (Sel.of rfl) (AllIn.of [] rfl)) (hw.cs [3, 2, 0] [] rfl rfl) fun hC => ?_
      refine gm hs 9 rfl rfl rfl hC fun a hs => ?_
      refine gv hs 10 rfl rfl hC (fun w hC => y_extract rfl rfl) fun a hs => ?_
      refine gv hs 11 rfl rfl hC (fun w hC => y_extract rfl rfl) fun a hs => ?_
      refine ho 12 rfl ?_
      refine w_store (m := 3) (cs' := [.int .i64 rv329.1.Now, .int .i64 rv329.1.Order, .slice p330 rv329.1.Items.length k331]) hs hw 4 rfl rfl rfl Try.sizeOf29 rfl rfl rfl rfl trivial ?_
      intro a w hs hw
      refine h_nx (hw.cs [3, 2, 0] [] rfl rfl) fun hC => ?_
      refine h_done (by kernel_rfl) ?_
      exact ⟨Sv385, c333, k326, k331, p325, p330, (hs.wk rfl), (hw.ft [1, 3, 4, 0] [1, 5, 0] (by decide) rfl rfl)⟩
     refine AllH.cons rfl ?_ ?_
     ·refine st_callR hs (made_Dice_Next_ok h309 hw.dom (hw.ins [1] (by decide) rfl) (hw.envAt 1 rfl)) (do_call Try.call12 rfl) trivial rfl rfl ?_
      intro v393 Sv390 w a h391 h392 hs
      obtain ⟨p311, k312, rfl, h394, h313⟩ := h392
      have hw := hw.callO [1] [0, 2, 3] (by decide) rfl h391 h394
      have hw := hw.addE (e := SlA p311 rv310.2.L.length k312 rv310.2.L) h313
      refine h_nx (hw.cs [2, 1] [] rfl rfl) fun hC => ?_
      obtain ⟨c321, h317, h322, h315⟩ := hw.elemRX (α := ByteArray) 1 rfl 1 rfl h314
      obtain ⟨_, rfl, rfl⟩ := h315
      refine gv hs 4 rfl rfl hC (fun w hC => y_indexAt Try.runUnderlying34 Try.sizeOf9 rfl rfl h317.1 h317.2 rfl) fun a hs => ?_
      refine gv hs 5 rfl rfl hC (fun w hC => y_loadQ1 (j := 0) (hC.ownAt 1 rfl) rfl Try.isAgg9 h322 rfl) fun a hs => ?_
      refine h_all (rs := [0, 7]) (by kernel_rfl) rfl ?_
      refine AllH.cons rfl ?_ ?_
      ·refine sv hs (y_loadBA (hw.ownAt 3 rfl) rfl Try.isAgg29 Try.sizeOf29 rfl rfl) rfl fun a hs => ?_
       refine h_nx (hw.cs [2, 1] [] rfl rfl) fun hC => ?_
       refine ho 7 rfl ?_
       refine st_callR hs (made_Dice_Fault_ok h323 hw.dom (hw.ins [0] (by decide) rfl) (hw.envAt 0 rfl)) (do_call Try.call11 rfl) trivial rfl rfl ?_
       intro v398 Sv395 w a h396 h397 hs
       obtain ⟨p325, k326, rfl, h399, h327⟩ := h397
       have hw := hw.callO [0] [1, 2, 3] (by decide) rfl h396 h399
       have hw := hw.addE (e := SlA p325 rv324.2.L.length k326 rv324.2.L) h327
       refine h_nx (hw.cs [2, 1] [] rfl rfl) fun hC => ?_
       refine ho 8 rfl ?_
       refine st_callR hs (ref09_Send_ok h328 hw.dom (hw.envAt 5 rfl)) (do_call Try.call20 rfl) trivial rfl rfl ?_
       intro v403 Sv400 w a h401 h402 hs
       obtain ⟨p330, k331, c333, rfl, h404, h332⟩ := h402
       have hw := hw.callN h401 h404
       have hw := hw.addE (e := RowA c333 rv329.1.Items) h332
       refine h_nx (hw.cs [3, 2] [] rfl rfl) fun hC => ?_
       refine h_st (C' := Cls [.box b6 [.int .i64 0, .int .i64 0, .slice none ([] : List Transit).length 0] 29, .row (some ⟨b308, 0, none⟩) ([(⟨#[97]⟩ : ByteArray), (⟨#[98]⟩ : ByteArray), (⟨#[]⟩ : ByteArray), (⟨#[99, 99]⟩ : ByteArray)] : List ByteArray).length ([(⟨#[97]⟩ : ByteArray), (⟨#[98]⟩ : ByteArray), (⟨#[]⟩ : ByteArray), (⟨#[99, 99]⟩ : ByteArray)] : List ByteArray).length [.string (⟨#[97]⟩ : ByteArray), .string (⟨#[98]⟩ : ByteArray), .string (⟨#[]⟩ : ByteArray), .string (⟨#[99, 99]⟩ : ByteArray)] 9 1, .row p330 rv329.1.Items.length k331 c333 47 3] []) (fun _ h => by exact h.sub [0, 1] (Sel.of rfl) (AllIn.of [] rfl)) (hw.cs [3, 2, 0] [] rfl rfl) fun hC => ?_
       refine gm hs 9 rfl rfl rfl hC fun a hs => ?_
       refine gv hs 10 rfl rfl hC (fun w hC => y_extract rfl rfl) fun a hs => ?_
       refine gv hs 11 rfl rfl hC (fun w hC => y_extract rfl rfl) fun a hs => ?_
       refine ho 12 rfl ?_
       refine w_store (m := 3) (cs' := [.int .i64 rv329.1.Now, .int .i64 rv329.1.Order, .slice p330 rv329.1.Items.length k331]) hs hw 4 rfl rfl rfl Try.sizeOf29 rfl rfl rfl rfl trivial ?_
       intro a w hs hw
       refine h_nx (hw.cs [3, 2, 0] [] rfl rfl) fun hC => ?_
       refine h_done (by kernel_rfl) ?_
       exact ⟨Sv400, c333, k326, k331, p325, p330, (hs.wk rfl), (hw.ft [1, 3, 4, 0] [1, 5, 0] (by decide) rfl rfl)⟩
      refine AllH.cons rfl ?_ ?_
      ·refine st_callR hs (made_Dice_Fault_ok h323 hw.dom (hw.ins [0] (by decide) rfl) (hw.envAt 0 rfl)) (do_call Try.call11 rfl) trivial rfl rfl ?_
       intro v408 Sv405 w a h406 h407 hs
       obtain ⟨p325, k326, rfl, h409, h327⟩ := h407
       have hw := hw.callO [0] [1, 2, 3] (by decide) rfl h406 h409
       have hw := hw.addE (e := SlA p325 rv324.2.L.length k326 rv324.2.L) h327
       refine h_nx (hw.cs [2, 1] [] rfl rfl) fun hC => ?_
       refine ho 0 rfl ?_
       refine sv hs (y_loadBA (hw.ownAt 3 rfl) rfl Try.isAgg29 Try.sizeOf29 rfl rfl) rfl fun a hs => ?_
       refine h_nx (hw.cs [2, 1] [] rfl rfl) fun hC => ?_
       refine ho 8 rfl ?_
       refine st_callR hs (ref09_Send_ok h328 hw.dom (hw.envAt 5 rfl)) (do_call Try.call20 rfl) trivial rfl rfl ?_
       intro v413 Sv410 w a h411 h412 hs
       obtain ⟨p330, k331, c333, rfl, h414, h332⟩ := h412
       have hw := hw.callN h411 h414
       have hw := hw.addE (e := RowA c333 rv329.1.Items) h332
       refine h_nx (hw.cs [3, 2] [] rfl rfl) fun hC => ?_
       refine h_st (C' := Cls [.box b6 [.int .i64 0, .int .i64 0, .slice none ([] : List Transit).length 0] 29, .row (some ⟨b308, 0, none⟩) ([(⟨#[97]⟩ : ByteArray), (⟨#[98]⟩ : ByteArray), (⟨#[]⟩ : ByteArray), (⟨#[99, 99]⟩ : ByteArray)] : List ByteArray).length ([(⟨#[97]⟩ : ByteArray), (⟨#[98]⟩ : ByteArray), (⟨#[]⟩ : ByteArray), (⟨#[99, 99]⟩ : ByteArray)] : List ByteArray).length [.string (⟨#[97]⟩ : ByteArray), .string (⟨#[98]⟩ : ByteArray), .string (⟨#[]⟩ : ByteArray), .string (⟨#[99, 99]⟩ : ByteArray)] 9 1, .row p330 rv329.1.Items.length k331 c333 47 3] []) (fun _ h => by exact h.sub [0, 1] (Sel.of rfl) (AllIn.of [] rfl)) (hw.cs [3, 2, 0] [] rfl rfl) fun hC => ?_
       refine gm hs 9 rfl rfl rfl hC fun a hs => ?_
       refine gv hs 10 rfl rfl hC (fun w hC => y_extract rfl rfl) fun a hs => ?_
       refine gv hs 11 rfl rfl hC (fun w hC => y_extract rfl rfl) fun a hs => ?_
       refine ho 12 rfl ?_
       refine w_store (m := 3) (cs' := [.int .i64 rv329.1.Now, .int .i64 rv329.1.Order, .slice p330 rv329.1.Items.length k331]) hs hw 4 rfl rfl rfl Try.sizeOf29 rfl rfl rfl rfl trivial ?_
       intro a w hs hw
       refine h_nx (hw.cs [3, 2, 0] [] rfl rfl) fun hC => ?_
       refine h_done (by kernel_rfl) ?_
       exact ⟨Sv410, c333, k326, k331, p325, p330, (hs.wk rfl), (hw.ft [1, 3, 4, 0] [1, 5, 0] (by decide) rfl rfl)⟩
      exact AllH.nil
     exact AllH.nil
    refine AllH.cons rfl ?_ ?_
    ·refine st_callR hs (made_Dice_Next_ok h309 hw.dom (hw.ins [0] (by decide) rfl) (hw.envAt 0 rfl)) (do_call Try.call12 rfl) trivial rfl rfl ?_
     intro v418 Sv415 w a h416 h417 hs
     obtain ⟨p311, k312, rfl, h419, h313⟩ := h417
     have hw := hw.callO [0] [1, 2] (by decide) rfl h416 h419
     have hw := hw.addE (e := SlA p311 rv310.2.L.length k312 rv310.2.L) h313
     refine h_nx (hw.cs [1] [] rfl rfl) fun hC => ?_
     refine h_all (rs := [0, 1, 7]) (by kernel_rfl) rfl ?_
     refine AllH.cons rfl ?_ ?_
     ·refine sv hs (y_loadBA (hw.ownAt 2 rfl) rfl Try.isAgg29 Try.sizeOf29 rfl rfl) rfl fun a hs => ?_
      refine h_nx (hw.cs [1] [] rfl rfl) fun hC => ?_
      refine h_all (rs := [1, 7]) (by kernel_rfl) rfl ?_
      refine AllH.cons rfl ?_ ?_
      ·refine w_litSlice (α := ByteArray) (vs := [.string (⟨#[97]⟩ : ByteArray), .string (⟨#[98]⟩ : ByteArray), .string (⟨#[]⟩ : ByteArray), .string (⟨#[99, 99]⟩ : ByteArray)]) (cs := [.string (⟨#[97]⟩ : ByteArray), .string (⟨#[98]⟩ : ByteArray), .string (⟨#[]⟩ : ByteArray), .string (⟨#[99, 99]⟩ : ByteArray)]) (xs := ([(⟨#[97]⟩ : ByteArray), (⟨#[98]⟩ : ByteArray), (⟨#[]⟩ : ByteArray), (⟨#[99, 99]⟩ : ByteArray)] : List ByteArray)) hs hw El34 rfl rfl rfl rfl rfl rfl ⟨⟨_, rfl, rfl⟩, ⟨⟨_, rfl, rfl⟩, ⟨⟨_, rfl, rfl⟩, ⟨⟨_, rfl, rfl⟩, rfl⟩⟩⟩⟩ rfl trivial rfl fun b308 a w hs hw => ?_
       refine h_nx (hw.cs [2] [] rfl rfl) fun hC => ?_
       refine h_st (C' := Cls [.box b6 [.int .i64 0, .int .i64 0, .slice none ([] : List Transit).length 0] 29, .row (some ⟨b308, 0, none⟩) ([(⟨#[97]⟩ : ByteArray), (⟨#[98]⟩ : ByteArray), (⟨#[]⟩ : ByteArray), (⟨#[99, 99]⟩ : ByteArray)] : List ByteArray).length ([(⟨#[97]⟩ : ByteArray), (⟨#[98]⟩ : ByteArray), (⟨#[]⟩ : ByteArray), (⟨#[99, 99]⟩ : ByteArray)] : List ByteArray).length [.string (⟨#[97]⟩ : ByteArray), .string (⟨#[98]⟩ : ByteArray), .string (⟨#[]⟩ : ByteArray), .string (⟨#[99, 99]⟩ : ByteArray)] 9 1] []) (fun _ h => by exact h.sub [0] (Sel.of rfl) (AllIn.of [] rfl)) (hw.cs [2, 0] [] rfl rfl) fun hC => ?_
       obtain ⟨c321, h317, h322, h315⟩ := hw.elemRX (α := ByteArray) 0 rfl 0 rfl h314
       obtain ⟨_, rfl, rfl⟩ := h315
       refine gv hs 4 rfl rfl hC (fun w hC => y_indexAt Try.runUnderlying34 Try.sizeOf9 rfl rfl h317.1 h317.2 rfl) fun a hs => ?_
       refine gv hs 5 rfl rfl hC (fun w hC => y_loadQ1 (j := 0) (hC.ownAt 1 rfl) rfl Try.isAgg9 h322 rfl) fun a hs => ?_
       refine ho 7 rfl ?_
       refine st_callR hs (made_Dice_Fault_ok h323 hw.dom (hw.ins [1] (by decide) rfl) (hw.envAt 1 rfl)) (do_call Try.call11 rfl) trivial rfl rfl ?_
       intro v423 Sv420 w a h421 h422 hs
       obtain ⟨p325, k326, rfl, h424, h327⟩ := h422
       have hw := hw.callO [1] [0, 2, 3] (by decide) rfl h421 h424
       have hw := hw.addE (e := SlA p325 rv324.2.L.length k326 rv324.2.L) h327
       refine h_nx (hw.cs [2, 1] [] rfl rfl) fun hC => ?_
       refine ho 8 rfl ?_
       refine st_callR hs (ref09_Send_ok h328 hw.dom (hw.envAt 5 rfl)) (do_call Try.call20 rfl) trivial rfl rfl ?_
       intro v428 Sv425 w a h426 h427 hs
       obtain ⟨p330, k331, c333, rfl, h429, h332⟩ := h427
       have hw := hw.callN h426 h429
       have hw := hw.addE (e := RowA c333 rv329.1.Items) h332
       refine h_nx (hw.cs [3, 2] [] rfl rfl) fun hC => ?_
       refine h_st (C' := Cls [.box b6 [.int .i64 0, .int .i64 0, .slice none ([] : List Transit).length 0] 29, .row (some ⟨b308, 0, none⟩) ([(⟨#[97]⟩ : ByteArray), (⟨#[98]⟩ : ByteArray), (⟨#[]⟩ : ByteArray), (⟨#[99, 99]⟩ : ByteArray)] : List ByteArray).length ([(⟨#[97]⟩ : ByteArray), (⟨#[98]⟩ : ByteArray), (⟨#[]⟩ : ByteArray), (⟨#[99, 99]⟩ : ByteArray)] : List ByteArray).length [.string (⟨#[97]⟩ : ByteArray), .string (⟨#[98]⟩ : ByteArray), .string (⟨#[]⟩ : ByteArray), .string (⟨#[99, 99]⟩ : ByteArray)] 9 1, .row p330 rv329.1.Items.length k331 c333 47 3] []) (fun _ h => by exact h.sub [0, 1] (Sel.of rfl) (AllIn.of [] rfl)) (hw.cs [3, 2, 0] [] rfl rfl) fun hC => ?_
       refine gm hs 9 rfl rfl rfl hC fun a hs => ?_
       refine gv hs 10 rfl rfl hC (fun w hC => y_extract rfl rfl) fun a hs => ?_
       refine gv hs 11 rfl rfl hC (fun w hC => y_extract rfl rfl) fun a hs => ?_
       refine ho 12 rfl ?_
       refine w_store (m := 3) (cs' := [.int .i64 rv329.1.Now, .int .i64 rv329.1.Order, .slice p330 rv329.1.Items.length k331]) hs hw 4 rfl rfl rfl Try.sizeOf29 rfl rfl rfl rfl trivial ?_
       intro a w hs hw
       refine h_nx (hw.cs [3, 2, 0] [] rfl rfl) fun hC => ?_
       refine h_done (by kernel_rfl) ?_
       exact ⟨Sv425, c333, k326, k331, p325, p330, (hs.wk rfl), (hw.ft [1, 3, 4, 0] [1, 5, 0] (by decide) rfl rfl)⟩
      refine AllH.cons rfl ?_ ?_
      ·refine st_callR hs (made_Dice_Fault_ok h323 hw.dom (hw.ins [0] (by decide) rfl) (hw.envAt 0 rfl)) (do_call Try.call11 rfl) trivial rfl rfl ?_
       intro v433 Sv430 w a h431 h432 hs
       obtain ⟨p325, k326, rfl, h434, h327⟩ := h432
       have hw := hw.callO [0] [1, 2] (by decide) rfl h431 h434
       have hw := hw.addE (e := SlA p325 rv324.2.L.length k326 rv324.2.L) h327
       refine h_nx (hw.cs [1] [] rfl rfl) fun hC => ?_
       refine ho 1 rfl ?_
       refine w_litSlice (α := ByteArray) (vs := [.string (⟨#[97]⟩ : ByteArray), .string (⟨#[98]⟩ : ByteArray), .string (⟨#[]⟩ : ByteArray), .string (⟨#[99, 99]⟩ : ByteArray)]) (cs := [.string (⟨#[97]⟩ : ByteArray), .string (⟨#[98]⟩ : ByteArray), .string (⟨#[]⟩ : ByteArray), .string (⟨#[99, 99]⟩ : ByteArray)]) (xs := ([(⟨#[97]⟩ : ByteArray), (⟨#[98]⟩ : ByteArray), (⟨#[]⟩ : ByteArray), (⟨#[99, 99]⟩ : ByteArray)] : List ByteArray)) hs hw El34 rfl rfl rfl rfl rfl rfl ⟨⟨_, rfl, rfl⟩, ⟨⟨_, rfl, rfl⟩, ⟨⟨_, rfl, rfl⟩, ⟨⟨_, rfl, rfl⟩, rfl⟩⟩⟩⟩ rfl trivial rfl fun b308 a w hs hw => ?_
       refine h_nx (hw.cs [2] [] rfl rfl) fun hC => ?_
       refine h_st (C' := Cls [.box b6 [.int .i64 0, .int .i64 0, .slice none ([] : List Transit).length 0] 29, .row (some ⟨b308, 0, none⟩) ([(⟨#[97]⟩ : ByteArray), (⟨#[98]⟩ : ByteArray), (⟨#[]⟩ : ByteArray), (⟨#[99, 99]⟩ : ByteArray)] : List ByteArray).length ([(⟨#[97]⟩ : ByteArray), (⟨#[98]⟩ : ByteArray), (⟨#[]⟩ : ByteArray), (⟨#[99, 99]⟩ : ByteArray)] : List ByteArray).length [.string (⟨#[97]⟩ : ByteArray), .string (⟨#[98]⟩ : ByteArray), .string (⟨#[]⟩ : ByteArray), .string (⟨#[99, 99]⟩ : ByteArray)] 9 1] []) (fun _ h => by exact h.sub [0] (Sel.of rfl) (AllIn.of [] rfl)) (hw.cs [2, 0] [] rfl rfl) fun hC => ?_
       obtain ⟨c321, h317, h322, h315⟩ := hw.elemRX (α := ByteArray) 0 rfl 0 rfl h314
       obtain ⟨_, rfl, rfl⟩ := h315
       refine gv hs 4 rfl rfl hC (fun w hC => y_indexAt Try.runUnderlying34 Try.sizeOf9 rfl rfl h317.1 h317.2 rfl) fun a hs => ?_
       refine gv hs 5 rfl rfl hC (fun w hC => y_loadQ1 (j := 0) (hC.ownAt 1 rfl) rfl Try.isAgg9 h322 rfl) fun a hs => ?_
       refine ho 8 rfl ?_
       refine st_callR hs (ref09_Send_ok h328 hw.dom (hw.envAt 5 rfl)) (do_call Try.call20 rfl) trivial rfl rfl ?_
       intro v438 Sv435 w a h436 h437 hs
       obtain ⟨p330, k331, c333, rfl, h439, h332⟩ := h437
       have hw := hw.callN h436 h439
       have hw := hw.addE (e := RowA c333 rv329.1.Items) h332
       refine h_nx (hw.cs [3, 1] [] rfl rfl) fun hC => ?_
       refine h_st (C' := Cls [.box b6 [.int .i64 0, .int .i64 0, .slice none ([] : List Transit).length 0] 29, .row (some ⟨b308, 0, none⟩) ([(⟨#[97]⟩ : ByteArray), (⟨#[98]⟩ : ByteArray), (⟨#[]⟩ : ByteArray), (⟨#[99, 99]⟩ : ByteArray)] : List ByteArray).length ([(⟨#[97]⟩ : ByteArray), (⟨#[98]⟩ : ByteArray), (⟨#[]⟩ : ByteArray), (⟨#[99, 99]⟩ : ByteArray)] : List ByteArray).length [.string (⟨#[97]⟩ : ByteArray), .string (⟨#[98]⟩ : ByteArray), .string (⟨#[]⟩ : ByteArray), .string (⟨#[99, 99]⟩ : ByteArray)] 9 1, .row p330 rv329.1.Items.length k331 c333 47 3] []) (fun _ h => by exact h.sub [0, 1] (Sel.of rfl) (AllIn.of [] rfl)) (hw.cs [3, 1, 0] [] rfl rfl) fun hC => ?_
       refine gm hs 9 rfl rfl rfl hC fun a hs => ?_
       refine gv hs 10 rfl rfl hC (fun w hC => y_extract rfl rfl) fun a hs => ?_
       refine gv hs 11 rfl rfl hC (fun w hC => y_extract rfl rfl) fun a hs => ?_
       refine ho 12 rfl ?_
       refine w_store (m := 3) (cs' := [.int .i64 rv329.1.Now, .int .i64 rv329.1.Order, .slice p330 rv329.1.Items.length k331]) hs hw 4 rfl rfl rfl Try.sizeOf29 rfl rfl rfl rfl trivial ?_
       intro a w hs hw
       refine h_nx (hw.cs [3, 1, 0] [] rfl rfl) fun hC => ?_
       refine h_done (by kernel_rfl) ?_
       exact ⟨Sv435, c333, k326, k331, p325, p330, (hs.wk rfl), (hw.ft [2, 3, 4, 0] [2, 5, 0] (by decide) rfl rfl)⟩
      exact AllH.nil
     refine AllH.cons rfl ?_ ?_
     ·refine w_litSlice (α := ByteArray) (vs := [.string (⟨#[97]⟩ : ByteArray), .string (⟨#[98]⟩ : ByteArray), .string (⟨#[]⟩ : ByteArray), .string (⟨#[99, 99]⟩ : ByteArray)]) (cs := [.string (⟨#[97]⟩ : ByteArray), .string (⟨#[98]⟩ : ByteArray), .string (⟨#[]⟩ : ByteArray), .string (⟨#[99, 99]⟩ : ByteArray)]) (xs := ([(⟨#[97]⟩ : ByteArray), (⟨#[98]⟩ : ByteArray), (⟨#[]⟩ : ByteArray), (⟨#[99, 99]⟩ : ByteArray)] : List ByteArray)) hs hw El34 rfl rfl rfl rfl rfl rfl ⟨⟨_, rfl, rfl⟩, ⟨⟨_, rfl, rfl⟩, ⟨⟨_, rfl, rfl⟩, ⟨⟨_, rfl, rfl⟩, rfl⟩⟩⟩⟩ rfl trivial rfl fun b308 a w hs hw => ?_
      refine h_nx (hw.cs [2] [] rfl rfl) fun hC => ?_
      refine h_st (C' := Cls [.box b6 [.int .i64 0, .int .i64 0, .slice none ([] : List Transit).length 0] 29, .row (some ⟨b308, 0, none⟩) ([(⟨#[97]⟩ : ByteArray), (⟨#[98]⟩ : ByteArray), (⟨#[]⟩ : ByteArray), (⟨#[99, 99]⟩ : ByteArray)] : List ByteArray).length ([(⟨#[97]⟩ : ByteArray), (⟨#[98]⟩ : ByteArray), (⟨#[]⟩ : ByteArray), (⟨#[99, 99]⟩ : ByteArray)] : List ByteArray).length [.string (⟨#[97]⟩ : ByteArray), .string (⟨#[98]⟩ : ByteArray), .string (⟨#[]⟩ : ByteArray), .string (⟨#[99, 99]⟩ : ByteArray)] 9 1] []) (fun _ h => by exact h.sub [0] (Sel.of rfl) (AllIn.of [] rfl)) (hw.cs [2, 0] [] rfl rfl) fun hC => ?_
      obtain ⟨c321, h317, h322, h315⟩ := hw.elemRX (α := ByteArray) 0 rfl 0 rfl h314
      obtain ⟨_, rfl, rfl⟩ := h315
      refine gv hs 4 rfl rfl hC (fun w hC => y_indexAt Try.runUnderlying34 Try.sizeOf9 rfl rfl h317.1 h317.2 rfl) fun a hs => ?_
      refine gv hs 5 rfl rfl hC (fun w hC => y_loadQ1 (j := 0) (hC.ownAt 1 rfl) rfl Try.isAgg9 h322 rfl) fun a hs => ?_
      refine h_all (rs := [0, 7]) (by kernel_rfl) rfl ?_
      refine AllH.cons rfl ?_ ?_
      ·refine sv hs (y_loadBA (hw.ownAt 3 rfl) rfl Try.isAgg29 Try.sizeOf29 rfl rfl) rfl fun a hs => ?_
       refine h_nx (hw.cs [2, 0] [] rfl rfl) fun hC => ?_
       refine ho 7 rfl ?_
       refine st_callR hs (made_Dice_Fault_ok h323 hw.dom (hw.ins [1] (by decide) rfl) (hw.envAt 1 rfl)) (do_call Try.call11 rfl) trivial rfl rfl ?_
       intro v443 Sv440 w a h441 h442 hs
       obtain ⟨p325, k326, rfl, h444, h327⟩ := h442
       have hw := hw.callO [1] [0, 2, 3] (by decide) rfl h441 h444
       have hw := hw.addE (e := SlA p325 rv324.2.L.length k326 rv324.2.L) h327
       refine h_nx (hw.cs [2, 1] [] rfl rfl) fun hC => ?_
       refine ho 8 rfl ?_
       refine st_callR hs (ref09_Send_ok h328 hw.dom (hw.envAt 5 rfl)) (do_call Try.call20 rfl) trivial rfl rfl ?_
       intro v448 Sv445 w a h446 h447 hs
       obtain ⟨p330, k331, c333, rfl, h449, h332⟩ := h447
       have hw := hw.callN h446 h449
       have hw := hw.addE (e := RowA c333 rv329.1.Items) h332
       refine h_nx (hw.cs [3, 2] [] rfl rfl) fun hC => ?_
       refine h_st (C' := Cls [.box b6 [.int .i64 0, .int .i64 0, .slice none ([] : List Transit).length 0] 29, .row (some ⟨b308, 0, none⟩) ([(⟨#[97]⟩ : ByteArray), (⟨#[98]⟩ : ByteArray), (⟨#[]⟩ : ByteArray), (⟨#[99, 99]⟩ : ByteArray)] : List ByteArray).length ([(⟨#[97]⟩ : ByteArray), (⟨#[98]⟩ : ByteArray), (⟨#[]⟩ : ByteArray), (⟨#[99, 99]⟩ : ByteArray)] : List ByteArray).length [.string (⟨#[97]⟩ : ByteArray), .string (⟨#[98]⟩ : ByteArray), .string (⟨#[]⟩ : ByteArray), .string (⟨#[99, 99]⟩ : ByteArray)] 9 1, .row p330 rv329.1.Items.length k331 c333 47 3] []) (fun _ h => by exact h.sub [0, 1] (Sel.of rfl) (AllIn.of [] rfl)) (hw.cs [3, 2, 0] [] rfl rfl) fun hC => ?_
       refine gm hs 9 rfl rfl rfl hC fun a hs => ?_
       refine gv hs 10 rfl rfl hC (fun w hC => y_extract rfl rfl) fun a hs => ?_
       refine gv hs 11 rfl rfl hC (fun w hC => y_extract rfl rfl) fun a hs => ?_
       refine ho 12 rfl ?_
       refine w_store (m := 3) (cs' := [.int .i64 rv329.1.Now, .int .i64 rv329.1.Order, .slice p330 rv329.1.Items.length k331]) hs hw 4 rfl rfl rfl Try.sizeOf29 rfl rfl rfl rfl trivial ?_
       intro a w hs hw
       refine h_nx (hw.cs [3, 2, 0] [] rfl rfl) fun hC => ?_
       refine h_done (by kernel_rfl) ?_
       exact ⟨Sv445, c333, k326, k331, p325, p330, (hs.wk rfl), (hw.ft [1, 3, 4, 0] [1, 5, 0] (by decide) rfl rfl)⟩
      refine AllH.cons rfl ?_ ?_
      ·refine st_callR hs (made_Dice_Fault_ok h323 hw.dom (hw.ins [1] (by decide) rfl) (hw.envAt 1 rfl)) (do_call Try.call11 rfl) trivial rfl rfl ?_
       intro v453 Sv450 w a h451 h452 hs
       obtain ⟨p325, k326, rfl, h454, h327⟩ := h452
       have hw := hw.callO [1] [0, 2, 3] (by decide) rfl h451 h454
       have hw := hw.addE (e := SlA p325 rv324.2.L.length k326 rv324.2.L) h327
       refine h_nx (hw.cs [2, 1] [] rfl rfl) fun hC => ?_
       refine ho 0 rfl ?_
       refine sv hs (y_loadBA (hw.ownAt 3 rfl) rfl Try.isAgg29 Try.sizeOf29 rfl rfl) rfl fun a hs => ?_
       refine h_nx (hw.cs [2, 1] [] rfl rfl) fun hC => ?_
       refine ho 8 rfl ?_
       refine st_callR hs (ref09_Send_ok h328 hw.dom (hw.envAt 5 rfl)) (do_call Try.call20 rfl) trivial rfl rfl ?_
       intro v458 Sv455 w a h456 h457 hs
       obtain ⟨p330, k331, c333, rfl, h459, h332⟩ := h457
       have hw := hw.callN h456 h459
       have hw := hw.addE (e := RowA c333 rv329.1.Items) h332
       refine h_nx (hw.cs [3, 2] [] rfl rfl) fun hC => ?_
       refine h_st (C' := Cls [.box b6 [.int .i64 0, .int .i64 0, .slice none ([] : List Transit).length 0] 29, .row (some ⟨b308, 0, none⟩) ([(⟨#[97]⟩ : ByteArray), (⟨#[98]⟩ : ByteArray), (⟨#[]⟩ : ByteArray), (⟨#[99, 99]⟩ : ByteArray)] : List ByteArray).length ([(⟨#[97]⟩ : ByteArray), (⟨#[98]⟩ : ByteArray), (⟨#[]⟩ : ByteArray), (⟨#[99, 99]⟩ : ByteArray)] : List ByteArray).length [.string (⟨#[97]⟩ : ByteArray), .string (⟨#[98]⟩ : ByteArray), .string (⟨#[]⟩ : ByteArray), .string (⟨#[99, 99]⟩ : ByteArray)] 9 1, .row p330 rv329.1.Items.length k331 c333 47 3] []) (fun _ h => by exact h.sub [0, 1] (Sel.of rfl) (AllIn.of [] rfl)) (hw.cs [3, 2, 0] [] rfl rfl) fun hC => ?_
       refine gm hs 9 rfl rfl rfl hC fun a hs => ?_
       refine gv hs 10 rfl rfl hC (fun w hC => y_extract rfl rfl) fun a hs => ?_
       refine gv hs 11 rfl rfl hC (fun w hC => y_extract rfl rfl) fun a hs => ?_
       refine ho 12 rfl ?_
       refine w_store (m := 3) (cs' := [.int .i64 rv329.1.Now, .int .i64 rv329.1.Order, .slice p330 rv329.1.Items.length k331]) hs hw 4 rfl rfl rfl Try.sizeOf29 rfl rfl rfl rfl trivial ?_
       intro a w hs hw
       refine h_nx (hw.cs [3, 2, 0] [] rfl rfl) fun hC => ?_
       refine h_done (by kernel_rfl) ?_
       exact ⟨Sv455, c333, k326, k331, p325, p330, (hs.wk rfl), (hw.ft [1, 3, 4, 0] [1, 5, 0] (by decide) rfl rfl)⟩
      exact AllH.nil
     refine AllH.cons rfl ?_ ?_
     ·refine st_callR hs (made_Dice_Fault_ok h323 hw.dom (hw.ins [0] (by decide) rfl) (hw.envAt 0 rfl)) (do_call Try.call11 rfl) trivial rfl rfl ?_
      intro v463 Sv460 w a h461 h462 hs
      obtain ⟨p325, k326, rfl, h464, h327⟩ := h462
      have hw := hw.callO [0] [1, 2] (by decide) rfl h461 h464
      have hw := hw.addE (e := SlA p325 rv324.2.L.length k326 rv324.2.L) h327
      refine h_nx (hw.cs [1] [] rfl rfl) fun hC => ?_
      refine h_all (rs := [0, 1]) (by kernel_rfl) rfl ?_
      refine AllH.cons rfl ?_ ?_
      ·refine sv hs (y_loadBA (hw.ownAt 2 rfl) rfl Try.isAgg29 Try.sizeOf29 rfl rfl) rfl fun a hs => ?_
       refine h_nx (hw.cs [1] [] rfl rfl) fun hC => ?_
       refine ho 1 rfl ?_
       refine w_litSlice (α := ByteArray) (vs := [.string (⟨#[97]⟩ : ByteArray), .string (⟨#[98]⟩ : ByteArray), .string (⟨#[]⟩ : ByteArray), .string (⟨#[99, 99]⟩ : ByteArray)]) (cs := [.string (⟨#[97]⟩ : ByteArray), .string (⟨#[98]⟩ : ByteArray), .string (⟨#[]⟩ : ByteArray), .string (⟨#[99, 99]⟩ : ByteArray)]) (xs := ([(⟨#[97]⟩ : ByteArray), (⟨#[98]⟩ : ByteArray), (⟨#[]⟩ : ByteArray), (⟨#[99, 99]⟩ : ByteArray)] : List ByteArray)) hs hw El34 rfl rfl rfl rfl rfl rfl ⟨⟨_, rfl, rfl⟩, ⟨⟨_, rfl, rfl⟩, ⟨⟨_, rfl, rfl⟩, ⟨⟨_, rfl, rfl⟩, rfl⟩⟩⟩⟩ rfl trivial rfl fun b308 a w hs hw => ?_
       refine h_nx (hw.cs [2] [] rfl rfl) fun hC => ?_
       refine h_st (C' := Cls [.box b6 [.int .i64 0, .int .i64 0, .slice none ([] : List Transit).length 0] 29, .row (some ⟨b308, 0, none⟩) ([(⟨#[97]⟩ : ByteArray), (⟨#[98]⟩ : ByteArray), (⟨#[]⟩ : ByteArray), (⟨#[99, 99]⟩ : ByteArray)] : List ByteArray).length ([(⟨#[97]⟩ : ByteArray), (⟨#[98]⟩ : ByteArray), (⟨#[]⟩ : ByteArray), (⟨#[99, 99]⟩ : ByteArray)] : List ByteArray).length [.string (⟨#[97]⟩ : ByteArray), .string (⟨#[98]⟩ : ByteArray), .string (⟨#[]⟩ : ByteArray), .string (⟨#[99, 99]⟩ : ByteArray)] 9 1] []) (fun _ h => by exact h.sub [0] (Sel.of rfl) (AllIn.of [] rfl)) (hw.cs [2, 0] [] rfl rfl) fun hC => ?_
       obtain ⟨c321, h317, h322, h315⟩ := hw.elemRX (α := ByteArray) 0 rfl 0 rfl h314
       obtain ⟨_, rfl, rfl⟩ := h315
       refine gv hs 4 rfl rfl hC (fun w hC => y_indexAt Try.runUnderlying34 Try.sizeOf9 rfl rfl h317.1 h317.2 rfl) fun a hs => ?_
       refine gv hs 5 rfl rfl hC (fun w hC => y_loadQ1 (j := 0) (hC.ownAt 1 rfl) rfl Try.isAgg9 h322 rfl) fun a hs => ?_
       refine ho 8 rfl ?_
       refine st_callR hs (ref09_Send_ok h328 hw.dom (hw.envAt 5 rfl)) (do_call Try.call20 rfl) trivial rfl rfl ?_
       intro v468 Sv465 w a h466 h467 hs
       obtain ⟨p330, k331, c333, rfl, h469, h332⟩ := h467
       have hw := hw.callN h466 h469
       have hw := hw.addE (e := RowA c333 rv329.1.Items) h332
       refine h_nx (hw.cs [3, 1] [] rfl rfl) fun hC => ?_
       refine h_st (C' := Cls [.box b6 [.int .i64 0, .int .i64 0, .slice none ([] : List Transit).length 0] 29, .row (some ⟨b308, 0, none⟩) ([(⟨#[97]⟩ : ByteArray), (⟨#[98]⟩ : ByteArray), (⟨#[]⟩ : ByteArray), (⟨#[99, 99]⟩ : ByteArray)] : List ByteArray).length ([(⟨#[97]⟩ : ByteArray), (⟨#[98]⟩ : ByteArray), (⟨#[]⟩ : ByteArray), (⟨#[99, 99]⟩ : ByteArray)] : List ByteArray).length [.string (⟨#[97]⟩ : ByteArray), .string (⟨#[98]⟩ : ByteArray), .string (⟨#[]⟩ : ByteArray), .string (⟨#[99, 99]⟩ : ByteArray)] 9 1, .row p330 rv329.1.Items.length k331 c333 47 3] []) (fun _ h => by exact h.sub [0, 1] (Sel.of rfl) (AllIn.of [] rfl)) (hw.cs [3, 1, 0] [] rfl rfl) fun hC => ?_
       refine gm hs 9 rfl rfl rfl hC fun a hs => ?_
       refine gv hs 10 rfl rfl hC (fun w hC => y_extract rfl rfl) fun a hs => ?_
       refine gv hs 11 rfl rfl hC (fun w hC => y_extract rfl rfl) fun a hs => ?_
       refine ho 12 rfl ?_
       refine w_store (m := 3) (cs' := [.int .i64 rv329.1.Now, .int .i64 rv329.1.Order, .slice p330 rv329.1.Items.length k331]) hs hw 4 rfl rfl rfl Try.sizeOf29 rfl rfl rfl rfl trivial ?_
       intro a w hs hw
       refine h_nx (hw.cs [3, 1, 0] [] rfl rfl) fun hC => ?_
       refine h_done (by kernel_rfl) ?_
       exact ⟨Sv465, c333, k326, k331, p325, p330, (hs.wk rfl), (hw.ft [2, 3, 4, 0] [2, 5, 0] (by decide) rfl rfl)⟩
      refine AllH.cons rfl ?_ ?_
      ·refine w_litSlice (α := ByteArray) (vs := [.string (⟨#[97]⟩ : ByteArray), .string (⟨#[98]⟩ : ByteArray), .string (⟨#[]⟩ : ByteArray), .string (⟨#[99, 99]⟩ : ByteArray)]) (cs := [.string (⟨#[97]⟩ : ByteArray), .string (⟨#[98]⟩ : ByteArray), .string (⟨#[]⟩ : ByteArray), .string (⟨#[99, 99]⟩ : ByteArray)]) (xs := ([(⟨#[97]⟩ : ByteArray), (⟨#[98]⟩ : ByteArray), (⟨#[]⟩ : ByteArray), (⟨#[99, 99]⟩ : ByteArray)] : List ByteArray)) hs hw El34 rfl rfl rfl rfl rfl rfl ⟨⟨_, rfl, rfl⟩, ⟨⟨_, rfl, rfl⟩, ⟨⟨_, rfl, rfl⟩, ⟨⟨_, rfl, rfl⟩, rfl⟩⟩⟩⟩ rfl trivial rfl fun b308 a w hs hw => ?_
       refine h_nx (hw.cs [2] [] rfl rfl) fun hC => ?_
       refine h_st (C' := Cls [.box b6 [.int .i64 0, .int .i64 0, .slice none ([] : List Transit).length 0] 29, .row (some ⟨b308, 0, none⟩) ([(⟨#[97]⟩ : ByteArray), (⟨#[98]⟩ : ByteArray), (⟨#[]⟩ : ByteArray), (⟨#[99, 99]⟩ : ByteArray)] : List ByteArray).length ([(⟨#[97]⟩ : ByteArray), (⟨#[98]⟩ : ByteArray), (⟨#[]⟩ : ByteArray), (⟨#[99, 99]⟩ : ByteArray)] : List ByteArray).length [.string (⟨#[97]⟩ : ByteArray), .string (⟨#[98]⟩ : ByteArray), .string (⟨#[]⟩ : ByteArray), .string (⟨#[99, 99]⟩ : ByteArray)] 9 1] []) (fun _ h => by exact h.sub [0] (Sel.of rfl) (AllIn.of [] rfl)) (hw.cs [2, 0] [] rfl rfl) fun hC => ?_
       obtain ⟨c321, h317, h322, h315⟩ := hw.elemRX (α := ByteArray) 0 rfl 0 rfl h314
       obtain ⟨_, rfl, rfl⟩ := h315
       refine gv hs 4 rfl rfl hC (fun w hC => y_indexAt Try.runUnderlying34 Try.sizeOf9 rfl rfl h317.1 h317.2 rfl) fun a hs => ?_
       refine gv hs 5 rfl rfl hC (fun w hC => y_loadQ1 (j := 0) (hC.ownAt 1 rfl) rfl Try.isAgg9 h322 rfl) fun a hs => ?_
       refine ho 0 rfl ?_
       refine sv hs (y_loadBA (hw.ownAt 3 rfl) rfl Try.isAgg29 Try.sizeOf29 rfl rfl) rfl fun a hs => ?_
       refine h_nx (hw.cs [2, 0] [] rfl rfl) fun hC => ?_
       refine ho 8 rfl ?_
       refine st_callR hs (ref09_Send_ok h328 hw.dom (hw.envAt 5 rfl)) (do_call Try.call20 rfl) trivial rfl rfl ?_
       intro v473 Sv470 w a h471 h472 hs
       obtain ⟨p330, k331, c333, rfl, h474, h332⟩ := h472
       have hw := hw.callN h471 h474
       have hw := hw.addE (e := RowA c333 rv329.1.Items) h332
       refine h_nx (hw.cs [3, 1] [] rfl rfl) fun hC => ?_
       refine h_st (C' := Cls [.box b6 [.int .i64 0, .int .i64 0, .slice none ([] : List Transit).length 0] 29, .row (some ⟨b308, 0, none⟩) ([(⟨#[97]⟩ : ByteArray), (⟨#[98]⟩ : ByteArray), (⟨#[]⟩ : ByteArray), (⟨#[99, 99]⟩ : ByteArray)] : List ByteArray).length ([(⟨#[97]⟩ : ByteArray), (⟨#[98]⟩ : ByteArray), (⟨#[]⟩ : ByteArray), (⟨#[99, 99]⟩ : ByteArray)] : List ByteArray).length [.string (⟨#[97]⟩ : ByteArray), .string (⟨#[98]⟩ : ByteArray), .string (⟨#[]⟩ : ByteArray), .string (⟨#[99, 99]⟩ : ByteArray)] 9 1, .row p330 rv329.1.Items.length k331 c333 47 3] []) (fun _ h => by exact h.sub [0, 1] (Sel.of rfl) (AllIn.of [] rfl)) (hw.cs [3, 1, 0] [] rfl rfl) fun hC => ?_
       refine gm hs 9 rfl rfl rfl hC fun a hs => ?_
       refine gv hs 10 rfl rfl hC (fun w hC => y_extract rfl rfl) fun a hs => ?_
       refine gv hs 11 rfl rfl hC (fun w hC => y_extract rfl rfl) fun a hs => ?_
       refine ho 12 rfl ?_
       refine w_store (m := 3) (cs' := [.int .i64 rv329.1.Now, .int .i64 rv329.1.Order, .slice p330 rv329.1.Items.length k331]) hs hw 4 rfl rfl rfl Try.sizeOf29 rfl rfl rfl rfl trivial ?_
       intro a w hs hw
       refine h_nx (hw.cs [3, 1, 0] [] rfl rfl) fun hC => ?_
       refine h_done (by kernel_rfl) ?_
       exact ⟨Sv470, c333, k326, k331, p325, p330, (hs.wk rfl), (hw.ft [2, 3, 4, 0] [2, 5, 0] (by decide) rfl rfl)⟩
      exact AllH.nil
     exact AllH.nil
    exact AllH.nil
   rintro a w ⟨Sv334, c333, k326, k331, p325, p330, hs, hw⟩
   refine then_normal ?_
   refine sr ?_
   refine mv hs rfl rfl fun a hs => ?_
   obtain ⟨rv476, h475, hsh⟩ := bind_t hsh
   refine st_callR hs (made_Dice_Next_ok h475 hw.dom (hw.ins [0] (by decide) rfl) (hw.envAt 0 rfl)) (do_call Try.call12 rfl) trivial rfl rfl ?_
   intro v483 Sv480 w a h481 h482 hs
   obtain ⟨p477, k478, rfl, h484, h479⟩ := h482
   have hw := hw.callO [0] [1, 2, 3] (by decide) rfl h481 h484
   have hw := hw.addE (e := SlA p477 rv476.2.L.length k478 rv476.2.L) h479
   refine sv hs (y_eql rfl rfl) rfl fun a hs => ?_
   refine nl ?_
   refine wp_join (fun a w => ∃ (x506 : Int) (x507 : Int) (x508 : (List Transit)) (c502 : List Value) (p503 : Option Addr) (k504 : Nat) (Sv505 : Nat → Prop), law09_wire_j1 sv28 rv476 x506 x507 x508 = some tv235 ∧ Sl 34 [(0, .pointer (some ⟨b2, 0, none⟩)), (2, .pointer (some ⟨b6, 0, none⟩)), (3, .pointer (some ⟨b17, 0, none⟩)), (4, .int .i64 sv28.2.2.2.2.2)] a ∧ Wd ⟨w0, S0, blks [.box b2 [.slice p3 d1.L.length k4, .int .i64 d1.At] 59]⟩ Sv505 [.box b2 [.slice p477 rv476.2.L.length k478, .int .i64 rv476.2.At] 59, .box b6 [.int .i64 0, .int .i64 0, .slice none ([] : List Transit).length 0] 29, .box b17 [.int .i64 x506, .int .i64 x507, .slice p503 x508.length k504] 29, .row p503 x508.length k504 c502 47 3] [SlA p477 rv476.2.L.length k478 rv476.2.L, SlA none ([] : List Transit).length 0 ([] : List Transit), RowA c502 x508] w) ?_ ?_
   ·refine wp_cond_split (hs.ev rfl) (fun h512 => ?_) (fun h512 => ?_)
    ·have hsh := ite_t hsh h512
     refine wp_region_lit ?_
     refine sv hs (y_loadBA (hw.ownAt 2 rfl) rfl Try.isAgg29 Try.sizeOf29 rfl rfl) rfl fun a hs => ?_
     obtain ⟨rv514, h513, hsh⟩ := bind_t hsh
     obtain ⟨Sv523, hw⟩ := w_share (α := Transit) hw 3 rfl 3 rfl
     refine st_callR hs (ref09_Tick_ok h513 hw.dom (hw.envAt 0 rfl)) (do_call Try.call24 rfl) trivial rfl rfl ?_
     intro v527 Sv524 w a h525 h526 hs
     obtain ⟨p515, k516, c518, p519, k520, c522, rfl, h528, h517, h521⟩ := h526
     have hw := hw.callN h525 h528
     have hw := hw.addE (e := RowA c518 rv514.1.Items) h517
     have hw := hw.addE (e := RowA c522 rv514.2.1) h521
     refine mv hs rfl rfl fun a hs => ?_
     refine sv hs (y_extract rfl rfl) rfl fun a hs => ?_
     refine sv hs (y_extract rfl rfl) rfl fun a hs => ?_
     refine sv hs (y_extract rfl rfl) rfl fun a hs => ?_
     refine w_store (m := 3) (cs' := [.int .i64 rv514.1.Now, .int .i64 rv514.1.Order, .slice p515 rv514.1.Items.length k516]) hs hw 4 rfl rfl rfl Try.sizeOf29 rfl rfl rfl rfl trivial ?_
     intro a w hs hw
     refine nl ?_
     exact ⟨rv514.1.Now, rv514.1.Order, rv514.1.Items, c518, p515, k516, Sv524, hsh, (hs.wk rfl), (hw.ft [2, 3, 4, 0] [3, 5, 1] (by decide) rfl rfl)⟩
    have hsh := ite_f hsh h512
    refine wp_skip ?_
    refine then_normal ?_
    exact ⟨rv329.1.Now, rv329.1.Order, rv329.1.Items, c333, p330, k331, Sv480, hsh, (hs.wk rfl), (hw.ft [0, 1, 2, 3] [0, 2, 3] (by decide) rfl rfl)⟩
   rintro a w ⟨x506, x507, x508, c502, p503, k504, Sv505, hsh, hs, hw⟩
   delta law09_wire_j1 at hsh
   refine blk_normal ?_
   refine then_normal ?_
   refine wp_region_lit ?_
   refine mv hs rfl rfl fun a hs => ?_
   refine sv hs (y_sub rfl rfl) rfl fun a hs => ?_
   obtain ⟨i510, h509, hsh⟩ := bind_t hsh
   refine sv hs (y_assignI rfl h509) rfl fun a hs => ?_
   refine nl ?_
   obtain ⟨Sv511, hw⟩ := w_share (α := Transit) hw 3 rfl 2 rfl
   exact ⟨_, (Option.some.inj hsh).symm, p477, k478, p503, k504, Sv511, (hs.wk rfl), (hw.ft [0, 1, 2] [1, 2, 0] (by decide) rfl rfl)⟩
  have hsh := ite_f hsh h244
  refine wp_exit ?_
  refine then_exit ?_
  refine then_exit ?_
  refine blk_exit ?_
  have hsh := oi hsh
  subst hsh
  have h529 := hd234 _ rfl
  subst h529
  refine then_normal ?_
  exact ⟨p164, k165, p166, k167, Sv168, (hs.wk rfl), (hw.ft [0, 1, 2] [0, 1, 2] (by decide) rfl rfl)⟩
 rintro a w ⟨p238, k239, p240, k241, Sv242, hs, hw⟩
 refine then_normal ?_
 refine sr ?_
 refine sv hs (y_loadBA (hw.ownAt 2 rfl) rfl Try.isAgg29 Try.sizeOf29 rfl rfl) rfl fun a hs => ?_
 refine w_store (m := 3) (cs' := [.int .i64 e237.2.2.1, .int .i64 e237.2.2.2.1, .slice p240 e237.2.2.2.2.length k241]) hs hw 1 rfl rfl rfl Try.sizeOf29 rfl rfl rfl rfl trivial ?_
 intro a w hs hw
 refine nl ?_
 have hsh := oi hsh
 subst hsh
 refine wp_ret ?_
 exact ret1 hs rfl (rv_cell hw 1 rfl rfl Try.isAgg29 Try.sizeOf29 rfl) (hw.ret ⟨p240, k241, p238, k239, rfl, (hw.outs [0] (by decide) rfl), (hw.envAt 2 rfl), (hw.envAt 0 rfl)⟩)

abbrev ref09_Same_rd (w0 : World) (X : List Nat) (r : Bool) : (Nat → Prop) → World → Value → Prop := fun S w v => v = .bool r
set_option maxHeartbeats 4000000 in
set_option maxRecDepth 100000 in
theorem ref09_Same_ok {w0 : World} {S0 : Nat → Prop} {p2 : Option Addr} {k3 : Nat} {p6 : Option Addr} {k7 : Nat} {a1 : Wire} {b5 : Wire} {r : Bool} (hsh : ref09_Same a1 b5 = some r) (hS : ∀ b, S0 b → b < w0.heap.size) (h4 : (SlA p2 a1.Items.length k3 a1.Items).p S0 w0) (h8 : (SlA p6 b5.Items.length k7 b5.Items).p S0 w0) : Calls Try.prog 21 #[.agg #[.int .i64 a1.Now, .int .i64 a1.Order, .slice p2 a1.Items.length k3], .agg #[.int .i64 b5.Now, .int .i64 b5.Order, .slice p6 b5.Items.length k7]] w0 (Ret ([]) w0 S0 (ref09_Same_rd w0 ([]) r)) := by
 refine calls_of_wp Try.func21 rfl ?_
 have hs := Sl.enter #[.agg #[.int .i64 a1.Now, .int .i64 a1.Order, .slice p2 a1.Items.length k3], .agg #[.int .i64 b5.Now, .int .i64 b5.Order, .slice p6 b5.Items.length k7]] 45 [(0, .agg #[.int .i64 a1.Now, .int .i64 a1.Order, .slice p2 a1.Items.length k3]), (1, .agg #[.int .i64 b5.Now, .int .i64 b5.Order, .slice p6 b5.Items.length k7])] rfl ⟨rfl, rfl, trivial⟩
 have hw := Wd.enter (E := []) hS (fun _ h => (by cases h))
 have hw := hw.addE h4
 have hw := hw.addE h8
 delta ref09_Same at hsh
 refine sr ?_
 refine w_box (cs := [.int .i64 a1.Now, .int .i64 a1.Order, .slice p2 a1.Items.length k3]) hs hw rfl rfl rfl trivial ?_
 intro b9 a w hs hw
 refine w_box (cs := [.int .i64 b5.Now, .int .i64 b5.Order, .slice p6 b5.Items.length k7]) hs hw rfl rfl rfl trivial ?_
 intro b10 a w hs hw
 refine av hs rfl rfl fun a hs => ?_
 refine nl ?_
 refine wp_seq ?_
 refine sr ?_
 refine sv hs (y_fieldAddr (o' := 0) Try.runUnderlying29 rfl Try.sizeOf3 rfl rfl rfl) rfl fun a hs => ?_
 refine sv hs (y_loadB1 (hw.ownAt 1 rfl) rfl Try.isAgg3 rfl) rfl fun a hs => ?_
 refine sv hs (y_fieldAddr (o' := 0) Try.runUnderlying29 rfl Try.sizeOf3 rfl rfl rfl) rfl fun a hs => ?_
 refine sv hs (y_loadB1 (hw.ownAt 0 rfl) rfl Try.isAgg3 rfl) rfl fun a hs => ?_
 refine sv hs (y_neq rfl rfl) rfl fun a hs => ?_
 refine mv hs rfl rfl fun a hs => ?_
 refine wpl_join 6 (fun a w1 => w = w1 ∧ Sl 45 [(2, .pointer (some ⟨b9, 0, none⟩)), (3, .pointer (some ⟨b10, 0, none⟩)), (17, .bool ((a1.Now != b5.Now) || (a1.Order != b5.Order)))] a) ?_ ?_
 ·rcases Bool.eq_false_or_eq_true (a1.Now != b5.Now) with h11 | h11
  ·have hs := hs.fix 11 (.bool true) rfl (vb h11)
   refine st_skip hs rfl rfl rfl rfl rfl fun a hs => ?_
   refine st_skip hs rfl rfl rfl rfl rfl fun a hs => ?_
   refine st_skip hs rfl rfl rfl rfl rfl fun a hs => ?_
   refine st_skip hs rfl rfl rfl rfl rfl fun a hs => ?_
   refine st_skip hs rfl rfl rfl rfl rfl fun a hs => ?_
   refine sv hs (y_pickT rfl rfl) rfl fun a hs => ?_
   refine nl ?_
   exact ⟨rfl, (hs.fix 17 (.bool ((a1.Now != b5.Now) || (a1.Order != b5.Order))) rfl (or_t h11)).weaken _ ⟨rfl, rfl, rfl, trivial⟩⟩
  have hs := hs.fix 11 (.bool false) rfl (vb h11)
  refine st_val hs (y_fieldAddr (o' := 1) Try.runUnderlying29 rfl Try.sizeOf3 rfl rfl rfl) ⟨_, rfl, rfl⟩ rfl rfl fun a hs => ?_
  refine st_val hs (y_loadB1 (hw.ownAt 1 rfl) rfl Try.isAgg3 rfl) ⟨_, rfl, rfl⟩ rfl rfl fun a hs => ?_
  refine st_val hs (y_fieldAddr (o' := 1) Try.runUnderlying29 rfl Try.sizeOf3 rfl rfl rfl) ⟨_, rfl, rfl⟩ rfl rfl fun a hs => ?_
  refine st_val hs (y_loadB1 (hw.ownAt 0 rfl) rfl Try.isAgg3 rfl) ⟨_, rfl, rfl⟩ rfl rfl fun a hs => ?_
  refine st_val hs (y_neq rfl rfl) ⟨_, rfl, rfl⟩ rfl rfl fun a hs => ?_
  refine sv hs (y_pickF rfl rfl) rfl fun a hs => ?_
  refine nl ?_
  exact ⟨rfl, (hs.fix 17 (.bool ((a1.Now != b5.Now) || (a1.Order != b5.Order))) rfl (or_f h11)).weaken _ ⟨rfl, rfl, rfl, trivial⟩⟩
 rintro a w1 ⟨h278, hs⟩
 subst h278
 refine mv hs rfl rfl fun a hs => ?_
 refine wpl_join 8 (fun a w1 => w = w1 ∧ Sl 45 [(2, .pointer (some ⟨b9, 0, none⟩)), (3, .pointer (some ⟨b10, 0, none⟩)), (26, .bool (((a1.Now != b5.Now) || (a1.Order != b5.Order)) || ((a1.Items.length : Int) != (b5.Items.length : Int))))] a) ?_ ?_
 ·rcases Bool.eq_false_or_eq_true ((a1.Now != b5.Now) || (a1.Order != b5.Order)) with h12 | h12
  ·have hs := hs.fix 18 (.bool true) rfl (vb h12)
   refine st_skip hs rfl rfl rfl rfl rfl fun a hs => ?_
   refine st_skip hs rfl rfl rfl rfl rfl fun a hs => ?_
   refine st_skip hs rfl rfl rfl rfl rfl fun a hs => ?_
   refine st_skip hs rfl rfl rfl rfl rfl fun a hs => ?_
   refine st_skip hs rfl rfl rfl rfl rfl fun a hs => ?_
   refine st_skip hs rfl rfl rfl rfl rfl fun a hs => ?_
   refine st_skip hs rfl rfl rfl rfl rfl fun a hs => ?_
   refine sv hs (y_pickT rfl rfl) rfl fun a hs => ?_
   refine nl ?_
   exact ⟨rfl, (hs.fix 26 (.bool (((a1.Now != b5.Now) || (a1.Order != b5.Order)) || ((a1.Items.length : Int) != (b5.Items.length : Int)))) rfl (or_t h12)).weaken _ ⟨rfl, rfl, rfl, trivial⟩⟩
  have hs := hs.fix 18 (.bool false) rfl (vb h12)
  refine st_val hs (y_fieldAddr (o' := 2) Try.runUnderlying29 rfl Try.sizeOf27 rfl rfl rfl) ⟨_, rfl, rfl⟩ rfl rfl fun a hs => ?_
  refine st_val hs (y_loadB1 (hw.ownAt 1 rfl) rfl Try.isAgg27 rfl) ⟨_, rfl, rfl⟩ rfl rfl fun a hs => ?_
  refine st_val hs (y_len Try.runUnderlying27 rfl) ⟨_, rfl, rfl⟩ rfl rfl fun a hs => ?_
  refine st_val hs (y_fieldAddr (o' := 2) Try.runUnderlying29 rfl Try.sizeOf27 rfl rfl rfl) ⟨_, rfl, rfl⟩ rfl rfl fun a hs => ?_
  refine st_val hs (y_loadB1 (hw.ownAt 0 rfl) rfl Try.isAgg27 rfl) ⟨_, rfl, rfl⟩ rfl rfl fun a hs => ?_
  refine st_val hs (y_len Try.runUnderlying27 rfl) ⟨_, rfl, rfl⟩ rfl rfl fun a hs => ?_
  refine st_val hs (y_neq rfl rfl) ⟨_, rfl, rfl⟩ rfl rfl fun a hs => ?_
  refine sv hs (y_pickF rfl rfl) rfl fun a hs => ?_
  refine nl ?_
  exact ⟨rfl, (hs.fix 26 (.bool (((a1.Now != b5.Now) || (a1.Order != b5.Order)) || ((a1.Items.length : Int) != (b5.Items.length : Int)))) rfl (or_f h12)).weaken _ ⟨rfl, rfl, rfl, trivial⟩⟩
 rintro a w1 ⟨h277, hs⟩
 subst h277
 refine nl ?_
 refine wp_cond_split (hs.ev rfl) (fun h14 => ?_) (fun h14 => ?_)
 ·have hsh := ite_t hsh h14
  refine sr ?_
  refine av hs rfl rfl fun a hs => ?_
  refine nl ?_
  have hsh := oi hsh
  subst hsh
  refine wp_ret ?_
  refine then_ret ?_
  exact ret1 hs rfl (rv_tmp rfl) (hw.ret rfl)
 have hsh := ite_f hsh h14
 refine wp_skip ?_
 refine then_normal ?_
 refine wp_seq ?_
 refine sr ?_
 refine av hs rfl rfl fun a hs => ?_
 refine nl ?_
 refine wp_block ?_
 refine wp_while (fun sv113 a w => ∃ (Sv177 : Nat → Prop), Sl 45 [(2, .pointer (some ⟨b9, 0, none⟩)), (3, .pointer (some ⟨b10, 0, none⟩)), (5, .int .i64 sv113)] a ∧ Wd ⟨w0, S0, []⟩ Sv177 [.box b9 [.int .i64 a1.Now, .int .i64 a1.Order, .slice p2 a1.Items.length k3] 29, .box b10 [.int .i64 b5.Now, .int .i64 b5.Order, .slice p6 b5.Items.length k7] 29] [SlA p2 a1.Items.length k3 a1.Items, SlA p6 b5.Items.length k7 b5.Items] w) 0 hsh ⟨S0, (hs.wk rfl), (hw.ft [1, 0] [1, 0] (by decide) rfl rfl)⟩ ?_
 repeat clear hsh
 rintro sv113 a w tv210 ⟨Sv177, hs, hw⟩ hsh hd209
 delta ref09_Same_l2 at hsh
 refine wp_seq ?_
 refine sr ?_
 refine mv hs rfl rfl fun a hs => ?_
 refine sv hs (y_fieldAddr (o' := 2) Try.runUnderlying29 rfl Try.sizeOf27 rfl rfl rfl) rfl fun a hs => ?_
 refine sv hs (y_loadB1 (hw.ownAt 0 rfl) rfl Try.isAgg27 rfl) rfl fun a hs => ?_
 refine sv hs (y_len Try.runUnderlying27 rfl) rfl fun a hs => ?_
 refine sv hs (y_lss rfl rfl) rfl fun a hs => ?_
 refine nl ?_
 refine wp_cond_split (hs.ev rfl) (fun h214 => ?_) (fun h214 => ?_)
 ·have hsh := ite_t hsh h214
  refine wp_skip ?_
  refine then_normal ?_
  refine wp_seq ?_
  refine wp_block ?_
  refine wp_seq ?_
  obtain ⟨x245, h243, hsh⟩ := bind_t hsh
  obtain ⟨b251, o252, q249, c250, h253, h246, h247, h248, h244⟩ := hw.elemV 0 rfl h243
  have hsv254 := hs
  have hwv255 := hw
  subst h253
  have hs := hsv254
  have hw := hwv255
  obtain ⟨_, _, _, rfl, rfl, rfl, rfl⟩ := h244
  have hw := hw.addE h248
  obtain ⟨x258, h256, hsh⟩ := bind_t hsh
  obtain ⟨b264, o265, q262, c263, h266, h259, h260, h261, h257⟩ := hw.elemV 2 rfl h256
  have hsv267 := hs
  have hwv268 := hw
  subst h266
  have hs := hsv267
  have hw := hwv268
  obtain ⟨_, _, _, rfl, rfl, rfl, rfl⟩ := h257
  have hw := hw.addE h261
  refine wp_only (fun a w => ∃ (Sv269 : Nat → Prop), Sl 45 [(2, .pointer (some ⟨b9, 0, none⟩)), (3, .pointer (some ⟨b10, 0, none⟩)), (5, .int .i64 sv113), (44, .bool (!((x245.At == x258.At) && ((x245.Order == x258.Order) && ((x245.Data == x258.Data) && true)))))] a ∧ Wd ⟨w0, S0, []⟩ Sv269 [.box b9 [.int .i64 a1.Now, .int .i64 a1.Order, .slice (some ⟨b251, o252, none⟩) a1.Items.length k3] 29, .box b10 [.int .i64 b5.Now, .int .i64 b5.Order, .slice (some ⟨b264, o265, none⟩) b5.Items.length k7] 29] [SlA (some ⟨b251, o252, none⟩) a1.Items.length k3 a1.Items, SlA (some ⟨b264, o265, none⟩) b5.Items.length k7 b5.Items] w) ?_ ?_
  ·refine h_b (C := Cls [.box b9 [.int .i64 a1.Now, .int .i64 a1.Order, .slice (some ⟨b251, o252, none⟩) a1.Items.length k3] 29, .box b10 [.int .i64 b5.Now, .int .i64 b5.Order, .slice (some ⟨b264, o265, none⟩) b5.Items.length k7] 29] [CeA b264 q262 [.int .i64 x258.At, .int .i64 x258.Order, .string x258.Data], CeA b251 q249 [.int .i64 x245.At, .int .i64 x245.Order, .string x245.Data]]) (by kernel_rfl) rfl (hw.drew.cs [0, 1] [0, 1] rfl rfl) fun hC => ?_
   have hw := hw.drew
   refine gv hs 0 rfl rfl hC (fun w hC => y_fieldAddr (o' := 2) Try.runUnderlying29 rfl Try.sizeOf27 rfl rfl rfl) fun a hs => ?_
   refine gv hs 1 rfl rfl hC (fun w hC => y_loadB1 (hC.ownAt 0 rfl) rfl Try.isAgg27 rfl) fun a hs => ?_
   refine gm hs 2 rfl rfl rfl hC fun a hs => ?_
   refine gv hs 3 rfl rfl hC (fun w hC => y_indexAt Try.runUnderlying27 Try.sizeOf47 rfl rfl h246.1 h246.2 h247) fun a hs => ?_
   refine gv hs 4 rfl rfl hC (fun w hC => y_loadEA (j := 0) (hC.ceAt 1 rfl) rfl Try.isAgg47 Try.sizeOf47 rfl rfl) fun a hs => ?_
   refine gv hs 5 rfl rfl hC (fun w hC => y_fieldAddr (o' := 2) Try.runUnderlying29 rfl Try.sizeOf27 rfl rfl rfl) fun a hs => ?_
   refine gv hs 6 rfl rfl hC (fun w hC => y_loadB1 (hC.ownAt 1 rfl) rfl Try.isAgg27 rfl) fun a hs => ?_
   refine gm hs 7 rfl rfl rfl hC fun a hs => ?_
   refine gv hs 8 rfl rfl hC (fun w hC => y_indexAt Try.runUnderlying27 Try.sizeOf47 rfl rfl h259.1 h259.2 h260) fun a hs => ?_
   refine gv hs 9 rfl rfl hC (fun w hC => y_loadEA (j := 0) (hC.ceAt 0 rfl) rfl Try.isAgg47 Try.sizeOf47 rfl rfl) fun a hs => ?_
   refine gv hs 10 rfl rfl hC (fun w hC => y_neqA (by kernel_rfl) rfl rfl (eqv_struct Try.runUnderlying47 (by kernel_rfl) (EqF.cons1 rfl Try.isAgg3 rfl rfl (eqv_int Try.runUnderlying3) (EqF.cons1 rfl Try.isAgg3 rfl rfl (eqv_int Try.runUnderlying3) (EqF.cons1 rfl Try.isAgg9 rfl rfl (eqv_str Try.runUnderlying9) EqF.nil))))) fun a hs => ?_
   refine h_done (by kernel_rfl) ?_
   exact ⟨Sv177, (hs.wk rfl), (hw.ft [0, 1] [2, 3] (by decide) rfl rfl)⟩
  rintro a w ⟨Sv269, hs, hw⟩
  refine then_normal ?_
  refine wp_cond_split (hs.ev rfl) (fun h271 => ?_) (fun h271 => ?_)
  ·have hsh := ite_t hsh h271
   refine sr ?_
   refine av hs rfl rfl fun a hs => ?_
   refine nl ?_
   have hsh := oi hsh
   subst hsh
   have h272 := hd209 _ rfl
   subst h272
   refine wp_ret ?_
   refine blk_ret ?_
   refine then_ret ?_
   refine then_ret ?_
   refine blk_ret ?_
   refine then_ret ?_
   exact ret1 hs rfl (rv_tmp rfl) (hw.ret rfl)
  have hsh := ite_f hsh h271
  refine wp_skip ?_
  refine blk_normal ?_
  refine then_normal ?_
  refine wp_region_lit ?_
  refine mv hs rfl rfl fun a hs => ?_
  refine sv hs (y_add rfl rfl) rfl fun a hs => ?_
  obtain ⟨i274, h273, hsh⟩ := bind_t hsh
  refine sv hs (y_assignI rfl h273) rfl fun a hs => ?_
  refine nl ?_
  exact ⟨_, (Option.some.inj hsh).symm, Sv269, (hs.wk rfl), (hw.ft [0, 1] [0, 1] (by decide) rfl rfl)⟩
 have hsh := ite_f hsh h214
 obtain ⟨rv275, hsh, h276⟩ := map_t hsh
 have h276 := (hd209 _ h276.symm).symm
 subst h276
 refine wp_exit ?_
 refine then_exit ?_
 refine then_exit ?_
 refine blk_exit ?_
 refine then_normal ?_
 refine sr ?_
 refine av hs rfl rfl fun a hs => ?_
 refine nl ?_
 have hsh := oi hsh
 subst hsh
 refine wp_ret ?_
 exact ret1 hs rfl (rv_tmp rfl) (hw.ret rfl)

abbrev link_Next_rd (w0 : World) (X : List Nat) (r : (Int × Bool)) : (Nat → Prop) → World → Value → Prop := fun S w v => v = .tuple #[.int .i64 r.1, .bool r.2]
set_option maxHeartbeats 4000000 in
set_option maxRecDepth 100000 in
theorem link_Next_ok {w0 : World} {S0 : Nat → Prop} {p2 : Option Addr} {k3 : Nat} {wv1 : Wire} {r : (Int × Bool)} (hsh : link_Next wv1 = some r) (hS : ∀ b, S0 b → b < w0.heap.size) (h4 : (SlA p2 wv1.Items.length k3 wv1.Items).p S0 w0) : Calls Try.prog 25 #[.agg #[.int .i64 wv1.Now, .int .i64 wv1.Order, .slice p2 wv1.Items.length k3]] w0 (Ret ([]) w0 S0 (link_Next_rd w0 ([]) r)) := by
 refine calls_of_wp Try.func25 rfl ?_
 have hs := Sl.enter #[.agg #[.int .i64 wv1.Now, .int .i64 wv1.Order, .slice p2 wv1.Items.length k3]] 28 [(0, .agg #[.int .i64 wv1.Now, .int .i64 wv1.Order, .slice p2 wv1.Items.length k3])] rfl ⟨rfl, trivial⟩
 have hw := Wd.enter (E := []) hS (fun _ h => (by cases h))
 have hw := hw.addE h4
 delta link_Next at hsh
 refine sr ?_
 refine w_box (cs := [.int .i64 wv1.Now, .int .i64 wv1.Order, .slice p2 wv1.Items.length k3]) hs hw rfl rfl rfl trivial ?_
 intro b5 a w hs hw
 refine av hs rfl rfl fun a hs => ?_
 refine av hs rfl rfl fun a hs => ?_
 refine nl ?_
 refine sr ?_
 refine av hs rfl rfl fun a hs => ?_
 refine av hs rfl rfl fun a hs => ?_
 refine nl ?_
 refine wp_seq ?_
 refine sr ?_
 refine sv hs (y_fieldAddr (o' := 2) Try.runUnderlying29 rfl Try.sizeOf27 rfl rfl rfl) rfl fun a hs => ?_
 refine sv hs (y_loadB1 (hw.ownAt 0 rfl) rfl Try.isAgg27 rfl) rfl fun a hs => ?_
 refine sv hs (y_len Try.runUnderlying27 rfl) rfl fun a hs => ?_
 refine mv hs rfl rfl fun a hs => ?_
 refine nl ?_
 obtain ⟨e69, h115, hsh⟩ := bind_t hsh
 refine wp_join (fun a w => ∃ (Sv70 : Nat → Prop), Sl 28 [(4, .int .i64 e69.1), (5, .bool e69.2)] a ∧ Wd ⟨w0, S0, []⟩ Sv70 [] [] w) ?_ ?_
 ·refine wp_block ?_
  refine wp_while (fun sv6 a w => ∃ (Sv44 : Nat → Prop), Sl 28 [(4, .int .i64 sv6.1), (5, .bool sv6.2.1), (9, .slice p2 wv1.Items.length k3), (10, .int .i64 (wv1.Items.length : Int)), (11, .int .i64 sv6.2.2)] a ∧ Wd ⟨w0, S0, []⟩ Sv44 [] [SlA p2 wv1.Items.length k3 wv1.Items] w) (0, false, 0) h115 ⟨S0, (hs.wk rfl), (hw.ft [] [0] (by decide) rfl rfl)⟩ ?_
  clear h115
  repeat clear hsh
  rintro sv6 a w tv67 ⟨Sv44, hs, hw⟩ hsh hd66
  delta link_Next_l1 at hsh
  refine sr ?_
  refine sv hs (y_lss rfl rfl) rfl fun a hs => ?_
  refine nl ?_
  refine wp_seq ?_
  refine wp_cond_split (hs.ev rfl) (fun h72 => ?_) (fun h72 => ?_)
  ·have hsh := ite_t hsh h72
   refine wp_skip ?_
   refine then_normal ?_
   refine wp_seq ?_
   refine wp_block ?_
   refine sr ?_
   obtain ⟨x95, h93, hsh⟩ := bind_t hsh
   obtain ⟨b101, o102, q99, c100, h103, h96, h97, h98, h94⟩ := hw.elemV 0 rfl h93
   have hsv104 := hs
   have hwv105 := hw
   subst h103
   have hs := hsv104
   have hw := hwv105
   obtain ⟨_, _, _, rfl, rfl, rfl, rfl⟩ := h94
   have hw := hw.addE h98
   refine sv hs (y_indexAt Try.runUnderlying27 Try.sizeOf47 rfl rfl h96.1 h96.2 h97) rfl fun a hs => ?_
   refine sv hs (y_loadEA (j := 0) (hw.ceAt 0 rfl) rfl Try.isAgg47 Try.sizeOf47 rfl rfl) rfl fun a hs => ?_
   refine w_alloc (cs := [.int .i64 0, .int .i64 0, .string ByteArray.empty]) hs hw Try.zeroValue47 rfl rfl trivial ?_
   intro b106 a w hs hw
   refine w_store (m := 3) (cs' := [.int .i64 x95.At, .int .i64 x95.Order, .string x95.Data]) hs hw 0 rfl rfl rfl Try.sizeOf47 rfl rfl rfl rfl trivial ?_
   intro a w hs hw
   refine nl ?_
   refine sr ?_
   refine mv hs rfl rfl fun a hs => ?_
   refine sv hs (y_not rfl) rfl fun a hs => ?_
   refine mv hs rfl rfl fun a hs => ?_
   refine wpl_join 5 (fun a w1 => w = w1 ∧ Sl 28 [(4, .int .i64 sv6.1), (5, .bool sv6.2.1), (7, .pointer (some ⟨b106, 0, none⟩)), (9, .slice (some ⟨b101, o102, none⟩) wv1.Items.length k3), (10, .int .i64 (wv1.Items.length : Int)), (11, .int .i64 sv6.2.2), (22, .bool ((!sv6.2.1) || (decide (x95.At < sv6.1))))] a) ?_ ?_
   ·rcases Bool.eq_false_or_eq_true (!sv6.2.1) with h107 | h107
    ·have hs := hs.fix 17 (.bool true) rfl (vb h107)
     refine st_skip hs rfl rfl rfl rfl rfl fun a hs => ?_
     refine st_skip hs rfl rfl rfl rfl rfl fun a hs => ?_
     refine st_skip hs rfl rfl rfl rfl rfl fun a hs => ?_
     refine st_skip hs rfl rfl rfl rfl rfl fun a hs => ?_
     refine sv hs (y_pickT rfl rfl) rfl fun a hs => ?_
     refine nl ?_
     exact ⟨rfl, (hs.fix 22 (.bool ((!sv6.2.1) || (decide (x95.At < sv6.1)))) rfl (or_t h107)).weaken _ ⟨rfl, rfl, rfl, rfl, rfl, rfl, rfl, trivial⟩⟩
    have hs := hs.fix 17 (.bool false) rfl (vb h107)
    refine st_val hs (y_fieldAddr (o' := 0) Try.runUnderlying47 rfl Try.sizeOf3 rfl rfl rfl) ⟨_, rfl, rfl⟩ rfl rfl fun a hs => ?_
    refine st_val hs (y_loadB1 (hw.ownAt 0 rfl) rfl Try.isAgg3 rfl) ⟨_, rfl, rfl⟩ rfl rfl fun a hs => ?_
    refine st_val hs (y_move rfl) ⟨_, rfl, rfl⟩ rfl rfl fun a hs => ?_
    refine st_val hs (y_lss rfl rfl) ⟨_, rfl, rfl⟩ rfl rfl fun a hs => ?_
    refine sv hs (y_pickF rfl rfl) rfl fun a hs => ?_
    refine nl ?_
    exact ⟨rfl, (hs.fix 22 (.bool ((!sv6.2.1) || (decide (x95.At < sv6.1)))) rfl (or_f h107)).weaken _ ⟨rfl, rfl, rfl, rfl, rfl, rfl, rfl, trivial⟩⟩
   rintro a w1 ⟨h113, hs⟩
   subst h113
   refine nl ?_
   refine wp_join (fun a w => ∃ (least110 : Int) (found111 : Bool) (Sv109 : Nat → Prop), link_Next_j1 sv6 least110 found111 = some tv67 ∧ Sl 28 [(4, .int .i64 least110), (5, .bool found111), (9, .slice (some ⟨b101, o102, none⟩) wv1.Items.length k3), (10, .int .i64 (wv1.Items.length : Int)), (11, .int .i64 sv6.2.2)] a ∧ Wd ⟨w0, S0, []⟩ Sv109 [] [SlA (some ⟨b101, o102, none⟩) wv1.Items.length k3 wv1.Items] w) ?_ ?_
   ·refine wp_cond_split (hs.ev rfl) (fun h112 => ?_) (fun h112 => ?_)
    ·have hsh := ite_t hsh h112
     refine wp_region_lit ?_
     refine sv hs (y_fieldAddr (o' := 0) Try.runUnderlying47 rfl Try.sizeOf3 rfl rfl rfl) rfl fun a hs => ?_
     refine sv hs (y_loadB1 (hw.ownAt 0 rfl) rfl Try.isAgg3 rfl) rfl fun a hs => ?_
     refine av hs rfl rfl fun a hs => ?_
     refine av hs rfl rfl fun a hs => ?_
     refine nl ?_
     exact ⟨x95.At, true, Sv44, hsh, (hs.wk rfl), (hw.ft [] [1] (by decide) rfl rfl)⟩
    have hsh := ite_f hsh h112
    refine wp_skip ?_
    refine then_normal ?_
    exact ⟨sv6.1, sv6.2.1, Sv44, hsh, (hs.wk rfl), (hw.ft [] [1] (by decide) rfl rfl)⟩
   rintro a w ⟨least110, found111, Sv109, hsh, hs, hw⟩
   delta link_Next_j1 at hsh
   refine blk_normal ?_
   refine then_normal ?_
   refine wp_region_lit ?_
   refine sv hs (y_add rfl rfl) rfl fun a hs => ?_
   refine mv hs rfl rfl fun a hs => ?_
   refine nl ?_
   exact ⟨_, (Option.some.inj hsh).symm, Sv109, (hs.wk rfl), (hw.ft [] [0] (by decide) rfl rfl)⟩
  have hsh := ite_f hsh h72
  refine wp_exit ?_
  refine then_exit ?_
  refine then_exit ?_
  refine blk_exit ?_
  have hsh := oi hsh
  subst hsh
  have h114 := hd66 _ rfl
  subst h114
  refine then_normal ?_
  exact ⟨Sv44, (hs.wk rfl), (hw.ft [] [] (by decide) rfl rfl)⟩
 rintro a w ⟨Sv70, hs, hw⟩
 refine then_normal ?_
 refine sr ?_
 refine mv hs rfl rfl fun a hs => ?_
 refine mv hs rfl rfl fun a hs => ?_
 refine av hs rfl rfl fun a hs => ?_
 refine av hs rfl rfl fun a hs => ?_
 refine nl ?_
 have hsh := oi hsh
 subst hsh
 refine wp_ret ?_
 exact ret2 hs rfl (rv_tmp rfl) (rv_tmp rfl) (hw.ret rfl)

abbrev ref09_Next_rd (w0 : World) (X : List Nat) (r : (Int × Bool)) : (Nat → Prop) → World → Value → Prop := fun S w v => v = .tuple #[.int .i64 r.1, .bool r.2]
set_option maxHeartbeats 4000000 in
set_option maxRecDepth 100000 in
theorem ref09_Next_ok {w0 : World} {S0 : Nat → Prop} {p2 : Option Addr} {k3 : Nat} {wv1 : Wire} {r : (Int × Bool)} (hsh : ref09_Next wv1 = some r) (hS : ∀ b, S0 b → b < w0.heap.size) (h4 : (SlA p2 wv1.Items.length k3 wv1.Items).p S0 w0) : Calls Try.prog 26 #[.agg #[.int .i64 wv1.Now, .int .i64 wv1.Order, .slice p2 wv1.Items.length k3]] w0 (Ret ([]) w0 S0 (ref09_Next_rd w0 ([]) r)) := by
 refine calls_of_wp Try.func26 rfl ?_
 have hs := Sl.enter #[.agg #[.int .i64 wv1.Now, .int .i64 wv1.Order, .slice p2 wv1.Items.length k3]] 31 [(0, .agg #[.int .i64 wv1.Now, .int .i64 wv1.Order, .slice p2 wv1.Items.length k3])] rfl ⟨rfl, trivial⟩
 have hw := Wd.enter (E := []) hS (fun _ h => (by cases h))
 have hw := hw.addE h4
 delta ref09_Next at hsh
 refine sr ?_
 refine w_box (cs := [.int .i64 wv1.Now, .int .i64 wv1.Order, .slice p2 wv1.Items.length k3]) hs hw rfl rfl rfl trivial ?_
 intro b5 a w hs hw
 refine av hs rfl rfl fun a hs => ?_
 refine av hs rfl rfl fun a hs => ?_
 refine nl ?_
 refine wp_seq ?_
 refine sr ?_
 refine sv hs (y_fieldAddr (o' := 2) Try.runUnderlying29 rfl Try.sizeOf27 rfl rfl rfl) rfl fun a hs => ?_
 refine sv hs (y_loadB1 (hw.ownAt 0 rfl) rfl Try.isAgg27 rfl) rfl fun a hs => ?_
 refine sv hs (y_len Try.runUnderlying27 rfl) rfl fun a hs => ?_
 refine sv hs (y_eql rfl rfl) rfl fun a hs => ?_
 refine nl ?_
 refine wp_cond_split (hs.ev rfl) (fun h7 => ?_) (fun h7 => ?_)
 ·have hsh := ite_t hsh h7
  refine sr ?_
  refine av hs rfl rfl fun a hs => ?_
  refine av hs rfl rfl fun a hs => ?_
  refine nl ?_
  have hsh := oi hsh
  subst hsh
  refine wp_ret ?_
  refine then_ret ?_
  exact ret2 hs rfl (rv_tmp rfl) (rv_tmp rfl) (hw.ret rfl)
 have hsh := ite_f hsh h7
 refine wp_skip ?_
 refine then_normal ?_
 refine sr ?_
 refine sv hs (y_fieldAddr (o' := 2) Try.runUnderlying29 rfl Try.sizeOf27 rfl rfl rfl) rfl fun a hs => ?_
 refine sv hs (y_loadB1 (hw.ownAt 0 rfl) rfl Try.isAgg27 rfl) rfl fun a hs => ?_
 obtain ⟨x10, h8, hsh⟩ := bind_t hsh
 obtain ⟨b16, o17, q14, c15, h18, h11, h12, h13, h9⟩ := hw.elemV 0 rfl h8
 have hsv19 := hs
 have hwv20 := hw
 subst h18
 have hs := hsv19
 have hw := hwv20
 obtain ⟨_, _, _, rfl, rfl, rfl, rfl⟩ := h9
 have hw := hw.addE h13
 refine sv hs (y_indexAt Try.runUnderlying27 Try.sizeOf47 rfl rfl h11.1 h11.2 h12) rfl fun a hs => ?_
 refine sv hs (y_fieldAddr (o' := q14 + 0) Try.runUnderlying47 rfl Try.sizeOf3 rfl rfl rfl) rfl fun a hs => ?_
 refine sv hs (y_loadE1 (j := 0) (hw.ceAt 0 rfl) rfl Try.isAgg3 rfl) rfl fun a hs => ?_
 refine av hs rfl rfl fun a hs => ?_
 refine nl ?_
 refine wp_seq ?_
 refine sr ?_
 refine av hs rfl rfl fun a hs => ?_
 refine nl ?_
 obtain ⟨e66, h93, hsh⟩ := bind_t hsh
 refine wp_join (fun a w => ∃ (Sv67 : Nat → Prop), Sl 31 [(4, .int .i64 e66)] a ∧ Wd ⟨w0, S0, []⟩ Sv67 [] [] w) ?_ ?_
 ·refine wp_block ?_
  refine wp_while (fun sv21 a w => ∃ (Sv49 : Nat → Prop), Sl 31 [(1, .pointer (some ⟨b5, 0, none⟩)), (4, .int .i64 sv21.1), (5, .int .i64 sv21.2)] a ∧ Wd ⟨w0, S0, []⟩ Sv49 [.box b5 [.int .i64 wv1.Now, .int .i64 wv1.Order, .slice (some ⟨b16, o17, none⟩) wv1.Items.length k3] 29] [SlA (some ⟨b16, o17, none⟩) wv1.Items.length k3 wv1.Items] w) (x10.At, 1) h93 ⟨S0, (hs.wk rfl), (hw.ft [0] [1] (by decide) rfl rfl)⟩ ?_
  clear h93
  repeat clear hsh
  rintro sv21 a w tv64 ⟨Sv49, hs, hw⟩ hsh hd63
  delta ref09_Next_l1 at hsh
  refine wp_seq ?_
  refine sr ?_
  refine mv hs rfl rfl fun a hs => ?_
  refine sv hs (y_fieldAddr (o' := 2) Try.runUnderlying29 rfl Try.sizeOf27 rfl rfl rfl) rfl fun a hs => ?_
  refine sv hs (y_loadB1 (hw.ownAt 0 rfl) rfl Try.isAgg27 rfl) rfl fun a hs => ?_
  refine sv hs (y_len Try.runUnderlying27 rfl) rfl fun a hs => ?_
  refine sv hs (y_lss rfl rfl) rfl fun a hs => ?_
  refine nl ?_
  refine wp_cond_split (hs.ev rfl) (fun h69 => ?_) (fun h69 => ?_)
  ·have hsh := ite_t hsh h69
   refine wp_skip ?_
   refine then_normal ?_
   refine wp_seq ?_
   refine wp_block ?_
   refine wp_region_lit ?_
   refine mv hs rfl rfl fun a hs => ?_
   refine sv hs (y_fieldAddr (o' := 2) Try.runUnderlying29 rfl Try.sizeOf27 rfl rfl rfl) rfl fun a hs => ?_
   refine sv hs (y_loadB1 (hw.ownAt 0 rfl) rfl Try.isAgg27 rfl) rfl fun a hs => ?_
   refine mv hs rfl rfl fun a hs => ?_
   obtain ⟨x82, h80, hsh⟩ := bind_t hsh
   obtain ⟨q86, c87, h83, h84, h85, h81⟩ := hw.elemK 0 rfl h80
   obtain ⟨_, _, _, rfl, rfl, rfl, rfl⟩ := h81
   have hw := hw.addE h85
   refine sv hs (y_indexAt Try.runUnderlying27 Try.sizeOf47 rfl rfl h83.1 h83.2 h84) rfl fun a hs => ?_
   refine sv hs (y_fieldAddr (o' := q86 + 0) Try.runUnderlying47 rfl Try.sizeOf3 rfl rfl rfl) rfl fun a hs => ?_
   refine sv hs (y_loadE1 (j := 0) (hw.ceAt 0 rfl) rfl Try.isAgg3 rfl) rfl fun a hs => ?_
   refine sv hs (y_min rfl rfl) rfl fun a hs => ?_
   obtain ⟨least89, h88, hsh⟩ := bind_t hsh
   refine sv hs (y_assignI rfl h88) rfl fun a hs => ?_
   refine wpList_nil ?_
   refine blk_normal ?_
   refine then_normal ?_
   refine wp_region_lit ?_
   refine mv hs rfl rfl fun a hs => ?_
   refine sv hs (y_add rfl rfl) rfl fun a hs => ?_
   obtain ⟨i91, h90, hsh⟩ := bind_t hsh
   refine sv hs (y_assignI rfl h90) rfl fun a hs => ?_
   refine nl ?_
   exact ⟨_, (Option.some.inj hsh).symm, Sv49, (hs.wk rfl), (hw.ft [0] [1] (by decide) rfl rfl)⟩
  have hsh := ite_f hsh h69
  refine wp_exit ?_
  refine then_exit ?_
  refine then_exit ?_
  refine blk_exit ?_
  have hsh := oi hsh
  subst hsh
  have h92 := hd63 _ rfl
  subst h92
  refine then_normal ?_
  exact ⟨Sv49, (hs.wk rfl), (hw.ft [] [] (by decide) rfl rfl)⟩
 rintro a w ⟨Sv67, hs, hw⟩
 refine then_normal ?_
 refine sr ?_
 refine mv hs rfl rfl fun a hs => ?_
 refine av hs rfl rfl fun a hs => ?_
 refine av hs rfl rfl fun a hs => ?_
 refine nl ?_
 have hsh := oi hsh
 subst hsh
 refine wp_ret ?_
 exact ret2 hs rfl (rv_tmp rfl) (rv_tmp rfl) (hw.ret rfl)

abbrev link_Drain_rd (w0 : World) (X : List Nat) (r : ((List Transit) × Int)) : (Nat → Prop) → World → Value → Prop := fun S w v => ∃ (p0_0 : Option Addr) (k0_0 : Nat) (c0_0 : List Value), v = .tuple #[.slice p0_0 r.1.length k0_0, .int .i64 r.2] ∧ Outs X w0 S w [.row p0_0 r.1.length k0_0 c0_0 47 3] ∧ (RowA c0_0 r.1).p S w
set_option maxHeartbeats 4000000 in
set_option maxRecDepth 100000 in
theorem link_Drain_ok {w0 : World} {S0 : Nat → Prop} {p2 : Option Addr} {k3 : Nat} {wv1 : Wire} {r : ((List Transit) × Int)} (hsh : link_Drain wv1 = some r) (hS : ∀ b, S0 b → b < w0.heap.size) (h4 : (SlA p2 wv1.Items.length k3 wv1.Items).p S0 w0) : Calls Try.prog 27 #[.agg #[.int .i64 wv1.Now, .int .i64 wv1.Order, .slice p2 wv1.Items.length k3]] w0 (Ret ([]) w0 S0 (link_Drain_rd w0 ([]) r)) := by
 refine calls_of_wp Try.func27 rfl ?_
 have hs := Sl.enter #[.agg #[.int .i64 wv1.Now, .int .i64 wv1.Order, .slice p2 wv1.Items.length k3]] 10 [(0, .agg #[.int .i64 wv1.Now, .int .i64 wv1.Order, .slice p2 wv1.Items.length k3])] rfl ⟨rfl, trivial⟩
 have hw := Wd.enter (E := []) hS (fun _ h => (by cases h))
 have hw := hw.addE h4
 delta link_Drain at hsh
 refine sr ?_
 refine w_box (cs := [.int .i64 wv1.Now, .int .i64 wv1.Order, .slice p2 wv1.Items.length k3]) hs hw rfl rfl rfl trivial ?_
 intro b5 a w hs hw
 refine av hs rfl rfl fun a hs => ?_
 refine av hs rfl rfl fun a hs => ?_
 refine nl ?_
 refine wp_seq ?_
 refine sr ?_
 refine sv hs (y_loadBA (hw.ownAt 0 rfl) rfl Try.isAgg29 Try.sizeOf29 rfl rfl) rfl fun a hs => ?_
 obtain ⟨rv7, h6, hsh⟩ := bind_t hsh
 refine st_callR hs (link_Valid_ok h6 hw.bdom (hw.bE 0 rfl)) (do_call Try.call29 rfl) trivial rfl rfl ?_
 intro v11 Sv8 w a h9 h10 hs
 subst h10
 have hw := hw.callB h9
 refine sv hs (y_not rfl) rfl fun a hs => ?_
 refine nl ?_
 refine wp_cond_split (hs.ev rfl) (fun h14 => ?_) (fun h14 => ?_)
 ·have hsh := ite_t hsh h14
  refine sr ?_
  refine av hs rfl rfl fun a hs => ?_
  refine av hs rfl rfl fun a hs => ?_
  refine nl ?_
  have hsh := oi hsh
  subst hsh
  have hw := hw.nilRow Transit 47
  refine wp_ret ?_
  refine then_ret ?_
  exact ret2 hs rfl (rv_tmp rfl) (rv_tmp rfl) (hw.ret ⟨none, 0, [], rfl, (hw.outs [0] (by decide) rfl), (hw.envAt 0 rfl)⟩)
 have hsh := ite_f hsh h14
 refine wp_skip ?_
 refine then_normal ?_
 refine sr ?_
 refine sv hs (y_fieldAddr (o' := 2) Try.runUnderlying29 rfl Try.sizeOf27 rfl rfl rfl) rfl fun a hs => ?_
 refine sv hs (y_loadB1 (hw.ownAt 0 rfl) rfl Try.isAgg27 rfl) rfl fun a hs => ?_
 obtain ⟨rv16, h15, hsh⟩ := bind_t hsh
 refine st_callR hs (slices_Clone_Lapi_Transit_api_Transit_ok h15 hw.dom (hw.envAt 0 rfl)) (do_call Try.call31 rfl) trivial rfl rfl ?_
 intro v24 Sv21 w a h22 h23 hs
 obtain ⟨p17, k18, c20, rfl, h25, h19⟩ := h23
 have hw := hw.callN h22 h25
 have hw := hw.addE (e := RowA c20 rv16) h19
 refine av hs rfl rfl fun a hs => ?_
 refine av hs rfl rfl fun a hs => ?_
 refine nl ?_
 have hsh := oi hsh
 subst hsh
 refine wp_ret ?_
 exact ret2 hs rfl (rv_tmp rfl) (rv_tmp rfl) (hw.ret ⟨p17, k18, c20, rfl, (hw.outs [0] (by decide) rfl), (hw.envAt 0 rfl)⟩)

abbrev ref09_Drain_rd (w0 : World) (X : List Nat) (r : ((List Transit) × Int)) : (Nat → Prop) → World → Value → Prop := fun S w v => ∃ (p0_0 : Option Addr) (k0_0 : Nat) (c0_0 : List Value), v = .tuple #[.slice p0_0 r.1.length k0_0, .int .i64 r.2] ∧ Outs X w0 S w [.row p0_0 r.1.length k0_0 c0_0 47 3] ∧ (RowA c0_0 r.1).p S w
set_option maxHeartbeats 4000000 in
set_option maxRecDepth 100000 in
theorem ref09_Drain_ok {w0 : World} {S0 : Nat → Prop} {p2 : Option Addr} {k3 : Nat} {wv1 : Wire} {r : ((List Transit) × Int)} (hsh : ref09_Drain wv1 = some r) (hS : ∀ b, S0 b → b < w0.heap.size) (h4 : (SlA p2 wv1.Items.length k3 wv1.Items).p S0 w0) : Calls Try.prog 28 #[.agg #[.int .i64 wv1.Now, .int .i64 wv1.Order, .slice p2 wv1.Items.length k3]] w0 (Ret ([]) w0 S0 (ref09_Drain_rd w0 ([]) r)) := by
 refine calls_of_wp Try.func28 rfl ?_
 have hs := Sl.enter #[.agg #[.int .i64 wv1.Now, .int .i64 wv1.Order, .slice p2 wv1.Items.length k3]] 10 [(0, .agg #[.int .i64 wv1.Now, .int .i64 wv1.Order, .slice p2 wv1.Items.length k3])] rfl ⟨rfl, trivial⟩
 have hw := Wd.enter (E := []) hS (fun _ h => (by cases h))
 have hw := hw.addE h4
 delta ref09_Drain at hsh
 refine sr ?_
 refine w_box (cs := [.int .i64 wv1.Now, .int .i64 wv1.Order, .slice p2 wv1.Items.length k3]) hs hw rfl rfl rfl trivial ?_
 intro b5 a w hs hw
 refine av hs rfl rfl fun a hs => ?_
 refine av hs rfl rfl fun a hs => ?_
 refine nl ?_
 refine wp_seq ?_
 refine sr ?_
 refine sv hs (y_loadBA (hw.ownAt 0 rfl) rfl Try.isAgg29 Try.sizeOf29 rfl rfl) rfl fun a hs => ?_
 obtain ⟨rv7, h6, hsh⟩ := bind_t hsh
 refine st_callR hs (ref09_Valid_ok h6 hw.bdom (hw.bE 0 rfl)) (do_call Try.call15 rfl) trivial rfl rfl ?_
 intro v11 Sv8 w a h9 h10 hs
 subst h10
 have hw := hw.callB h9
 refine sv hs (y_not rfl) rfl fun a hs => ?_
 refine nl ?_
 refine wp_cond_split (hs.ev rfl) (fun h14 => ?_) (fun h14 => ?_)
 ·have hsh := ite_t hsh h14
  refine sr ?_
  refine av hs rfl rfl fun a hs => ?_
  refine av hs rfl rfl fun a hs => ?_
  refine nl ?_
  have hsh := oi hsh
  subst hsh
  have hw := hw.nilRow Transit 47
  refine wp_ret ?_
  refine then_ret ?_
  exact ret2 hs rfl (rv_tmp rfl) (rv_tmp rfl) (hw.ret ⟨none, 0, [], rfl, (hw.outs [0] (by decide) rfl), (hw.envAt 0 rfl)⟩)
 have hsh := ite_f hsh h14
 refine wp_skip ?_
 refine then_normal ?_
 refine sr ?_
 refine sv hs (y_fieldAddr (o' := 2) Try.runUnderlying29 rfl Try.sizeOf27 rfl rfl rfl) rfl fun a hs => ?_
 refine sv hs (y_loadB1 (hw.ownAt 0 rfl) rfl Try.isAgg27 rfl) rfl fun a hs => ?_
 obtain ⟨l16, h15, hsh⟩ := bind_t hsh
 have hw := hw.nilRow Transit 47
 refine w_appendE (α := Transit) hs hw El27 0 rfl rfl rfl 0 rfl 1 rfl h15 rfl trivial ?_
 intro p17 k18 c19 a w hs hw
 refine av hs rfl rfl fun a hs => ?_
 refine av hs rfl rfl fun a hs => ?_
 refine nl ?_
 have hsh := oi hsh
 subst hsh
 refine wp_ret ?_
 exact ret2 hs rfl (rv_tmp rfl) (rv_tmp rfl) (hw.ret ⟨p17, k18, c19, rfl, (hw.outs [0] (by decide) rfl), (hw.envAt 0 rfl)⟩)

abbrev law09_same_rd (w0 : World) (X : List Nat) (r : Bool) : (Nat → Prop) → World → Value → Prop := fun S w v => v = .bool r
set_option maxHeartbeats 4000000 in
set_option maxRecDepth 100000 in
theorem law09_same_ok {w0 : World} {S0 : Nat → Prop} {p2 : Option Addr} {k3 : Nat} {p6 : Option Addr} {k7 : Nat} {a1 : (List ByteArray)} {b5 : (List ByteArray)} {r : Bool} (hsh : law09_same a1 b5 = some r) (hS : ∀ b, S0 b → b < w0.heap.size) (h4 : (SlA p2 a1.length k3 a1).p S0 w0) (h8 : (SlA p6 b5.length k7 b5).p S0 w0) : Calls Try.prog 16 #[.slice p2 a1.length k3, .slice p6 b5.length k7] w0 (Ret ([]) w0 S0 (law09_same_rd w0 ([]) r)) := by
 refine calls_of_wp Try.func16 rfl ?_
 have hs := Sl.enter #[.slice p2 a1.length k3, .slice p6 b5.length k7] 26 [(0, .slice p2 a1.length k3), (1, .slice p6 b5.length k7)] rfl ⟨rfl, rfl, trivial⟩
 have hw := Wd.enter (E := []) hS (fun _ h => (by cases h))
 have hw := hw.addE h4
 have hw := hw.addE h8
 delta law09_same at hsh
 refine sr ?_
 refine av hs rfl rfl fun a hs => ?_
 refine nl ?_
 refine wp_seq ?_
 refine sr ?_
 refine mv hs rfl rfl fun a hs => ?_
 refine sv hs (y_len Try.runUnderlying34 rfl) rfl fun a hs => ?_
 refine mv hs rfl rfl fun a hs => ?_
 refine sv hs (y_len Try.runUnderlying34 rfl) rfl fun a hs => ?_
 refine sv hs (y_neq rfl rfl) rfl fun a hs => ?_
 refine nl ?_
 refine wp_cond_split (hs.ev rfl) (fun h10 => ?_) (fun h10 => ?_)
 ·have hsh := ite_t hsh h10
  refine sr ?_
  refine av hs rfl rfl fun a hs => ?_
  refine nl ?_
  have hsh := oi hsh
  subst hsh
  refine wp_ret ?_
  refine then_ret ?_
  exact ret1 hs rfl (rv_tmp rfl) (hw.ret rfl)
 have hsh := ite_f hsh h10
 refine wp_skip ?_
 refine then_normal ?_
 refine wp_seq ?_
 refine sr ?_
 refine mv hs rfl rfl fun a hs => ?_
 refine sv hs (y_len Try.runUnderlying34 rfl) rfl fun a hs => ?_
 refine mv hs rfl rfl fun a hs => ?_
 refine nl ?_
 refine wp_block ?_
 refine wp_while (fun sv103 a w => ∃ (Sv163 : Nat → Prop), Sl 26 [(0, .slice p2 a1.length k3), (1, .slice p6 b5.length k7), (12, .int .i64 (a1.length : Int)), (13, .int .i64 sv103)] a ∧ Wd ⟨w0, S0, []⟩ Sv163 [] [SlA p2 a1.length k3 a1, SlA p6 b5.length k7 b5] w) 0 hsh ⟨S0, (hs.wk rfl), (hw.ft [] [1, 0] (by decide) rfl rfl)⟩ ?_
 repeat clear hsh
 rintro sv103 a w tv194 ⟨Sv163, hs, hw⟩ hsh hd193
 delta law09_same_l2 at hsh
 refine sr ?_
 refine sv hs (y_lss rfl rfl) rfl fun a hs => ?_
 refine nl ?_
 refine wp_seq ?_
 refine wp_cond_split (hs.ev rfl) (fun h198 => ?_) (fun h198 => ?_)
 ·have hsh := ite_t hsh h198
  refine wp_skip ?_
  refine then_normal ?_
  refine wp_seq ?_
  refine wp_block ?_
  refine sr ?_
  refine mv hs rfl rfl fun a hs => ?_
  refine av hs rfl rfl fun a hs => ?_
  refine nl ?_
  refine wp_seq ?_
  obtain ⟨x229, h227, hsh⟩ := bind_t hsh
  obtain ⟨b235, o236, q233, c234, h237, h230, h231, h232, h228⟩ := hw.elemV 0 rfl h227
  have hsv238 := hs
  have hwv239 := hw
  subst h237
  have hs := hsv238
  have hw := hwv239
  obtain ⟨_, rfl, rfl⟩ := h228
  have hw := hw.addE h232
  obtain ⟨x242, h240, hsh⟩ := bind_t hsh
  obtain ⟨b248, o249, q246, c247, h250, h243, h244, h245, h241⟩ := hw.elemV 2 rfl h240
  have hsv251 := hs
  have hwv252 := hw
  subst h250
  have hs := hsv251
  have hw := hwv252
  obtain ⟨_, rfl, rfl⟩ := h241
  have hw := hw.addE h245
  refine wp_only (fun a w => ∃ (Sv253 : Nat → Prop), Sl 26 [(0, .slice (some ⟨b235, o236, none⟩) a1.length k3), (1, .slice (some ⟨b248, o249, none⟩) b5.length k7), (12, .int .i64 (a1.length : Int)), (13, .int .i64 sv103), (24, .bool (!(x229.toList == x242.toList)))] a ∧ Wd ⟨w0, S0, []⟩ Sv253 [] [SlA (some ⟨b235, o236, none⟩) a1.length k3 a1, SlA (some ⟨b248, o249, none⟩) b5.length k7 b5] w) ?_ ?_
  ·refine h_b (C := Cls [] [CeA b248 q246 [.string x242], CeA b235 q233 [.string x229]]) (by kernel_rfl) rfl (hw.drew.cs [] [0, 1] rfl rfl) fun hC => ?_
   have hw := hw.drew
   refine gm hs 0 rfl rfl rfl hC fun a hs => ?_
   refine gm hs 1 rfl rfl rfl hC fun a hs => ?_
   refine gv hs 2 rfl rfl hC (fun w hC => y_indexAt Try.runUnderlying34 Try.sizeOf9 rfl rfl h230.1 h230.2 h231) fun a hs => ?_
   refine gv hs 3 rfl rfl hC (fun w hC => y_loadE1 (j := 0) (hC.ceAt 1 rfl) rfl Try.isAgg9 rfl) fun a hs => ?_
   refine gm hs 4 rfl rfl rfl hC fun a hs => ?_
   refine gm hs 5 rfl rfl rfl hC fun a hs => ?_
   refine gv hs 6 rfl rfl hC (fun w hC => y_indexAt Try.runUnderlying34 Try.sizeOf9 rfl rfl h243.1 h243.2 h244) fun a hs => ?_
   refine gv hs 7 rfl rfl hC (fun w hC => y_loadE1 (j := 0) (hC.ceAt 0 rfl) rfl Try.isAgg9 rfl) fun a hs => ?_
   refine gv hs 8 rfl rfl hC (fun w hC => y_neqS rfl rfl) fun a hs => ?_
   refine h_done (by kernel_rfl) ?_
   exact ⟨Sv163, (hs.wk rfl), (hw.ft [] [2, 3] (by decide) rfl rfl)⟩
  rintro a w ⟨Sv253, hs, hw⟩
  refine then_normal ?_
  refine wp_cond_split (hs.ev rfl) (fun h255 => ?_) (fun h255 => ?_)
  ·have hsh := ite_t hsh h255
   refine sr ?_
   refine av hs rfl rfl fun a hs => ?_
   refine nl ?_
   have hsh := oi hsh
   subst hsh
   have h256 := hd193 _ rfl
   subst h256
   refine wp_ret ?_
   refine blk_ret ?_
   refine then_ret ?_
   refine then_ret ?_
   refine blk_ret ?_
   refine then_ret ?_
   exact ret1 hs rfl (rv_tmp rfl) (hw.ret rfl)
  have hsh := ite_f hsh h255
  refine wp_skip ?_
  refine blk_normal ?_
  refine then_normal ?_
  refine wp_region_lit ?_
  refine sv hs (y_add rfl rfl) rfl fun a hs => ?_
  refine mv hs rfl rfl fun a hs => ?_
  refine nl ?_
  exact ⟨_, (Option.some.inj hsh).symm, Sv253, (hs.wk rfl), (hw.ft [] [0, 1] (by decide) rfl rfl)⟩
 have hsh := ite_f hsh h198
 obtain ⟨rv257, hsh, h258⟩ := map_t hsh
 have h258 := (hd193 _ h258.symm).symm
 subst h258
 refine wp_exit ?_
 refine then_exit ?_
 refine then_exit ?_
 refine blk_exit ?_
 refine then_normal ?_
 refine sr ?_
 refine av hs rfl rfl fun a hs => ?_
 refine nl ?_
 have hsh := oi hsh
 subst hsh
 refine wp_ret ?_
 exact ret1 hs rfl (rv_tmp rfl) (hw.ret rfl)

end Go.Proofs.Ytljdiobhmenjgaa.Wk

/- The walks of SpanExact, part 4: each Go function computes what its plain program computes. Printed by a program of ours. -/
import Derived.Test.YtmdnhgjpkdainaaProg
import Derived.Test.YtmdnhgjpkdainaaDat
import Derived.Test.YtmdnhgjpkdainaaSh
import Derived.Test.YtmdnhgjpkdainaaLibL
import Derived.KernelRfl
import Derived.Test.YtmdnhgjpkdainaaWSpanExact3
namespace Go.Proofs.Ytmdnhgjpkdainaa.Wk
open Go Go.RowKit Go.Proofs Go.Proofs.Ytmdnhgjpkdainaa.Sh
set_option linter.unusedVariables false
set_option linter.unusedSimpArgs false

abbrev ref08_Valid_rd (w0 : World) (X : List Nat) (r : Bool) : (Nat → Prop) → World → Value → Prop := fun S w v => v = .bool r
set_option maxHeartbeats 4000000 in
set_option maxRecDepth 100000 in
theorem ref08_Valid_ok {w0 : World} {S0 : Nat → Prop} {p2 : Option Addr} {k3 : Nat} {l1 : (List Span)} {r : Bool} (hsh : ref08_Valid l1 = some r) (hS : ∀ b, S0 b → b < w0.heap.size) (h4 : (SlA p2 l1.length k3 l1).p S0 w0) : Calls Try.prog 27 #[.slice p2 l1.length k3] w0 (Ret ([]) w0 S0 (ref08_Valid_rd w0 ([]) r)) := by
 refine calls_of_wp Try.func27 rfl ?_
 have hs := Sl.enter #[.slice p2 l1.length k3] 39 [(0, .slice p2 l1.length k3)] rfl ⟨rfl, trivial⟩
 have hw := Wd.enter (E := []) hS (fun _ h => (by cases h))
 have hw := hw.addE h4
 delta ref08_Valid at hsh
 refine wp_seq ?_
 refine wp_region_lit ?_
 refine st_val hs (y_assign rfl) trivial rfl rfl fun a hs => ?_
 refine wpList_nil ?_
 refine then_normal ?_
 refine wp_seq ?_
 refine wp_seq ?_
 refine wp_region_lit ?_
 refine st_val hs (y_assign rfl) trivial rfl rfl fun a hs => ?_
 refine wpList_nil ?_
 refine then_normal ?_
 refine wp_block ?_
 refine wp_while (fun sv142 a w => ∃ (Sv232 : Nat → Prop), Sl 39 [(0, .slice p2 l1.length k3), (3, .int .i64 sv142)] a ∧ Wd ⟨w0, S0, []⟩ Sv232 [] [SlA p2 l1.length k3 l1] w) 0 hsh ⟨S0, (hs.wk rfl), (hw.ft [] [0] (by decide) rfl rfl)⟩ ?_
 repeat clear hsh
 rintro sv142 a w tv278 ⟨Sv232, hs, hw⟩ hsh hd277
 delta ref08_Valid_l2 at hsh
 refine wp_seq ?_
 refine wp_seq ?_
 refine wp_region_lit ?_
 refine st_val hs (y_move rfl) trivial rfl rfl fun a hs => ?_
 refine st_val hs (y_move rfl) trivial rfl rfl fun a hs => ?_
 refine st_val hs (y_len Try.runUnderlying25 rfl) trivial rfl rfl fun a hs => ?_
 refine st_val hs (y_lss rfl rfl) trivial rfl rfl fun a hs => ?_
 refine wpList_nil ?_
 refine then_normal ?_
 refine wp_cond_split (hs.ev rfl) (fun h282 => ?_) (fun h282 => ?_)
 ·have hsh := ite_t hsh h282
  refine wp_skip ?_
  refine then_normal ?_
  refine wp_seq ?_
  refine wp_block ?_
  refine wp_seq ?_
  obtain ⟨x326, h324, hsh⟩ := bind_t hsh
  obtain ⟨b332, o333, q330, c331, h334, h327, h328, h329, h325⟩ := hw.elemV 0 rfl h324
  have hsv335 := hs
  have hwv336 := hw
  subst h334
  have hs := hsv335
  have hw := hwv336
  obtain ⟨_, _, rfl, rfl, rfl⟩ := h325
  have hw := hw.addE h329
  obtain ⟨x339, h337, hsh⟩ := bind_t hsh
  obtain ⟨q343, c344, h340, h341, h342, h338⟩ := hw.elemK 1 rfl h337
  obtain ⟨_, _, rfl, rfl, rfl⟩ := h338
  have hw := hw.addE h342
  obtain ⟨c362, hc362, hsh⟩ := bind_t hsh
  refine wp_only (fun a w => ∃ (Sv363 : Nat → Prop), Sl 39 [(0, .slice (some ⟨b332, o333, none⟩) l1.length k3), (3, .int .i64 sv142), (38, .bool c362)] a ∧ Wd ⟨w0, S0, []⟩ Sv363 [] [SlA (some ⟨b332, o333, none⟩) l1.length k3 l1] w) ?_ ?_
  ·rcases Bool.eq_false_or_eq_true (decide (x339.To ≤ x326.From)) with h364 | h364
   ·have h365 := ite_t hc362 h364
    refine h_b (C := Cls [] [CeA b332 q343 [.int .i64 x339.From, .int .i64 x339.To], CeA b332 q330 [.int .i64 x326.From, .int .i64 x326.To]]) (by kernel_rfl) rfl (hw.drew.cs [] [0, 1] rfl rfl) fun hC => ?_
    have hw := hw.drew
    refine h_g hs 0 rfl (by kernel_rfl) rfl rfl hC rfl (fun w hC => y_move rfl) fun a hs => ?_
    refine h_g hs 1 rfl (by kernel_rfl) rfl rfl hC rfl (fun w hC => y_move rfl) fun a hs => ?_
    refine h_g hs 2 rfl (by kernel_rfl) rfl rfl hC rfl (fun w hC => y_indexAt Try.runUnderlying25 Try.sizeOf34 rfl rfl h327.1 h327.2 h328) fun a hs => ?_
    refine h_g hs 3 rfl (by kernel_rfl) rfl rfl hC rfl (fun w hC => y_fieldAddr (o' := q330 + 0) Try.runUnderlying34 rfl Try.sizeOf3 rfl rfl rfl) fun a hs => ?_
    refine h_g hs 4 rfl (by kernel_rfl) rfl rfl hC rfl (fun w hC => y_loadE1 (j := 0) (hC.ceAt 1 rfl) rfl Try.isAgg3 rfl) fun a hs => ?_
    refine h_g hs 5 rfl (by kernel_rfl) rfl rfl hC rfl (fun w hC => y_move rfl) fun a hs => ?_
    refine h_g hs 6 rfl (by kernel_rfl) rfl rfl hC rfl (fun w hC => y_move rfl) fun a hs => ?_
    refine h_g hs 7 rfl (by kernel_rfl) rfl rfl hC rfl (fun w hC => y_indexAt Try.runUnderlying25 Try.sizeOf34 rfl rfl h340.1 h340.2 h341) fun a hs => ?_
    refine h_g hs 8 rfl (by kernel_rfl) rfl rfl hC rfl (fun w hC => y_fieldAddr (o' := q343 + 1) Try.runUnderlying34 rfl Try.sizeOf3 rfl rfl rfl) fun a hs => ?_
    refine h_g hs 9 rfl (by kernel_rfl) rfl rfl hC rfl (fun w hC => y_loadE1 (j := 1) (hC.ceAt 0 rfl) rfl Try.isAgg3 rfl) fun a hs => ?_
    refine h_g hs 10 rfl (by kernel_rfl) rfl rfl hC rfl (fun w hC => y_geq rfl rfl) fun a hs => ?_
    refine h_g hs 11 rfl (by kernel_rfl) rfl rfl hC rfl (fun w hC => y_move rfl) fun a hs => ?_
    have hs := hs.fix 21 (.bool true) rfl (vb h364)
    refine h_s hs 12 rfl (by kernel_rfl) rfl rfl rfl (.inl rfl) rfl rfl hC fun a hs => ?_
    refine h_s hs 13 rfl (by kernel_rfl) rfl rfl rfl (.inl rfl) rfl rfl hC fun a hs => ?_
    refine h_s hs 14 rfl (by kernel_rfl) rfl rfl rfl (.inl rfl) rfl rfl hC fun a hs => ?_
    refine h_s hs 15 rfl (by kernel_rfl) rfl rfl rfl (.inr rfl) rfl rfl hC fun a hs => ?_
    refine h_s hs 16 rfl (by kernel_rfl) rfl rfl rfl (.inr rfl) rfl rfl hC fun a hs => ?_
    refine h_s hs 17 rfl (by kernel_rfl) rfl rfl rfl (.inr rfl) rfl rfl hC fun a hs => ?_
    refine h_s hs 18 rfl (by kernel_rfl) rfl rfl rfl (.inr rfl) rfl rfl hC fun a hs => ?_
    refine h_s hs 19 rfl (by kernel_rfl) rfl rfl rfl (.inr rfl) rfl rfl hC fun a hs => ?_
    refine h_s hs 20 rfl (by kernel_rfl) rfl rfl rfl (.inr rfl) rfl rfl hC fun a hs => ?_
    refine h_s hs 21 rfl (by kernel_rfl) rfl rfl rfl (.inr rfl) rfl rfl hC fun a hs => ?_
    refine h_s hs 22 rfl (by kernel_rfl) rfl rfl rfl (.inr rfl) rfl rfl hC fun a hs => ?_
    refine h_s hs 23 rfl (by kernel_rfl) rfl rfl rfl (.inr rfl) rfl rfl hC fun a hs => ?_
    refine h_s hs 24 rfl (by kernel_rfl) rfl rfl rfl (.inr rfl) rfl rfl hC fun a hs => ?_
    refine h_s hs 25 rfl (by kernel_rfl) rfl rfl rfl (.inr rfl) rfl rfl hC fun a hs => ?_
    refine h_s hs 26 rfl (by kernel_rfl) rfl rfl rfl (.inr rfl) rfl rfl hC fun a hs => ?_
    refine h_s hs 27 rfl (by kernel_rfl) rfl rfl rfl (.inl rfl) rfl rfl hC fun a hs => ?_
    refine h_g hs 28 rfl (by kernel_rfl) rfl rfl hC rfl (fun w hC => y_pickTE (v := .bool c362) rfl rfl (vbs h365)) fun a hs => ?_
    refine h_done (by kernel_rfl) ?_
    exact ⟨Sv232, (hs.wk rfl), (hw.ft [] [2] (by decide) rfl rfl)⟩
   ·have h366 := ite_f hc362 h364
    obtain ⟨c383, hc383, h366⟩ := bind_t h366
    rcases Bool.eq_false_or_eq_true (decide (0 < sv142)) with h384 | h384
    ·have h385 := ite_t hc383 h384
     obtain ⟨x388, h386, h385⟩ := bind_t h385
     obtain ⟨q392, c393, h389, h390, h391, h387⟩ := hw.elemK 2 rfl h386
     obtain ⟨_, _, rfl, rfl, rfl⟩ := h387
     have hw := hw.addE h391
     obtain ⟨x396, h394, h385⟩ := bind_t h385
     obtain ⟨q400, c401, h397, h398, h399, h395⟩ := hw.elemK 3 rfl h394
     obtain ⟨_, _, rfl, rfl, rfl⟩ := h395
     have hw := hw.addE h399
     refine h_b (C := Cls [] [CeA b332 q400 [.int .i64 x396.From, .int .i64 x396.To], CeA b332 q392 [.int .i64 x388.From, .int .i64 x388.To], CeA b332 q343 [.int .i64 x339.From, .int .i64 x339.To], CeA b332 q330 [.int .i64 x326.From, .int .i64 x326.To]]) (by kernel_rfl) rfl (hw.drew.cs [] [0, 1, 2, 3] rfl rfl) fun hC => ?_
     have hw := hw.drew
     refine h_g hs 0 rfl (by kernel_rfl) rfl rfl hC rfl (fun w hC => y_move rfl) fun a hs => ?_
     refine h_g hs 1 rfl (by kernel_rfl) rfl rfl hC rfl (fun w hC => y_move rfl) fun a hs => ?_
     refine h_g hs 2 rfl (by kernel_rfl) rfl rfl hC rfl (fun w hC => y_indexAt Try.runUnderlying25 Try.sizeOf34 rfl rfl h327.1 h327.2 h328) fun a hs => ?_
     refine h_g hs 3 rfl (by kernel_rfl) rfl rfl hC rfl (fun w hC => y_fieldAddr (o' := q330 + 0) Try.runUnderlying34 rfl Try.sizeOf3 rfl rfl rfl) fun a hs => ?_
     refine h_g hs 4 rfl (by kernel_rfl) rfl rfl hC rfl (fun w hC => y_loadE1 (j := 0) (hC.ceAt 3 rfl) rfl Try.isAgg3 rfl) fun a hs => ?_
     refine h_g hs 5 rfl (by kernel_rfl) rfl rfl hC rfl (fun w hC => y_move rfl) fun a hs => ?_
     refine h_g hs 6 rfl (by kernel_rfl) rfl rfl hC rfl (fun w hC => y_move rfl) fun a hs => ?_
     refine h_g hs 7 rfl (by kernel_rfl) rfl rfl hC rfl (fun w hC => y_indexAt Try.runUnderlying25 Try.sizeOf34 rfl rfl h340.1 h340.2 h341) fun a hs => ?_
     refine h_g hs 8 rfl (by kernel_rfl) rfl rfl hC rfl (fun w hC => y_fieldAddr (o' := q343 + 1) Try.runUnderlying34 rfl Try.sizeOf3 rfl rfl rfl) fun a hs => ?_
     refine h_g hs 9 rfl (by kernel_rfl) rfl rfl hC rfl (fun w hC => y_loadE1 (j := 1) (hC.ceAt 2 rfl) rfl Try.isAgg3 rfl) fun a hs => ?_
     refine h_g hs 10 rfl (by kernel_rfl) rfl rfl hC rfl (fun w hC => y_geq rfl rfl) fun a hs => ?_
     refine h_g hs 11 rfl (by kernel_rfl) rfl rfl hC rfl (fun w hC => y_move rfl) fun a hs => ?_
     have hs := hs.fix 21 (.bool false) rfl (vb h364)
     refine h_t hs 12 rfl (by kernel_rfl) ⟨_, rfl, rfl⟩ rfl rfl hC (fun w hC => y_move rfl) fun a hs => ?_
     refine h_t hs 13 rfl (by kernel_rfl) ⟨_, rfl, rfl⟩ rfl rfl hC (fun w hC => y_gtr rfl rfl) fun a hs => ?_
     refine h_t hs 14 rfl (by kernel_rfl) ⟨_, rfl, rfl⟩ rfl rfl hC (fun w hC => y_move rfl) fun a hs => ?_
     have hs := hs.fix 24 (.bool true) rfl (vb h384)
     refine h_t hs 15 rfl (by kernel_rfl) ⟨_, rfl, rfl⟩ rfl rfl hC (fun w hC => y_move rfl) fun a hs => ?_
     refine h_t hs 16 rfl (by kernel_rfl) ⟨_, rfl, rfl⟩ rfl rfl hC (fun w hC => y_move rfl) fun a hs => ?_
     refine h_t hs 17 rfl (by kernel_rfl) ⟨_, rfl, rfl⟩ rfl rfl hC (fun w hC => y_indexAt Try.runUnderlying25 Try.sizeOf34 rfl rfl h389.1 h389.2 h390) fun a hs => ?_
     refine h_t hs 18 rfl (by kernel_rfl) ⟨_, rfl, rfl⟩ rfl rfl hC (fun w hC => y_fieldAddr (o' := q392 + 0) Try.runUnderlying34 rfl Try.sizeOf3 rfl rfl rfl) fun a hs => ?_
     refine h_t hs 19 rfl (by kernel_rfl) ⟨_, rfl, rfl⟩ rfl rfl hC (fun w hC => y_loadE1 (j := 0) (hC.ceAt 1 rfl) rfl Try.isAgg3 rfl) fun a hs => ?_
     refine h_t hs 20 rfl (by kernel_rfl) ⟨_, rfl, rfl⟩ rfl rfl hC (fun w hC => y_move rfl) fun a hs => ?_
     refine h_t hs 21 rfl (by kernel_rfl) ⟨_, rfl, rfl⟩ rfl rfl hC (fun w hC => y_move rfl) fun a hs => ?_
     refine h_t hs 22 rfl (by kernel_rfl) ⟨_, rfl, rfl⟩ rfl rfl hC (fun w hC => y_sub rfl rfl) fun a hs => ?_
     refine h_t hs 23 rfl (by kernel_rfl) ⟨_, rfl, rfl⟩ rfl rfl hC (fun w hC => y_indexAt Try.runUnderlying25 Try.sizeOf34 rfl rfl h397.1 h397.2 h398) fun a hs => ?_
     refine h_t hs 24 rfl (by kernel_rfl) ⟨_, rfl, rfl⟩ rfl rfl hC (fun w hC => y_fieldAddr (o' := q400 + 1) Try.runUnderlying34 rfl Try.sizeOf3 rfl rfl rfl) fun a hs => ?_
     refine h_t hs 25 rfl (by kernel_rfl) ⟨_, rfl, rfl⟩ rfl rfl hC (fun w hC => y_loadE1 (j := 1) (hC.ceAt 0 rfl) rfl Try.isAgg3 rfl) fun a hs => ?_
     refine h_t hs 26 rfl (by kernel_rfl) ⟨_, rfl, rfl⟩ rfl rfl hC (fun w hC => y_leq rfl rfl) fun a hs => ?_
     refine h_t hs 27 rfl (by kernel_rfl) ⟨_, rfl, rfl⟩ rfl rfl hC (fun w hC => y_pickTE (v := .bool c383) rfl rfl (vbs h385)) fun a hs => ?_
     refine h_g hs 28 rfl (by kernel_rfl) rfl rfl hC rfl (fun w hC => y_pickFE (v := .bool c362) rfl rfl (vbs h366)) fun a hs => ?_
     refine h_done (by kernel_rfl) ?_
     exact ⟨Sv232, (hs.wk rfl), (hw.ft [] [4] (by decide) rfl rfl)⟩
    ·have h402 := ite_f hc383 h384
     refine h_b (C := Cls [] [CeA b332 q343 [.int .i64 x339.From, .int .i64 x339.To], CeA b332 q330 [.int .i64 x326.From, .int .i64 x326.To]]) (by kernel_rfl) rfl (hw.drew.cs [] [0, 1] rfl rfl) fun hC => ?_
     have hw := hw.drew
     refine h_g hs 0 rfl (by kernel_rfl) rfl rfl hC rfl (fun w hC => y_move rfl) fun a hs => ?_
     refine h_g hs 1 rfl (by kernel_rfl) rfl rfl hC rfl (fun w hC => y_move rfl) fun a hs => ?_
     refine h_g hs 2 rfl (by kernel_rfl) rfl rfl hC rfl (fun w hC => y_indexAt Try.runUnderlying25 Try.sizeOf34 rfl rfl h327.1 h327.2 h328) fun a hs => ?_
     refine h_g hs 3 rfl (by kernel_rfl) rfl rfl hC rfl (fun w hC => y_fieldAddr (o' := q330 + 0) Try.runUnderlying34 rfl Try.sizeOf3 rfl rfl rfl) fun a hs => ?_
     refine h_g hs 4 rfl (by kernel_rfl) rfl rfl hC rfl (fun w hC => y_loadE1 (j := 0) (hC.ceAt 1 rfl) rfl Try.isAgg3 rfl) fun a hs => ?_
     refine h_g hs 5 rfl (by kernel_rfl) rfl rfl hC rfl (fun w hC => y_move rfl) fun a hs => ?_
     refine h_g hs 6 rfl (by kernel_rfl) rfl rfl hC rfl (fun w hC => y_move rfl) fun a hs => ?_
     refine h_g hs 7 rfl (by kernel_rfl) rfl rfl hC rfl (fun w hC => y_indexAt Try.runUnderlying25 Try.sizeOf34 rfl rfl h340.1 h340.2 h341) fun a hs => ?_
     refine h_g hs 8 rfl (by kernel_rfl) rfl rfl hC rfl (fun w hC => y_fieldAddr (o' := q343 + 1) Try.runUnderlying34 rfl Try.sizeOf3 rfl rfl rfl) fun a hs => ?_
     refine h_g hs 9 rfl (by kernel_rfl) rfl rfl hC rfl (fun w hC => y_loadE1 (j := 1) (hC.ceAt 0 rfl) rfl Try.isAgg3 rfl) fun a hs => ?_
     refine h_g hs 10 rfl (by kernel_rfl) rfl rfl hC rfl (fun w hC => y_geq rfl rfl) fun a hs => ?_
     refine h_g hs 11 rfl (by kernel_rfl) rfl rfl hC rfl (fun w hC => y_move rfl) fun a hs => ?_
     have hs := hs.fix 21 (.bool false) rfl (vb h364)
     refine h_t hs 12 rfl (by kernel_rfl) ⟨_, rfl, rfl⟩ rfl rfl hC (fun w hC => y_move rfl) fun a hs => ?_
     refine h_t hs 13 rfl (by kernel_rfl) ⟨_, rfl, rfl⟩ rfl rfl hC (fun w hC => y_gtr rfl rfl) fun a hs => ?_
     refine h_t hs 14 rfl (by kernel_rfl) ⟨_, rfl, rfl⟩ rfl rfl hC (fun w hC => y_move rfl) fun a hs => ?_
     have hs := hs.fix 24 (.bool false) rfl (vb h384)
     refine h_s hs 15 rfl (by kernel_rfl) rfl rfl rfl (.inl rfl) rfl rfl hC fun a hs => ?_
     refine h_s hs 16 rfl (by kernel_rfl) rfl rfl rfl (.inl rfl) rfl rfl hC fun a hs => ?_
     refine h_s hs 17 rfl (by kernel_rfl) rfl rfl rfl (.inl rfl) rfl rfl hC fun a hs => ?_
     refine h_s hs 18 rfl (by kernel_rfl) rfl rfl rfl (.inl rfl) rfl rfl hC fun a hs => ?_
     refine h_s hs 19 rfl (by kernel_rfl) rfl rfl rfl (.inl rfl) rfl rfl hC fun a hs => ?_
     refine h_s hs 20 rfl (by kernel_rfl) rfl rfl rfl (.inl rfl) rfl rfl hC fun a hs => ?_
     refine h_s hs 21 rfl (by kernel_rfl) rfl rfl rfl (.inl rfl) rfl rfl hC fun a hs => ?_
     refine h_s hs 22 rfl (by kernel_rfl) rfl rfl rfl (.inl rfl) rfl rfl hC fun a hs => ?_
     refine h_s hs 23 rfl (by kernel_rfl) rfl rfl rfl (.inl rfl) rfl rfl hC fun a hs => ?_
     refine h_s hs 24 rfl (by kernel_rfl) rfl rfl rfl (.inl rfl) rfl rfl hC fun a hs => ?_
     refine h_s hs 25 rfl (by kernel_rfl) rfl rfl rfl (.inl rfl) rfl rfl hC fun a hs => ?_
     refine h_s hs 26 rfl (by kernel_rfl) rfl rfl rfl (.inl rfl) rfl rfl hC fun a hs => ?_
     refine h_t hs 27 rfl (by kernel_rfl) ⟨_, rfl, rfl⟩ rfl rfl hC (fun w hC => y_pickFE (v := .bool c383) rfl rfl (vbs h402)) fun a hs => ?_
     refine h_g hs 28 rfl (by kernel_rfl) rfl rfl hC rfl (fun w hC => y_pickFE (v := .bool c362) rfl rfl (vbs h366)) fun a hs => ?_
     refine h_done (by kernel_rfl) ?_
     exact ⟨Sv232, (hs.wk rfl), (hw.ft [] [2] (by decide) rfl rfl)⟩
  ·rintro a w ⟨Sv363, hs, hw⟩
   refine then_normal ?_
   refine wp_cond_split (hs.ev rfl) (fun h404 => ?_) (fun h404 => ?_)
   ·have hsh := ite_t hsh h404
    refine wp_seq ?_
    refine wp_region_lit ?_
    refine st_val hs (y_assign rfl) trivial rfl rfl fun a hs => ?_
    refine wpList_nil ?_
    refine then_normal ?_
    have hsh := Option.some.inj hsh
    subst hsh
    have h405 := hd277 _ rfl
    subst h405
    refine wp_ret ?_
    refine blk_ret ?_
    refine then_ret ?_
    refine then_ret ?_
    refine blk_ret ?_
    refine then_ret ?_
    exact ret1 hs rfl (rv_tmp rfl) (hw.ret rfl)
   ·have hsh := ite_f hsh h404
    refine wp_skip ?_
    refine blk_normal ?_
    refine then_normal ?_
    refine wp_region_lit ?_
    refine st_val hs (y_move rfl) trivial rfl rfl fun a hs => ?_
    refine st_val hs (y_add rfl rfl) trivial rfl rfl fun a hs => ?_
    obtain ⟨i407, h406, hsh⟩ := bind_t hsh
    refine st_val hs (y_assignI rfl h406) trivial rfl rfl fun a hs => ?_
    refine wpList_nil ?_
    refine then_normal ?_
    exact ⟨_, (Option.some.inj hsh).symm, Sv363, (hs.wk rfl), (hw.ft [] [0] (by decide) rfl rfl)⟩
 ·have hsh := ite_f hsh h282
  obtain ⟨rv408, hsh, h409⟩ := map_t hsh
  have h409 := (hd277 _ h409.symm).symm
  subst h409
  refine wp_exit ?_
  refine then_exit ?_
  refine then_exit ?_
  refine blk_exit ?_
  refine then_normal ?_
  refine wp_seq ?_
  refine wp_region_lit ?_
  refine st_val hs (y_assign rfl) trivial rfl rfl fun a hs => ?_
  refine wpList_nil ?_
  refine then_normal ?_
  have hsh := Option.some.inj hsh
  subst hsh
  refine wp_ret ?_
  exact ret1 hs rfl (rv_tmp rfl) (hw.ret rfl)

abbrev slices_ContainsFunc_Lapi_Span_api_Span_rd (w0 : World) (X : List Nat) (r : Bool) : (Nat → Prop) → World → Value → Prop := fun S w v => v = .bool r
set_option maxHeartbeats 4000000 in
set_option maxRecDepth 100000 in
theorem slices_ContainsFunc_Lapi_Span_api_Span_ok {w0 : World} {S0 : Nat → Prop} {p2 : Option Addr} {k3 : Nat} {g6 : Nat} {f7 : List Value} {cp8 : List Value} {s1 : (List Span)} {f5 : Span → Option Bool} {r : Bool} (hsh : slices_ContainsFunc_Lapi_Span_api_Span s1 f5 = some r) (hS : ∀ b, S0 b → b < w0.heap.size) (h4 : (SlA p2 s1.length k3 s1).p S0 w0) (h9 : (FnA1 Try.prog g6 f7 cp8 f5).p S0 w0) : Calls Try.prog 42 #[.slice p2 s1.length k3, .func (.func g6) f7.toArray cp8.toArray] w0 (Ret ([]) w0 S0 (slices_ContainsFunc_Lapi_Span_api_Span_rd w0 ([]) r)) := by
 refine calls_of_wp Try.func42 rfl ?_
 have hs := Sl.enter #[.slice p2 s1.length k3, .func (.func g6) f7.toArray cp8.toArray] 9 [(0, .slice p2 s1.length k3), (1, .func (.func g6) f7.toArray cp8.toArray)] rfl ⟨rfl, rfl, trivial⟩
 have hw := Wd.enter (E := []) hS (fun _ h => (by cases h))
 have hw := hw.addE h4
 have hw := hw.addE h9
 delta slices_ContainsFunc_Lapi_Span_api_Span at hsh
 refine wp_seq ?_
 refine wp_region_lit ?_
 refine st_val hs (y_assign rfl) trivial rfl rfl fun a hs => ?_
 refine wpList_nil ?_
 refine then_normal ?_
 refine wp_seq ?_
 refine wp_region_lit ?_
 refine st_val hs (y_move rfl) trivial rfl rfl fun a hs => ?_
 refine st_val hs (y_move rfl) trivial rfl rfl fun a hs => ?_
 obtain ⟨rv11, h10, hsh⟩ := bind_t hsh
 refine st_callR hs (slices_IndexFunc_Lapi_Span_api_Span_ok h10 hw.bdom (hw.bE 1 rfl) (hw.bE 0 rfl)) (do_call Try.call46 rfl) trivial rfl rfl ?_
 intro v15 Sv12 w a h13 h14 hs
 subst h14
 have hw := hw.callB h13
 refine st_val hs (y_geq rfl rfl) trivial rfl rfl fun a hs => ?_
 refine st_val hs (y_assign rfl) trivial rfl rfl fun a hs => ?_
 refine wpList_nil ?_
 refine then_normal ?_
 have hsh := Option.some.inj hsh
 subst hsh
 refine wp_ret ?_
 exact ret1 hs rfl (rv_tmp rfl) (hw.ret rfl)

abbrev span_Has_fn1_rd (w0 : World) (X : List Nat) (r : Bool) : (Nat → Prop) → World → Value → Prop := fun S w v => v = .bool r
set_option maxHeartbeats 4000000 in
set_option maxRecDepth 100000 in
theorem span_Has_fn1_ok {w0 : World} {S0 : Nat → Prop} {b3 : Nat} {s1 : Span} {x2 : Int} {r : Bool} (hsh : span_Has_fn1 s1 x2 = some r) (hS : ∀ b, S0 b → b < w0.heap.size) (h4 : (CeA b3 0 [.int .i64 x2]).p S0 w0) : Calls Try.prog 43 #[.agg #[.int .i64 s1.From, .int .i64 s1.To], .pointer (some ⟨b3, 0, none⟩)] w0 (Ret ([]) w0 S0 (span_Has_fn1_rd w0 ([]) r)) := by
 refine calls_of_wp Try.func43 rfl ?_
 have hs := Sl.enter #[.agg #[.int .i64 s1.From, .int .i64 s1.To], .pointer (some ⟨b3, 0, none⟩)] 14 [(0, .agg #[.int .i64 s1.From, .int .i64 s1.To]), (1, .pointer (some ⟨b3, 0, none⟩))] rfl ⟨rfl, rfl, trivial⟩
 have hw := Wd.enter (E := []) hS (fun _ h => (by cases h))
 have hw := hw.addE h4
 delta span_Has_fn1 at hsh
 refine wp_seq ?_
 refine wp_region_lit ?_
 refine w_box (cs := [.int .i64 s1.From, .int .i64 s1.To]) hs hw rfl rfl rfl trivial ?_
 intro b5 a w hs hw
 refine st_val hs (y_assign rfl) trivial rfl rfl fun a hs => ?_
 refine wpList_nil ?_
 refine then_normal ?_
 refine wp_seq ?_
 refine wp_region_lit ?_
 refine st_val hs (y_fieldAddr (o' := 0) Try.runUnderlying34 rfl Try.sizeOf3 rfl rfl rfl) trivial rfl rfl fun a hs => ?_
 refine st_val hs (y_loadB1 (hw.ownAt 0 rfl) rfl Try.isAgg3 rfl) trivial rfl rfl fun a hs => ?_
 refine st_val hs (y_loadE1 (j := 0) (hw.ceAt 0 rfl) rfl Try.isAgg3 rfl) trivial rfl rfl fun a hs => ?_
 refine st_val hs (y_leq rfl rfl) trivial rfl rfl fun a hs => ?_
 refine st_val hs (y_move rfl) trivial rfl rfl fun a hs => ?_
 refine wpl_join 5 (fun a w1 => w = w1 ∧ Sl 14 [(13, .bool ((decide (s1.From ≤ x2)) && (decide (x2 < s1.To))))] a) ?_ ?_
 ·rcases Bool.eq_false_or_eq_true (decide (s1.From ≤ x2)) with h6 | h6
  ·have hs := hs.fix 8 (.bool true) rfl (vb h6)
   refine st_val hs (y_loadE1 (j := 0) (hw.ceAt 0 rfl) rfl Try.isAgg3 rfl) ⟨_, rfl, rfl⟩ rfl rfl fun a hs => ?_
   refine st_val hs (y_fieldAddr (o' := 1) Try.runUnderlying34 rfl Try.sizeOf3 rfl rfl rfl) ⟨_, rfl, rfl⟩ rfl rfl fun a hs => ?_
   refine st_val hs (y_loadB1 (hw.ownAt 0 rfl) rfl Try.isAgg3 rfl) ⟨_, rfl, rfl⟩ rfl rfl fun a hs => ?_
   refine st_val hs (y_lss rfl rfl) ⟨_, rfl, rfl⟩ rfl rfl fun a hs => ?_
   refine st_val hs (y_pickT rfl rfl) trivial rfl rfl fun a hs => ?_
   refine wpList_nil ?_
   refine then_normal ?_
   exact ⟨rfl, (hs.fix 13 (.bool ((decide (s1.From ≤ x2)) && (decide (x2 < s1.To)))) rfl (and_t h6)).weaken _ ⟨rfl, trivial⟩⟩
  ·have hs := hs.fix 8 (.bool false) rfl (vb h6)
   refine st_skip hs rfl rfl rfl rfl rfl fun a hs => ?_
   refine st_skip hs rfl rfl rfl rfl rfl fun a hs => ?_
   refine st_skip hs rfl rfl rfl rfl rfl fun a hs => ?_
   refine st_skip hs rfl rfl rfl rfl rfl fun a hs => ?_
   refine st_val hs (y_pickF rfl rfl) trivial rfl rfl fun a hs => ?_
   refine wpList_nil ?_
   refine then_normal ?_
   exact ⟨rfl, (hs.fix 13 (.bool ((decide (s1.From ≤ x2)) && (decide (x2 < s1.To)))) rfl (and_f h6)).weaken _ ⟨rfl, trivial⟩⟩
 ·rintro a w1 ⟨h7, hs⟩
  subst h7
  refine st_val hs (y_assign rfl) trivial rfl rfl fun a hs => ?_
  refine wpList_nil ?_
  refine then_normal ?_
  have hsh := Option.some.inj hsh
  subst hsh
  refine wp_ret ?_
  exact ret1 hs rfl (rv_tmp rfl) (hw.ret rfl)

theorem span_Has_fn1_fn {S0 : Nat → Prop} {w0 : World} {b3 : Nat} {x2 : Int} (h4 : (CeA b3 0 [.int .i64 x2]).p S0 w0) : (FnA1 Try.prog 43 [] [.pointer (some ⟨b3, 0, none⟩)] (fun y0 => span_Has_fn1 y0 x2)).p S0 w0 := by
  refine ⟨Try.call43, ?_⟩
  intro S1 w1 hk hS c0 x0 r1 h0 hf
  obtain ⟨_, _, rfl, rfl, rfl⟩ := h0
  exact span_Has_fn1_ok hf hS  (Asrt.mono _ hk h4)

abbrev span_Has_rd (w0 : World) (X : List Nat) (r : Bool) : (Nat → Prop) → World → Value → Prop := fun S w v => v = .bool r
set_option maxHeartbeats 4000000 in
set_option maxRecDepth 100000 in
theorem span_Has_ok {w0 : World} {S0 : Nat → Prop} {p2 : Option Addr} {k3 : Nat} {l1 : (List Span)} {x5 : Int} {r : Bool} (hsh : span_Has l1 x5 = some r) (hS : ∀ b, S0 b → b < w0.heap.size) (h4 : (SlA p2 l1.length k3 l1).p S0 w0) : Calls Try.prog 22 #[.slice p2 l1.length k3, .int .i64 x5] w0 (Ret ([]) w0 S0 (span_Has_rd w0 ([]) r)) := by
 refine calls_of_wp Try.func22 rfl ?_
 have hs := Sl.enter #[.slice p2 l1.length k3, .int .i64 x5] 8 [(0, .slice p2 l1.length k3), (1, .int .i64 x5)] rfl ⟨rfl, rfl, trivial⟩
 have hw := Wd.enter (E := []) hS (fun _ h => (by cases h))
 have hw := hw.addE h4
 delta span_Has at hsh
 refine wp_seq ?_
 refine wp_region_lit ?_
 refine w_box (cs := [.int .i64 x5]) hs hw rfl rfl rfl trivial ?_
 intro b6 a w hs hw
 refine st_val hs (y_assign rfl) trivial rfl rfl fun a hs => ?_
 refine wpList_nil ?_
 refine then_normal ?_
 refine wp_seq ?_
 refine wp_region_lit ?_
 refine st_val hs (y_move rfl) trivial rfl rfl fun a hs => ?_
 refine st_val hs (y_makeFunc (vs := #[]) (us := #[.pointer (some ⟨b6, 0, none⟩)]) rfl rfl) trivial rfl rfl fun a hs => ?_
 obtain ⟨rv8, h7, hsh⟩ := bind_t hsh
 refine st_callR hs (slices_ContainsFunc_Lapi_Span_api_Span_ok h7 hw.bdom (hw.bE 0 rfl) (span_Has_fn1_fn (hw.bBox 0 rfl))) (do_call Try.call42 rfl) trivial rfl rfl ?_
 intro v12 Sv9 w a h10 h11 hs
 subst h11
 have hw := hw.callB h10
 refine st_val hs (y_assign rfl) trivial rfl rfl fun a hs => ?_
 refine wpList_nil ?_
 refine then_normal ?_
 have hsh := Option.some.inj hsh
 subst hsh
 refine wp_ret ?_
 exact ret1 hs rfl (rv_tmp rfl) (hw.ret rfl)

abbrev ref08_Has_rd (w0 : World) (X : List Nat) (r : Bool) : (Nat → Prop) → World → Value → Prop := fun S w v => v = .bool r
set_option maxHeartbeats 4000000 in
set_option maxRecDepth 100000 in
theorem ref08_Has_ok {w0 : World} {S0 : Nat → Prop} {p2 : Option Addr} {k3 : Nat} {l1 : (List Span)} {x5 : Int} {r : Bool} (hsh : ref08_Has l1 x5 = some r) (hS : ∀ b, S0 b → b < w0.heap.size) (h4 : (SlA p2 l1.length k3 l1).p S0 w0) : Calls Try.prog 17 #[.slice p2 l1.length k3, .int .i64 x5] w0 (Ret ([]) w0 S0 (ref08_Has_rd w0 ([]) r)) := by
 refine calls_of_wp Try.func17 rfl ?_
 have hs := Sl.enter #[.slice p2 l1.length k3, .int .i64 x5] 28 [(0, .slice p2 l1.length k3), (1, .int .i64 x5)] rfl ⟨rfl, rfl, trivial⟩
 have hw := Wd.enter (E := []) hS (fun _ h => (by cases h))
 have hw := hw.addE h4
 delta ref08_Has at hsh
 refine wp_seq ?_
 refine wp_region_lit ?_
 refine st_val hs (y_assign rfl) trivial rfl rfl fun a hs => ?_
 refine wpList_nil ?_
 refine then_normal ?_
 refine wp_seq ?_
 refine wp_seq ?_
 refine wp_region_lit ?_
 refine st_val hs (y_assign rfl) trivial rfl rfl fun a hs => ?_
 refine wpList_nil ?_
 refine then_normal ?_
 refine wp_block ?_
 refine wp_while (fun sv119 a w => ∃ (Sv193 : Nat → Prop), Sl 28 [(0, .slice p2 l1.length k3), (1, .int .i64 x5), (5, .int .i64 sv119)] a ∧ Wd ⟨w0, S0, []⟩ Sv193 [] [SlA p2 l1.length k3 l1] w) 0 hsh ⟨S0, (hs.wk rfl), (hw.ft [] [0] (by decide) rfl rfl)⟩ ?_
 repeat clear hsh
 rintro sv119 a w tv231 ⟨Sv193, hs, hw⟩ hsh hd230
 delta ref08_Has_l2 at hsh
 refine wp_seq ?_
 refine wp_seq ?_
 refine wp_region_lit ?_
 refine st_val hs (y_move rfl) trivial rfl rfl fun a hs => ?_
 refine st_val hs (y_move rfl) trivial rfl rfl fun a hs => ?_
 refine st_val hs (y_len Try.runUnderlying25 rfl) trivial rfl rfl fun a hs => ?_
 refine st_val hs (y_lss rfl rfl) trivial rfl rfl fun a hs => ?_
 refine wpList_nil ?_
 refine then_normal ?_
 refine wp_cond_split (hs.ev rfl) (fun h235 => ?_) (fun h235 => ?_)
 ·have hsh := ite_t hsh h235
  refine wp_skip ?_
  refine then_normal ?_
  refine wp_seq ?_
  refine wp_block ?_
  refine wp_seq ?_
  refine wp_region_lit ?_
  refine st_val hs (y_move rfl) trivial rfl rfl fun a hs => ?_
  refine st_val hs (y_move rfl) trivial rfl rfl fun a hs => ?_
  obtain ⟨x271, h269, hsh⟩ := bind_t hsh
  obtain ⟨b277, o278, q275, c276, h279, h272, h273, h274, h270⟩ := hw.elemV 0 rfl h269
  have hsv280 := hs
  have hwv281 := hw
  subst h279
  have hs := hsv280
  have hw := hwv281
  obtain ⟨_, _, rfl, rfl, rfl⟩ := h270
  have hw := hw.addE h274
  refine st_val hs (y_indexAt Try.runUnderlying25 Try.sizeOf34 rfl rfl h272.1 h272.2 h273) trivial rfl rfl fun a hs => ?_
  refine st_val hs (y_fieldAddr (o' := q275 + 0) Try.runUnderlying34 rfl Try.sizeOf3 rfl rfl rfl) trivial rfl rfl fun a hs => ?_
  refine st_val hs (y_loadE1 (j := 0) (hw.ceAt 0 rfl) rfl Try.isAgg3 rfl) trivial rfl rfl fun a hs => ?_
  refine st_val hs (y_move rfl) trivial rfl rfl fun a hs => ?_
  refine st_val hs (y_leq rfl rfl) trivial rfl rfl fun a hs => ?_
  refine st_val hs (y_move rfl) trivial rfl rfl fun a hs => ?_
  obtain ⟨c291, hc291, hsh⟩ := bind_t hsh
  refine wpl_join 8 (fun a w => ∃ (Sv292 : Nat → Prop), Sl 28 [(0, .slice (some ⟨b277, o278, none⟩) l1.length k3), (1, .int .i64 x5), (5, .int .i64 sv119), (27, .bool c291)] a ∧ Wd ⟨w0, S0, []⟩ Sv292 [] [SlA (some ⟨b277, o278, none⟩) l1.length k3 l1] w) ?_ ?_
  ·rcases Bool.eq_false_or_eq_true (decide (x271.From ≤ x5)) with h290 | h290
   ·have hs := hs.fix 19 (.bool true) rfl (vb h290)
    have hsh := ite_t hc291 h290
    refine st_val hs (y_move rfl) ⟨_, rfl, rfl⟩ rfl rfl fun a hs => ?_
    refine st_val hs (y_move rfl) ⟨_, rfl, rfl⟩ rfl rfl fun a hs => ?_
    refine st_val hs (y_move rfl) ⟨_, rfl, rfl⟩ rfl rfl fun a hs => ?_
    obtain ⟨x295, h293, hsh⟩ := bind_t hsh
    obtain ⟨q299, c300, h296, h297, h298, h294⟩ := hw.elemK 1 rfl h293
    obtain ⟨_, _, rfl, rfl, rfl⟩ := h294
    have hw := hw.addE h298
    refine st_val hs (y_indexAt Try.runUnderlying25 Try.sizeOf34 rfl rfl h296.1 h296.2 h297) ⟨_, rfl, rfl⟩ rfl rfl fun a hs => ?_
    refine st_val hs (y_fieldAddr (o' := q299 + 1) Try.runUnderlying34 rfl Try.sizeOf3 rfl rfl rfl) ⟨_, rfl, rfl⟩ rfl rfl fun a hs => ?_
    refine st_val hs (y_loadE1 (j := 1) (hw.ceAt 0 rfl) rfl Try.isAgg3 rfl) ⟨_, rfl, rfl⟩ rfl rfl fun a hs => ?_
    refine st_val hs (y_lss rfl rfl) ⟨_, rfl, rfl⟩ rfl rfl fun a hs => ?_
    refine st_val hs (y_pickT rfl rfl) trivial rfl rfl fun a hs => ?_
    refine wpList_nil ?_
    have hsh := Option.some.inj hsh
    subst hsh
    refine then_normal ?_
    exact ⟨Sv193, (hs.wk rfl), (hw.ft [] [2] (by decide) rfl rfl)⟩
   ·have hs := hs.fix 19 (.bool false) rfl (vb h290)
    have hsh := ite_f hc291 h290
    refine st_skip hs rfl rfl rfl rfl rfl fun a hs => ?_
    refine st_skip hs rfl rfl rfl rfl rfl fun a hs => ?_
    refine st_skip hs rfl rfl rfl rfl rfl fun a hs => ?_
    refine st_skip hs rfl rfl rfl rfl rfl fun a hs => ?_
    refine st_skip hs rfl rfl rfl rfl rfl fun a hs => ?_
    refine st_skip hs rfl rfl rfl rfl rfl fun a hs => ?_
    refine st_skip hs rfl rfl rfl rfl rfl fun a hs => ?_
    refine st_val hs (y_pickF rfl rfl) trivial rfl rfl fun a hs => ?_
    refine wpList_nil ?_
    have hsh := Option.some.inj hsh
    subst hsh
    refine then_normal ?_
    exact ⟨Sv193, (hs.wk rfl), (hw.ft [] [1] (by decide) rfl rfl)⟩
  ·rintro a w ⟨Sv292, hs, hw⟩
   refine wpList_nil ?_
   refine then_normal ?_
   refine wp_cond_split (hs.ev rfl) (fun h302 => ?_) (fun h302 => ?_)
   ·have hsh := ite_t hsh h302
    refine wp_seq ?_
    refine wp_region_lit ?_
    refine st_val hs (y_assign rfl) trivial rfl rfl fun a hs => ?_
    refine wpList_nil ?_
    refine then_normal ?_
    have hsh := Option.some.inj hsh
    subst hsh
    have h303 := hd230 _ rfl
    subst h303
    refine wp_ret ?_
    refine blk_ret ?_
    refine then_ret ?_
    refine then_ret ?_
    refine blk_ret ?_
    refine then_ret ?_
    exact ret1 hs rfl (rv_tmp rfl) (hw.ret rfl)
   ·have hsh := ite_f hsh h302
    refine wp_skip ?_
    refine blk_normal ?_
    refine then_normal ?_
    refine wp_region_lit ?_
    refine st_val hs (y_move rfl) trivial rfl rfl fun a hs => ?_
    refine st_val hs (y_add rfl rfl) trivial rfl rfl fun a hs => ?_
    obtain ⟨i305, h304, hsh⟩ := bind_t hsh
    refine st_val hs (y_assignI rfl h304) trivial rfl rfl fun a hs => ?_
    refine wpList_nil ?_
    refine then_normal ?_
    exact ⟨_, (Option.some.inj hsh).symm, Sv292, (hs.wk rfl), (hw.ft [] [0] (by decide) rfl rfl)⟩
 ·have hsh := ite_f hsh h235
  obtain ⟨rv306, hsh, h307⟩ := map_t hsh
  have h307 := (hd230 _ h307.symm).symm
  subst h307
  refine wp_exit ?_
  refine then_exit ?_
  refine then_exit ?_
  refine blk_exit ?_
  refine then_normal ?_
  refine wp_seq ?_
  refine wp_region_lit ?_
  refine st_val hs (y_assign rfl) trivial rfl rfl fun a hs => ?_
  refine wpList_nil ?_
  refine then_normal ?_
  have hsh := Option.some.inj hsh
  subst hsh
  refine wp_ret ?_
  exact ret1 hs rfl (rv_tmp rfl) (hw.ret rfl)

abbrev span_Cut_rd (w0 : World) (X : List Nat) (r : (List Span)) : (Nat → Prop) → World → Value → Prop := fun S w v => ∃ (p0_0 : Option Addr) (k0_0 : Nat) (c0_0 : List Value), v = .slice p0_0 r.length k0_0 ∧ Outs X w0 S w [.row p0_0 r.length k0_0 c0_0 34 2] ∧ (RowA c0_0 r).p S w
set_option maxHeartbeats 4000000 in
set_option maxRecDepth 100000 in
theorem span_Cut_ok {w0 : World} {S0 : Nat → Prop} {p2 : Option Addr} {k3 : Nat} {l1 : (List Span)} {from5 : Int} {to6 : Int} {r : (List Span)} (hsh : span_Cut l1 from5 to6 = some r) (hS : ∀ b, S0 b → b < w0.heap.size) (h4 : (SlA p2 l1.length k3 l1).p S0 w0) : Calls Try.prog 20 #[.slice p2 l1.length k3, .int .i64 from5, .int .i64 to6] w0 (Ret ([]) w0 S0 (span_Cut_rd w0 ([]) r)) := by
 refine calls_of_wp Try.func20 rfl ?_
 have hs := Sl.enter #[.slice p2 l1.length k3, .int .i64 from5, .int .i64 to6] 13 [(0, .slice p2 l1.length k3), (1, .int .i64 from5), (2, .int .i64 to6)] rfl ⟨rfl, rfl, rfl, trivial⟩
 have hw := Wd.enter (E := []) hS (fun _ h => (by cases h))
 have hw := hw.addE h4
 delta span_Cut at hsh
 refine wp_seq ?_
 refine wp_region_lit ?_
 refine st_val hs (y_assign rfl) trivial rfl rfl fun a hs => ?_
 refine wpList_nil ?_
 refine then_normal ?_
 refine wp_seq ?_
 refine wp_region_lit ?_
 refine st_val hs (y_move rfl) trivial rfl rfl fun a hs => ?_
 refine st_val hs (y_move rfl) trivial rfl rfl fun a hs => ?_
 refine st_val hs (y_move rfl) trivial rfl rfl fun a hs => ?_
 refine st_val hs (y_build (vs := [(0, .int .i64 from5), (1, .int .i64 to6)]) Bld34 rfl rfl) trivial rfl rfl fun a hs => ?_
 refine w_litSlice (α := Span) (vs := [.agg #[.int .i64 from5, .int .i64 to6]]) (cs := [.int .i64 from5, .int .i64 to6]) (xs := ([(⟨from5, to6⟩ : Span)] : List Span)) hs hw El25 rfl rfl rfl rfl rfl rfl ⟨⟨_, _, rfl, rfl, rfl⟩, rfl⟩ rfl trivial rfl fun b8 a w hs hw => ?_
 obtain ⟨rv10, h9, hsh⟩ := bind_t hsh
 obtain ⟨Sv15, hw⟩ := w_share (α := Span) hw 0 rfl 0 rfl
 refine st_callR hs (span_Meet_ok h9 hw.dom (hw.envAt 2 rfl) (hw.envAt 0 rfl)) (do_call Try.call19 rfl) trivial rfl rfl ?_
 intro v19 Sv16 w a h17 h18 hs
 obtain ⟨p11, k12, c14, rfl, h20, h13⟩ := h18
 have hw := hw.callN h17 h20
 have hw := hw.addE (e := RowA c14 rv10) h13
 refine st_val hs (y_assign rfl) trivial rfl rfl fun a hs => ?_
 refine wpList_nil ?_
 refine then_normal ?_
 have hsh := Option.some.inj hsh
 subst hsh
 refine wp_ret ?_
 exact ret1 hs rfl (rv_tmp rfl) (hw.ret ⟨p11, k12, c14, rfl, (hw.outs [0] (by decide) rfl), (hw.envAt 0 rfl)⟩)

abbrev ref08_Cut_rd (w0 : World) (X : List Nat) (r : (List Span)) : (Nat → Prop) → World → Value → Prop := fun S w v => ∃ (p0_0 : Option Addr) (k0_0 : Nat) (c0_0 : List Value), v = .slice p0_0 r.length k0_0 ∧ Outs X w0 S w [.row p0_0 r.length k0_0 c0_0 34 2] ∧ (RowA c0_0 r).p S w
set_option maxHeartbeats 4000000 in
set_option maxRecDepth 100000 in
theorem ref08_Cut_ok {w0 : World} {S0 : Nat → Prop} {p2 : Option Addr} {k3 : Nat} {l1 : (List Span)} {from5 : Int} {to6 : Int} {r : (List Span)} (hsh : ref08_Cut l1 from5 to6 = some r) (hS : ∀ b, S0 b → b < w0.heap.size) (h4 : (SlA p2 l1.length k3 l1).p S0 w0) : Calls Try.prog 29 #[.slice p2 l1.length k3, .int .i64 from5, .int .i64 to6] w0 (Ret ([]) w0 S0 (ref08_Cut_rd w0 ([]) r)) := by
 refine calls_of_wp Try.func29 rfl ?_
 have hs := Sl.enter #[.slice p2 l1.length k3, .int .i64 from5, .int .i64 to6] 13 [(0, .slice p2 l1.length k3), (1, .int .i64 from5), (2, .int .i64 to6)] rfl ⟨rfl, rfl, rfl, trivial⟩
 have hw := Wd.enter (E := []) hS (fun _ h => (by cases h))
 have hw := hw.addE h4
 delta ref08_Cut at hsh
 refine wp_seq ?_
 refine wp_region_lit ?_
 refine st_val hs (y_assign rfl) trivial rfl rfl fun a hs => ?_
 refine wpList_nil ?_
 refine then_normal ?_
 refine wp_seq ?_
 refine wp_region_lit ?_
 refine st_val hs (y_move rfl) trivial rfl rfl fun a hs => ?_
 refine st_val hs (y_move rfl) trivial rfl rfl fun a hs => ?_
 refine st_val hs (y_move rfl) trivial rfl rfl fun a hs => ?_
 refine st_val hs (y_build (vs := [(0, .int .i64 from5), (1, .int .i64 to6)]) Bld34 rfl rfl) trivial rfl rfl fun a hs => ?_
 refine w_litSlice (α := Span) (vs := [.agg #[.int .i64 from5, .int .i64 to6]]) (cs := [.int .i64 from5, .int .i64 to6]) (xs := ([(⟨from5, to6⟩ : Span)] : List Span)) hs hw El25 rfl rfl rfl rfl rfl rfl ⟨⟨_, _, rfl, rfl, rfl⟩, rfl⟩ rfl trivial rfl fun b8 a w hs hw => ?_
 obtain ⟨rv10, h9, hsh⟩ := bind_t hsh
 obtain ⟨Sv15, hw⟩ := w_share (α := Span) hw 0 rfl 0 rfl
 refine st_callR hs (ref08_Meet_ok h9 hw.dom (hw.envAt 2 rfl) (hw.envAt 0 rfl)) (do_call Try.call24 rfl) trivial rfl rfl ?_
 intro v19 Sv16 w a h17 h18 hs
 obtain ⟨p11, k12, c14, rfl, h20, h13⟩ := h18
 have hw := hw.callN h17 h20
 have hw := hw.addE (e := RowA c14 rv10) h13
 refine st_val hs (y_assign rfl) trivial rfl rfl fun a hs => ?_
 refine wpList_nil ?_
 refine then_normal ?_
 have hsh := Option.some.inj hsh
 subst hsh
 refine wp_ret ?_
 exact ret1 hs rfl (rv_tmp rfl) (hw.ret ⟨p11, k12, c14, rfl, (hw.outs [0] (by decide) rfl), (hw.envAt 0 rfl)⟩)

abbrev ref08_First_rd (w0 : World) (X : List Nat) (r : (List Span)) : (Nat → Prop) → World → Value → Prop := fun S w v => ∃ (p0_0 : Option Addr) (k0_0 : Nat) (c0_0 : List Value), v = .slice p0_0 r.length k0_0 ∧ Outs X w0 S w [.row p0_0 r.length k0_0 c0_0 34 2] ∧ (RowA c0_0 r).p S w
set_option maxHeartbeats 4000000 in
set_option maxRecDepth 100000 in
theorem ref08_First_ok {w0 : World} {S0 : Nat → Prop} {p2 : Option Addr} {k3 : Nat} {l1 : (List Span)} {n5 : Int} {r : (List Span)} (hsh : ref08_First l1 n5 = some r) (hS : ∀ b, S0 b → b < w0.heap.size) (h4 : (SlA p2 l1.length k3 l1).p S0 w0) : Calls Try.prog 30 #[.slice p2 l1.length k3, .int .i64 n5] w0 (Ret ([]) w0 S0 (ref08_First_rd w0 ([]) r)) := by
 refine calls_of_wp Try.func30 rfl ?_
 have hs := Sl.enter #[.slice p2 l1.length k3, .int .i64 n5] 66 [(0, .slice p2 l1.length k3), (1, .int .i64 n5)] rfl ⟨rfl, rfl, trivial⟩
 have hw := Wd.enter (E := []) hS (fun _ h => (by cases h))
 have hw := hw.addE h4
 delta ref08_First at hsh
 refine wp_seq ?_
 refine wp_region_lit ?_
 refine st_val hs (y_assign rfl) trivial rfl rfl fun a hs => ?_
 refine wpList_nil ?_
 refine then_normal ?_
 refine wp_seq ?_
 refine wp_region_lit ?_
 refine st_val hs (y_move rfl) trivial rfl rfl fun a hs => ?_
 obtain ⟨rv7, h6, hsh⟩ := bind_t hsh
 refine st_callR hs (ref08_Normal_ok h6 hw.dom (hw.envAt 0 rfl)) (do_call Try.call26 rfl) trivial rfl rfl ?_
 intro v15 Sv12 w a h13 h14 hs
 obtain ⟨p8, k9, c11, rfl, h16, h10⟩ := h14
 have hw := hw.callN h13 h16
 have hw := hw.addE (e := RowA c11 rv7) h10
 refine st_val hs (y_assign rfl) trivial rfl rfl fun a hs => ?_
 refine wpList_nil ?_
 refine then_normal ?_
 refine wp_seq ?_
 refine wp_region_lit ?_
 refine st_val hs (y_assign rfl) trivial rfl rfl fun a hs => ?_
 refine wpList_nil ?_
 refine then_normal ?_
 refine wp_seq ?_
 refine wp_seq ?_
 refine wp_region_lit ?_
 refine st_val hs (y_assign rfl) trivial rfl rfl fun a hs => ?_
 refine wpList_nil ?_
 refine then_normal ?_
 obtain ⟨e272, h481, hsh⟩ := bind_t hsh
 refine wp_join (fun a w => ∃ (c273 : List Value) (p274 : Option Addr) (k275 : Nat) (Sv276 : Nat → Prop), Sl 66 [(6, .slice p274 e272.length k275)] a ∧ Wd ⟨w0, S0, []⟩ Sv276 [.row p274 e272.length k275 c273 34 2] [RowA c273 e272] w) ?_ ?_
 ·refine wp_block ?_
  have hw := hw.nilRow Span 34
  refine wp_while (fun sv17 a w => ∃ (c184 : List Value) (p185 : Option Addr) (k186 : Nat) (Sv187 : Nat → Prop), Sl 66 [(1, .int .i64 sv17.1), (5, .slice p8 rv7.length k9), (6, .slice p185 sv17.2.1.length k186), (7, .int .i64 sv17.2.2)] a ∧ Wd ⟨w0, S0, []⟩ Sv187 [.row p8 rv7.length k9 c11 34 2, .row p185 sv17.2.1.length k186 c184 34 2] [RowA c11 rv7, RowA c184 sv17.2.1] w) (n5, ([] : List Span), 0) h481 ⟨[], none, 0, Sv12, (hs.wk rfl), (hw.ft [1, 0] [1, 0] (by decide) rfl rfl)⟩ ?_
  clear h481
  repeat clear hsh
  rintro sv17 a w tv270 ⟨c184, p185, k186, Sv187, hs, hw⟩ hsh hd269
  delta ref08_First_l1 at hsh
  refine wp_seq ?_
  refine wp_seq ?_
  refine wp_region_lit ?_
  refine st_val hs (y_move rfl) trivial rfl rfl fun a hs => ?_
  refine st_val hs (y_move rfl) trivial rfl rfl fun a hs => ?_
  refine st_val hs (y_len Try.runUnderlying25 rfl) trivial rfl rfl fun a hs => ?_
  refine st_val hs (y_lss rfl rfl) trivial rfl rfl fun a hs => ?_
  refine st_val hs (y_move rfl) trivial rfl rfl fun a hs => ?_
  refine wpl_join 3 (fun a w1 => w = w1 ∧ Sl 66 [(1, .int .i64 sv17.1), (5, .slice p8 rv7.length k9), (6, .slice p185 sv17.2.1.length k186), (7, .int .i64 sv17.2.2), (18, .bool ((decide (sv17.2.2 < (rv7.length : Int))) && (decide (0 < sv17.1))))] a) ?_ ?_
  ·rcases Bool.eq_false_or_eq_true (decide (sv17.2.2 < (rv7.length : Int))) with h277 | h277
   ·have hs := hs.fix 15 (.bool true) rfl (vb h277)
    refine st_val hs (y_move rfl) ⟨_, rfl, rfl⟩ rfl rfl fun a hs => ?_
    refine st_val hs (y_gtr rfl rfl) ⟨_, rfl, rfl⟩ rfl rfl fun a hs => ?_
    refine st_val hs (y_pickT rfl rfl) trivial rfl rfl fun a hs => ?_
    refine wpList_nil ?_
    refine then_normal ?_
    exact ⟨rfl, (hs.fix 18 (.bool ((decide (sv17.2.2 < (rv7.length : Int))) && (decide (0 < sv17.1)))) rfl (and_t h277)).weaken _ ⟨rfl, rfl, rfl, rfl, rfl, trivial⟩⟩
   ·have hs := hs.fix 15 (.bool false) rfl (vb h277)
    refine st_skip hs rfl rfl rfl rfl rfl fun a hs => ?_
    refine st_skip hs rfl rfl rfl rfl rfl fun a hs => ?_
    refine st_val hs (y_pickF rfl rfl) trivial rfl rfl fun a hs => ?_
    refine wpList_nil ?_
    refine then_normal ?_
    exact ⟨rfl, (hs.fix 18 (.bool ((decide (sv17.2.2 < (rv7.length : Int))) && (decide (0 < sv17.1)))) rfl (and_f h277)).weaken _ ⟨rfl, rfl, rfl, rfl, rfl, trivial⟩⟩
  ·rintro a w1 ⟨h480, hs⟩
   subst h480
   refine wpList_nil ?_
   refine then_normal ?_
   refine wp_cond_split (hs.ev rfl) (fun h279 => ?_) (fun h279 => ?_)
   ·have hsh := ite_t hsh h279
    refine wp_skip ?_
    refine then_normal ?_
    refine wp_seq ?_
    refine wp_block ?_
    refine wp_seq ?_
    obtain ⟨x358, h356, hsh⟩ := bind_t hsh
    obtain ⟨b365, q362, c363, h366, h359, h360, h364, h357⟩ := hw.elemRV (α := Span) 0 rfl 0 rfl h356
    have hsv367 := hs
    have hwv368 := hw
    subst h366
    have hs := hsv367
    have hw := hwv368
    obtain ⟨_, _, rfl, rfl, rfl⟩ := h357
    obtain ⟨x371, h369, hsh⟩ := bind_t hsh
    obtain ⟨q375, c376, h372, h373, h377, h370⟩ := hw.elemRK (α := Span) 0 rfl 0 rfl h369
    obtain ⟨_, _, rfl, rfl, rfl⟩ := h370
    obtain ⟨length379, h378, hsh⟩ := bind_t hsh
    refine wp_only (fun a w => ∃ (Sv380 : Nat → Prop), Sl 66 [(1, .int .i64 sv17.1), (5, .slice (some ⟨b365, 0, none⟩) rv7.length k9), (6, .slice p185 sv17.2.1.length k186), (7, .int .i64 sv17.2.2), (8, .int .u64 length379)] a ∧ Wd ⟨w0, S0, []⟩ Sv380 [.row (some ⟨b365, 0, none⟩) rv7.length k9 c11 34 2, .row p185 sv17.2.1.length k186 c184 34 2] [RowA c11 rv7, RowA c184 sv17.2.1] w) ?_ ?_
    ·refine h_b (C := Cls [.row (some ⟨b365, 0, none⟩) rv7.length k9 c11 34 2, .row p185 sv17.2.1.length k186 c184 34 2] []) (by kernel_rfl) rfl (hw.drew.cs [0, 1] [] rfl rfl) fun hC => ?_
     have hw := hw.drew
     refine h_g hs 0 rfl (by kernel_rfl) rfl rfl hC rfl (fun w hC => y_move rfl) fun a hs => ?_
     refine h_g hs 1 rfl (by kernel_rfl) rfl rfl hC rfl (fun w hC => y_move rfl) fun a hs => ?_
     refine h_g hs 2 rfl (by kernel_rfl) rfl rfl hC rfl (fun w hC => y_indexAt Try.runUnderlying25 Try.sizeOf34 rfl rfl h359.1 h359.2 h360) fun a hs => ?_
     refine h_g hs 3 rfl (by kernel_rfl) rfl rfl hC rfl (fun w hC => y_fieldAddr (o' := q362 + 1) Try.runUnderlying34 rfl Try.sizeOf3 rfl rfl rfl) fun a hs => ?_
     refine h_g hs 4 rfl (by kernel_rfl) rfl rfl hC rfl (fun w hC => y_loadQ1 (j := 1) (hC.ownAt 0 rfl) rfl Try.isAgg3 h364 rfl) fun a hs => ?_
     refine h_g hs 5 rfl (by kernel_rfl) rfl rfl hC rfl (fun w hC => y_convert Try.runUnderlying3 Try.runUnderlying59 rfl) fun a hs => ?_
     refine h_g hs 6 rfl (by kernel_rfl) rfl rfl hC rfl (fun w hC => y_move rfl) fun a hs => ?_
     refine h_g hs 7 rfl (by kernel_rfl) rfl rfl hC rfl (fun w hC => y_move rfl) fun a hs => ?_
     refine h_g hs 8 rfl (by kernel_rfl) rfl rfl hC rfl (fun w hC => y_indexAt Try.runUnderlying25 Try.sizeOf34 rfl rfl h372.1 h372.2 h373) fun a hs => ?_
     refine h_g hs 9 rfl (by kernel_rfl) rfl rfl hC rfl (fun w hC => y_fieldAddr (o' := q375 + 0) Try.runUnderlying34 rfl Try.sizeOf3 rfl rfl rfl) fun a hs => ?_
     refine h_g hs 10 rfl (by kernel_rfl) rfl rfl hC rfl (fun w hC => y_loadQ1 (j := 0) (hC.ownAt 0 rfl) rfl Try.isAgg3 h377 rfl) fun a hs => ?_
     refine h_g hs 11 rfl (by kernel_rfl) rfl rfl hC rfl (fun w hC => y_convert Try.runUnderlying3 Try.runUnderlying59 rfl) fun a hs => ?_
     refine h_g hs 12 rfl (by kernel_rfl) rfl rfl hC rfl (fun w hC => y_sub rfl rfl) fun a hs => ?_
     refine h_g hs 13 rfl (by kernel_rfl) rfl rfl hC rfl (fun w hC => y_assignI rfl h378) fun a hs => ?_
     refine h_done (by kernel_rfl) ?_
     exact ⟨Sv187, (hs.wk rfl), (hw.ft [0, 1] [0, 1] (by decide) rfl rfl)⟩
    ·rintro a w ⟨Sv380, hs, hw⟩
     refine then_normal ?_
     refine wp_seq ?_
     refine wp_region_lit ?_
     refine st_val hs (y_move rfl) trivial rfl rfl fun a hs => ?_
     refine st_val hs (y_move rfl) trivial rfl rfl fun a hs => ?_
     refine st_val hs (y_convert Try.runUnderlying3 Try.runUnderlying59 rfl) trivial rfl rfl fun a hs => ?_
     refine st_val hs (y_gtr rfl rfl) trivial rfl rfl fun a hs => ?_
     refine wpList_nil ?_
     refine then_normal ?_
     refine wp_join (fun a w => ∃ (n430 : Int) (out431 : (List Span)) (c426 : List Value) (p427 : Option Addr) (k428 : Nat) (Sv429 : Nat → Prop), ref08_First_j1 sv17 n430 out431 = some tv270 ∧ Sl 66 [(1, .int .i64 n430), (5, .slice (some ⟨b365, 0, none⟩) rv7.length k9), (6, .slice p427 out431.length k428), (7, .int .i64 sv17.2.2)] a ∧ Wd ⟨w0, S0, []⟩ Sv429 [.row (some ⟨b365, 0, none⟩) rv7.length k9 c11 34 2, .row p427 out431.length k428 c426 34 2] [RowA c11 rv7, RowA c426 out431] w) ?_ ?_
     ·refine wp_cond_split (hs.ev rfl) (fun h434 => ?_) (fun h434 => ?_)
      ·have hsh := ite_t hsh h434
       refine wp_seq ?_
       obtain ⟨x437, h435, hsh⟩ := bind_t hsh
       obtain ⟨q441, c442, h438, h439, h443, h436⟩ := hw.elemRK (α := Span) 0 rfl 0 rfl h435
       obtain ⟨_, _, rfl, rfl, rfl⟩ := h436
       obtain ⟨x446, h444, hsh⟩ := bind_t hsh
       obtain ⟨q450, c451, h447, h448, h452, h445⟩ := hw.elemRK (α := Span) 0 rfl 0 rfl h444
       obtain ⟨_, _, rfl, rfl, rfl⟩ := h445
       obtain ⟨l456, h455, hsh⟩ := bind_t hsh
       refine wp_only (fun a w => ∃ (Sv460 : Nat → Prop) (c459 : List Value) (k458 : Nat) (p457 : Option Addr), Sl 66 [(5, .slice (some ⟨b365, 0, none⟩) rv7.length k9), (6, .slice p457 l456.length k458), (7, .int .i64 sv17.2.2)] a ∧ Wd ⟨w0, S0, []⟩ Sv460 [.row (some ⟨b365, 0, none⟩) rv7.length k9 c11 34 2, .row p457 l456.length k458 c459 34 2] [RowA c11 rv7, RowA c459 l456] w) ?_ ?_
       ·refine h_b (C := Cls [.row (some ⟨b365, 0, none⟩) rv7.length k9 c11 34 2] []) (by kernel_rfl) rfl (hw.drew.cs [0] [] rfl rfl) fun hC => ?_
        have hw := hw.drew
        refine h_g hs 0 rfl (by kernel_rfl) rfl rfl hC rfl (fun w hC => y_move rfl) fun a hs => ?_
        refine h_g hs 1 rfl (by kernel_rfl) rfl rfl hC rfl (fun w hC => y_move rfl) fun a hs => ?_
        refine h_g hs 2 rfl (by kernel_rfl) rfl rfl hC rfl (fun w hC => y_move rfl) fun a hs => ?_
        refine h_g hs 3 rfl (by kernel_rfl) rfl rfl hC rfl (fun w hC => y_indexAt Try.runUnderlying25 Try.sizeOf34 rfl rfl h438.1 h438.2 h439) fun a hs => ?_
        refine h_g hs 4 rfl (by kernel_rfl) rfl rfl hC rfl (fun w hC => y_fieldAddr (o' := q441 + 0) Try.runUnderlying34 rfl Try.sizeOf3 rfl rfl rfl) fun a hs => ?_
        refine h_g hs 5 rfl (by kernel_rfl) rfl rfl hC rfl (fun w hC => y_loadQ1 (j := 0) (hC.ownAt 0 rfl) rfl Try.isAgg3 h443 rfl) fun a hs => ?_
        refine h_g hs 6 rfl (by kernel_rfl) rfl rfl hC rfl (fun w hC => y_move rfl) fun a hs => ?_
        refine h_g hs 7 rfl (by kernel_rfl) rfl rfl hC rfl (fun w hC => y_move rfl) fun a hs => ?_
        refine h_g hs 8 rfl (by kernel_rfl) rfl rfl hC rfl (fun w hC => y_indexAt Try.runUnderlying25 Try.sizeOf34 rfl rfl h447.1 h447.2 h448) fun a hs => ?_
        refine h_g hs 9 rfl (by kernel_rfl) rfl rfl hC rfl (fun w hC => y_fieldAddr (o' := q450 + 0) Try.runUnderlying34 rfl Try.sizeOf3 rfl rfl rfl) fun a hs => ?_
        refine h_g hs 10 rfl (by kernel_rfl) rfl rfl hC rfl (fun w hC => y_loadQ1 (j := 0) (hC.ownAt 0 rfl) rfl Try.isAgg3 h452 rfl) fun a hs => ?_
        refine h_g hs 11 rfl (by kernel_rfl) rfl rfl hC rfl (fun w hC => y_move rfl) fun a hs => ?_
        refine h_g hs 12 rfl (by kernel_rfl) rfl rfl hC rfl (fun w hC => y_add rfl rfl) fun a hs => ?_
        refine h_g hs 13 rfl (by kernel_rfl) rfl rfl hC rfl (fun w hC => y_build (vs := [(0, .int .i64 x437.From), (1, .int .i64 (w64 (x446.From + sv17.1)))]) Bld34 rfl rfl) fun a hs => ?_
        refine h_one (i := 14) (by kernel_rfl) rfl ?_
        refine w_litSlice (α := Span) (vs := [.agg #[.int .i64 x437.From, .int .i64 (w64 (x446.From + sv17.1))]]) (cs := [.int .i64 x437.From, .int .i64 (w64 (x446.From + sv17.1))]) (xs := ([(⟨x437.From, (w64 (x446.From + sv17.1))⟩ : Span)] : List Span)) hs hw El25 rfl rfl rfl rfl rfl rfl ⟨⟨_, _, rfl, rfl, rfl⟩, rfl⟩ rfl trivial rfl fun b454 a w hs hw => ?_
        refine h_nx (hw.cs [1] [] rfl rfl) fun hC => ?_
        refine h_st (C' := Cls [.row (some ⟨b365, 0, none⟩) rv7.length k9 c11 34 2, .row (some ⟨b454, 0, none⟩) ([(⟨x437.From, (w64 (x446.From + sv17.1))⟩ : Span)] : List Span).length ([(⟨x437.From, (w64 (x446.From + sv17.1))⟩ : Span)] : List Span).length [.int .i64 x437.From, .int .i64 (w64 (x446.From + sv17.1))] 34 2] []) (fun _ h => by exact h.sub [0] (Sel.of rfl) (AllIn.of [] rfl)) (hw.cs [1, 0] [] rfl rfl) fun hC => ?_
        refine h_one (i := 15) (by kernel_rfl) rfl ?_
        refine w_appendR (α := Span) hs hw El25 2 rfl rfl rfl 2 rfl 0 rfl 0 rfl h455 rfl trivial ?_
        intro p457 k458 c459 a w hs hw
        refine h_nx (hw.cs [1, 0] [] rfl rfl) fun hC => ?_
        refine h_g hs 16 rfl (by kernel_rfl) rfl rfl hC rfl (fun w hC => y_assign rfl) fun a hs => ?_
        refine h_done (by kernel_rfl) ?_
        exact ⟨Sv380, c459, k458, p457, (hs.wk rfl), (hw.ft [1, 2] [2, 0] (by decide) rfl rfl)⟩
       ·rintro a w ⟨Sv460, c459, k458, p457, hs, hw⟩
        refine then_normal ?_
        refine wp_region_lit ?_
        refine st_val hs (y_assign rfl) trivial rfl rfl fun a hs => ?_
        refine wpList_nil ?_
        refine then_normal ?_
        exact ⟨0, l456, c459, p457, k458, Sv460, hsh, (hs.wk rfl), (hw.ft [0, 1] [0, 1] (by decide) rfl rfl)⟩
      ·have hsh := ite_f hsh h434
       refine wp_seq ?_
       refine wp_region_lit ?_
       refine st_val hs (y_move rfl) trivial rfl rfl fun a hs => ?_
       refine st_val hs (y_move rfl) trivial rfl rfl fun a hs => ?_
       refine st_val hs (y_move rfl) trivial rfl rfl fun a hs => ?_
       obtain ⟨x463, h461, hsh⟩ := bind_t hsh
       obtain ⟨q467, c468, h464, h465, h469, h462⟩ := hw.elemRK (α := Span) 0 rfl 0 rfl h461
       obtain ⟨_, _, rfl, rfl, rfl⟩ := h462
       refine st_val hs (y_indexAt Try.runUnderlying25 Try.sizeOf34 rfl rfl h464.1 h464.2 h465) trivial rfl rfl fun a hs => ?_
       refine st_val hs (y_loadQA (j := 0) (hw.ownAt 0 rfl) rfl Try.isAgg34 Try.sizeOf34 h469 rfl rfl) trivial rfl rfl fun a hs => ?_
       refine w_litSlice (α := Span) (vs := [.agg #[.int .i64 x463.From, .int .i64 x463.To]]) (cs := [.int .i64 x463.From, .int .i64 x463.To]) (xs := ([x463] : List Span)) hs hw El25 rfl rfl rfl rfl rfl rfl ⟨⟨_, _, rfl, rfl, rfl⟩, rfl⟩ rfl trivial rfl fun b471 a w hs hw => ?_
       obtain ⟨l473, h472, hsh⟩ := bind_t hsh
       refine w_appendR (α := Span) hs hw El25 2 rfl rfl rfl 2 rfl 0 rfl 0 rfl h472 rfl trivial ?_
       intro p474 k475 c476 a w hs hw
       refine st_val hs (y_assign rfl) trivial rfl rfl fun a hs => ?_
       refine wpList_nil ?_
       refine then_normal ?_
       refine wp_region_lit ?_
       refine st_val hs (y_move rfl) trivial rfl rfl fun a hs => ?_
       refine st_val hs (y_move rfl) trivial rfl rfl fun a hs => ?_
       refine st_val hs (y_convert Try.runUnderlying59 Try.runUnderlying3 rfl) trivial rfl rfl fun a hs => ?_
       refine st_val hs (y_sub rfl rfl) trivial rfl rfl fun a hs => ?_
       obtain ⟨n478, h477, hsh⟩ := bind_t hsh
       refine st_val hs (y_assignI rfl h477) trivial rfl rfl fun a hs => ?_
       refine wpList_nil ?_
       refine then_normal ?_
       exact ⟨n478, l473, c476, p474, k475, Sv380, hsh, (hs.wk rfl), (hw.ft [1, 2] [2, 0] (by decide) rfl rfl)⟩
     ·rintro a w ⟨n430, out431, c426, p427, k428, Sv429, hsh, hs, hw⟩
      delta ref08_First_j1 at hsh
      refine blk_normal ?_
      refine then_normal ?_
      refine wp_region_lit ?_
      refine st_val hs (y_move rfl) trivial rfl rfl fun a hs => ?_
      refine st_val hs (y_add rfl rfl) trivial rfl rfl fun a hs => ?_
      obtain ⟨i433, h432, hsh⟩ := bind_t hsh
      refine st_val hs (y_assignI rfl h432) trivial rfl rfl fun a hs => ?_
      refine wpList_nil ?_
      refine then_normal ?_
      exact ⟨_, (Option.some.inj hsh).symm, c426, p427, k428, Sv429, (hs.wk rfl), (hw.ft [0, 1] [0, 1] (by decide) rfl rfl)⟩
   ·have hsh := ite_f hsh h279
    refine wp_exit ?_
    refine then_exit ?_
    refine then_exit ?_
    refine blk_exit ?_
    have hsh := Option.some.inj hsh
    subst hsh
    have h479 := hd269 _ rfl
    subst h479
    refine then_normal ?_
    exact ⟨c184, p185, k186, Sv187, (hs.wk rfl), (hw.ft [1] [1] (by decide) rfl rfl)⟩
 ·rintro a w ⟨c273, p274, k275, Sv276, hs, hw⟩
  refine then_normal ?_
  refine wp_seq ?_
  refine wp_region_lit ?_
  refine st_val hs (y_move rfl) trivial rfl rfl fun a hs => ?_
  refine st_val hs (y_assign rfl) trivial rfl rfl fun a hs => ?_
  refine wpList_nil ?_
  refine then_normal ?_
  have hsh := Option.some.inj hsh
  subst hsh
  refine wp_ret ?_
  exact ret1 hs rfl (rv_tmp rfl) (hw.ret ⟨p274, k275, c273, rfl, (hw.outs [0] (by decide) rfl), (hw.envAt 0 rfl)⟩)

abbrev span_near_rd (w0 : World) (X : List Nat) (r : Bool) : (Nat → Prop) → World → Value → Prop := fun S w v => v = .bool r
set_option maxHeartbeats 4000000 in
set_option maxRecDepth 100000 in
theorem span_near_ok {w0 : World} {S0 : Nat → Prop} {p2 : Option Addr} {k3 : Nat} {l1 : (List Span)} {r : Bool} (hsh : span_near l1 = some r) (hS : ∀ b, S0 b → b < w0.heap.size) (h4 : (SlA p2 l1.length k3 l1).p S0 w0) : Calls Try.prog 33 #[.slice p2 l1.length k3] w0 (Ret ([]) w0 S0 (span_near_rd w0 ([]) r)) := by
 refine calls_of_wp Try.func33 rfl ?_
 have hs := Sl.enter #[.slice p2 l1.length k3] 23 [(0, .slice p2 l1.length k3)] rfl ⟨rfl, trivial⟩
 have hw := Wd.enter (E := []) hS (fun _ h => (by cases h))
 have hw := hw.addE h4
 delta span_near at hsh
 refine wp_seq ?_
 refine wp_region_lit ?_
 refine st_val hs (y_assign rfl) trivial rfl rfl fun a hs => ?_
 refine wpList_nil ?_
 refine then_normal ?_
 refine wp_seq ?_
 refine wp_region_lit ?_
 refine st_val hs (y_move rfl) trivial rfl rfl fun a hs => ?_
 refine st_val hs (y_len Try.runUnderlying25 rfl) trivial rfl rfl fun a hs => ?_
 refine st_val hs (y_eql rfl rfl) trivial rfl rfl fun a hs => ?_
 refine st_val hs (y_move rfl) trivial rfl rfl fun a hs => ?_
 obtain ⟨c38, hc38, hsh⟩ := bind_t hsh
 refine wpl_join 16 (fun a w => ∃ (Sv39 : Nat → Prop), Sl 23 [(22, .bool c38)] a ∧ Wd ⟨w0, S0, []⟩ Sv39 [] [] w) ?_ ?_
 ·rcases Bool.eq_false_or_eq_true ((l1.length : Int) == 0) with h37 | h37
  ·have hs := hs.fix 6 (.bool true) rfl (vb h37)
   have hsh := ite_t hc38 h37
   refine st_skip hs rfl rfl rfl rfl rfl fun a hs => ?_
   refine st_skip hs rfl rfl rfl rfl rfl fun a hs => ?_
   refine st_skip hs rfl rfl rfl rfl rfl fun a hs => ?_
   refine st_skip hs rfl rfl rfl rfl rfl fun a hs => ?_
   refine st_skip hs rfl rfl rfl rfl rfl fun a hs => ?_
   refine st_skip hs rfl rfl rfl rfl rfl fun a hs => ?_
   refine st_skipU hs rfl rfl rfl rfl rfl fun a hs => ?_
   refine st_skipU hs rfl rfl rfl rfl rfl fun a hs => ?_
   refine st_skipU hs rfl rfl rfl rfl rfl fun a hs => ?_
   refine st_skipU hs rfl rfl rfl rfl rfl fun a hs => ?_
   refine st_skipU hs rfl rfl rfl rfl rfl fun a hs => ?_
   refine st_skipU hs rfl rfl rfl rfl rfl fun a hs => ?_
   refine st_skipU hs rfl rfl rfl rfl rfl fun a hs => ?_
   refine st_skipU hs rfl rfl rfl rfl rfl fun a hs => ?_
   refine st_skip hs rfl rfl rfl rfl rfl fun a hs => ?_
   refine st_val hs (y_pickT rfl rfl) trivial rfl rfl fun a hs => ?_
   refine wpList_nil ?_
   have hsh := Option.some.inj hsh
   subst hsh
   refine then_normal ?_
   exact ⟨S0, (hs.wk rfl), (hw.ft [] [] (by decide) rfl rfl)⟩
  ·have hs := hs.fix 6 (.bool false) rfl (vb h37)
   have hsh := ite_f hc38 h37
   refine st_val hs (y_move rfl) ⟨_, rfl, rfl⟩ rfl rfl fun a hs => ?_
   obtain ⟨x42, h40, hsh⟩ := bind_t hsh
   obtain ⟨b48, o49, q46, c47, h50, h43, h44, h45, h41⟩ := hw.elemV 0 rfl h40
   have hsv51 := hs
   have hwv52 := hw
   subst h50
   have hs := hsv51
   have hw := hwv52
   obtain ⟨_, _, rfl, rfl, rfl⟩ := h41
   have hw := hw.addE h45
   refine st_val hs (y_indexAt Try.runUnderlying25 Try.sizeOf34 rfl rfl h43.1 h43.2 h44) ⟨_, rfl, rfl⟩ rfl rfl fun a hs => ?_
   refine st_val hs (y_fieldAddr (o' := q46 + 0) Try.runUnderlying34 rfl Try.sizeOf3 rfl rfl rfl) ⟨_, rfl, rfl⟩ rfl rfl fun a hs => ?_
   refine st_val hs (y_loadE1 (j := 0) (hw.ceAt 0 rfl) rfl Try.isAgg3 rfl) ⟨_, rfl, rfl⟩ rfl rfl fun a hs => ?_
   refine st_val hs (y_geq rfl rfl) ⟨_, rfl, rfl⟩ rfl rfl fun a hs => ?_
   refine st_val hs (y_move rfl) ⟨_, rfl, rfl⟩ rfl rfl fun a hs => ?_
   obtain ⟨c62, hc62, hsh⟩ := bind_t hsh
   refine wpl_join 9 (fun a w => ∃ (Sv63 : Nat → Prop), Sl 23 [(6, .bool false), (21, .bool c62)] a ∧ Wd ⟨w0, S0, []⟩ Sv63 [] [] w) ?_ ?_
   ·rcases Bool.eq_false_or_eq_true (decide ((-1152921504606846976) ≤ x42.From)) with h61 | h61
    ·have hs := hs.fix 12 (.bool true) rfl (vb h61)
     have hsh := ite_t hc62 h61
     refine st_val hs (y_move rfl) ⟨_, rfl, rfl⟩ rfl rfl fun a hs => ?_
     refine st_val hs (y_move rfl) ⟨_, rfl, rfl⟩ rfl rfl fun a hs => ?_
     refine st_val hs (y_len Try.runUnderlying25 rfl) ⟨_, rfl, rfl⟩ rfl rfl fun a hs => ?_
     refine st_val hs (y_sub rfl rfl) ⟨_, rfl, rfl⟩ rfl rfl fun a hs => ?_
     obtain ⟨x66, h64, hsh⟩ := bind_t hsh
     obtain ⟨q70, c71, h67, h68, h69, h65⟩ := hw.elemK 1 rfl h64
     obtain ⟨_, _, rfl, rfl, rfl⟩ := h65
     have hw := hw.addE h69
     refine st_val hs (y_indexAt Try.runUnderlying25 Try.sizeOf34 rfl rfl h67.1 h67.2 h68) ⟨_, rfl, rfl⟩ rfl rfl fun a hs => ?_
     refine st_val hs (y_fieldAddr (o' := q70 + 1) Try.runUnderlying34 rfl Try.sizeOf3 rfl rfl rfl) ⟨_, rfl, rfl⟩ rfl rfl fun a hs => ?_
     refine st_val hs (y_loadE1 (j := 1) (hw.ceAt 0 rfl) rfl Try.isAgg3 rfl) ⟨_, rfl, rfl⟩ rfl rfl fun a hs => ?_
     refine st_val hs (y_leq rfl rfl) ⟨_, rfl, rfl⟩ rfl rfl fun a hs => ?_
     refine st_val hs (y_pickT rfl rfl) ⟨_, rfl, rfl⟩ rfl rfl fun a hs => ?_
     refine wpList_nil ?_
     have hsh := Option.some.inj hsh
     subst hsh
     refine then_normal ?_
     exact ⟨S0, (hs.wk rfl), (hw.ft [] [] (by decide) rfl rfl)⟩
    ·have hs := hs.fix 12 (.bool false) rfl (vb h61)
     have hsh := ite_f hc62 h61
     refine st_skip hs rfl rfl rfl rfl rfl fun a hs => ?_
     refine st_skip hs rfl rfl rfl rfl rfl fun a hs => ?_
     refine st_skip hs rfl rfl rfl rfl rfl fun a hs => ?_
     refine st_skip hs rfl rfl rfl rfl rfl fun a hs => ?_
     refine st_skip hs rfl rfl rfl rfl rfl fun a hs => ?_
     refine st_skip hs rfl rfl rfl rfl rfl fun a hs => ?_
     refine st_skip hs rfl rfl rfl rfl rfl fun a hs => ?_
     refine st_skip hs rfl rfl rfl rfl rfl fun a hs => ?_
     refine st_val hs (y_pickF rfl rfl) ⟨_, rfl, rfl⟩ rfl rfl fun a hs => ?_
     refine wpList_nil ?_
     have hsh := Option.some.inj hsh
     subst hsh
     refine then_normal ?_
     exact ⟨S0, (hs.wk rfl), (hw.ft [] [] (by decide) rfl rfl)⟩
   ·rintro a w ⟨Sv63, hs, hw⟩
    refine st_val hs (y_pickF rfl rfl) trivial rfl rfl fun a hs => ?_
    refine wpList_nil ?_
    have hsh := Option.some.inj hsh
    subst hsh
    refine then_normal ?_
    exact ⟨Sv63, (hs.wk rfl), (hw.ft [] [] (by decide) rfl rfl)⟩
 ·rintro a w ⟨Sv39, hs, hw⟩
  refine st_val hs (y_assign rfl) trivial rfl rfl fun a hs => ?_
  refine wpList_nil ?_
  refine then_normal ?_
  have hsh := Option.some.inj hsh
  subst hsh
  refine wp_ret ?_
  exact ret1 hs rfl (rv_tmp rfl) (hw.ret rfl)

abbrev span_Shift_rd (w0 : World) (X : List Nat) (r : ((List Span) × Int)) : (Nat → Prop) → World → Value → Prop := fun S w v => ∃ (p0_0 : Option Addr) (k0_0 : Nat) (c0_0 : List Value), v = .tuple #[.slice p0_0 r.1.length k0_0, .int .i64 r.2] ∧ Outs X w0 S w [.row p0_0 r.1.length k0_0 c0_0 34 2] ∧ (RowA c0_0 r.1).p S w
set_option maxHeartbeats 4000000 in
set_option maxRecDepth 100000 in
theorem span_Shift_ok {w0 : World} {S0 : Nat → Prop} {p2 : Option Addr} {k3 : Nat} {l1 : (List Span)} {by5 : Int} {r : ((List Span) × Int)} (hsh : span_Shift l1 by5 = some r) (hS : ∀ b, S0 b → b < w0.heap.size) (h4 : (SlA p2 l1.length k3 l1).p S0 w0) : Calls Try.prog 14 #[.slice p2 l1.length k3, .int .i64 by5] w0 (Ret ([]) w0 S0 (span_Shift_rd w0 ([]) r)) := by
 refine calls_of_wp Try.func14 rfl ?_
 have hs := Sl.enter #[.slice p2 l1.length k3, .int .i64 by5] 46 [(0, .slice p2 l1.length k3), (1, .int .i64 by5)] rfl ⟨rfl, rfl, trivial⟩
 have hw := Wd.enter (E := []) hS (fun _ h => (by cases h))
 have hw := hw.addE h4
 delta span_Shift at hsh
 refine wp_seq ?_
 refine wp_region_lit ?_
 refine st_val hs (y_assign rfl) trivial rfl rfl fun a hs => ?_
 refine st_val hs (y_assign rfl) trivial rfl rfl fun a hs => ?_
 refine wpList_nil ?_
 refine then_normal ?_
 refine wp_seq ?_
 refine wp_region_lit ?_
 refine st_val hs (y_move rfl) trivial rfl rfl fun a hs => ?_
 obtain ⟨rv7, h6, hsh⟩ := bind_t hsh
 refine st_callR hs (span_Normal_ok h6 hw.dom (hw.envAt 0 rfl)) (do_call Try.call16 rfl) trivial rfl rfl ?_
 intro v15 Sv12 w a h13 h14 hs
 obtain ⟨p8, k9, c11, rfl, h16, h10⟩ := h14
 have hw := hw.callN h13 h16
 have hw := hw.addE (e := RowA c11 rv7) h10
 refine st_val hs (y_assign rfl) trivial rfl rfl fun a hs => ?_
 refine wpList_nil ?_
 refine then_normal ?_
 refine wp_seq ?_
 refine wp_seq ?_
 refine wp_region_lit ?_
 refine st_val hs (y_move rfl) trivial rfl rfl fun a hs => ?_
 refine st_val hs (y_lss rfl rfl) trivial rfl rfl fun a hs => ?_
 refine st_val hs (y_move rfl) trivial rfl rfl fun a hs => ?_
 refine wpl_join 3 (fun a w1 => w = w1 ∧ Sl 46 [(1, .int .i64 by5), (6, .slice p8 rv7.length k9), (15, .bool ((decide (by5 < (-1152921504606846976))) || (decide (1152921504606846976 < by5))))] a) ?_ ?_
 ·rcases Bool.eq_false_or_eq_true (decide (by5 < (-1152921504606846976))) with h17 | h17
  ·have hs := hs.fix 12 (.bool true) rfl (vb h17)
   refine st_skip hs rfl rfl rfl rfl rfl fun a hs => ?_
   refine st_skip hs rfl rfl rfl rfl rfl fun a hs => ?_
   refine st_val hs (y_pickT rfl rfl) trivial rfl rfl fun a hs => ?_
   refine wpList_nil ?_
   refine then_normal ?_
   exact ⟨rfl, (hs.fix 15 (.bool ((decide (by5 < (-1152921504606846976))) || (decide (1152921504606846976 < by5)))) rfl (or_t h17)).weaken _ ⟨rfl, rfl, rfl, trivial⟩⟩
  ·have hs := hs.fix 12 (.bool false) rfl (vb h17)
   refine st_val hs (y_move rfl) ⟨_, rfl, rfl⟩ rfl rfl fun a hs => ?_
   refine st_val hs (y_gtr rfl rfl) ⟨_, rfl, rfl⟩ rfl rfl fun a hs => ?_
   refine st_val hs (y_pickF rfl rfl) trivial rfl rfl fun a hs => ?_
   refine wpList_nil ?_
   refine then_normal ?_
   exact ⟨rfl, (hs.fix 15 (.bool ((decide (by5 < (-1152921504606846976))) || (decide (1152921504606846976 < by5)))) rfl (or_f h17)).weaken _ ⟨rfl, rfl, rfl, trivial⟩⟩
 ·rintro a w1 ⟨h301, hs⟩
  subst h301
  refine st_val hs (y_move rfl) trivial rfl rfl fun a hs => ?_
  obtain ⟨c26, hc26, hsh⟩ := bind_t hsh
  refine wpl_join 4 (fun a w => ∃ (Sv27 : Nat → Prop), Sl 46 [(1, .int .i64 by5), (6, .slice p8 rv7.length k9), (20, .bool c26)] a ∧ Wd ⟨w0, S0, []⟩ Sv27 [.row p8 rv7.length k9 c11 34 2] [RowA c11 rv7] w) ?_ ?_
  ·rcases Bool.eq_false_or_eq_true ((decide (by5 < (-1152921504606846976))) || (decide (1152921504606846976 < by5))) with h25 | h25
   ·have hs := hs.fix 16 (.bool true) rfl (vb h25)
    have hsh := ite_t hc26 h25
    refine st_skip hs rfl rfl rfl rfl rfl fun a hs => ?_
    refine st_skip hs rfl rfl rfl rfl rfl fun a hs => ?_
    refine st_skip hs rfl rfl rfl rfl rfl fun a hs => ?_
    refine st_val hs (y_pickT rfl rfl) trivial rfl rfl fun a hs => ?_
    refine wpList_nil ?_
    have hsh := Option.some.inj hsh
    subst hsh
    refine then_normal ?_
    exact ⟨Sv12, (hs.wk rfl), (hw.ft [0] [0] (by decide) rfl rfl)⟩
   ·have hs := hs.fix 16 (.bool false) rfl (vb h25)
    have hsh := ite_f hc26 h25
    refine st_val hs (y_move rfl) ⟨_, rfl, rfl⟩ rfl rfl fun a hs => ?_
    obtain ⟨rv29, h28, hsh⟩ := bind_t hsh
    refine st_callR hs (span_near_ok h28 hw.bdom (hw.bRow 0 rfl 0 rfl)) (do_call Try.call33 rfl) ⟨_, rfl, rfl⟩ rfl rfl ?_
    intro v33 Sv30 w a h31 h32 hs
    subst h32
    have hw := hw.callB h31
    refine st_val hs (y_not rfl) ⟨_, rfl, rfl⟩ rfl rfl fun a hs => ?_
    refine st_val hs (y_pickF rfl rfl) trivial rfl rfl fun a hs => ?_
    refine wpList_nil ?_
    have hsh := Option.some.inj hsh
    subst hsh
    refine then_normal ?_
    exact ⟨Sv12, (hs.wk rfl), (hw.ft [0] [0] (by decide) rfl rfl)⟩
  ·rintro a w ⟨Sv27, hs, hw⟩
   refine wpList_nil ?_
   refine then_normal ?_
   refine wp_cond_split (hs.ev rfl) (fun h36 => ?_) (fun h36 => ?_)
   ·have hsh := ite_t hsh h36
    refine wp_seq ?_
    refine wp_region_lit ?_
    refine st_val hs (y_assign rfl) trivial rfl rfl fun a hs => ?_
    refine st_val hs (y_assign rfl) trivial rfl rfl fun a hs => ?_
    refine wpList_nil ?_
    refine then_normal ?_
    have hsh := Option.some.inj hsh
    subst hsh
    have hw := hw.nilRow Span 34
    refine wp_ret ?_
    refine then_ret ?_
    exact ret2 hs rfl (rv_tmp rfl) (rv_tmp rfl) (hw.ret ⟨none, 0, [], rfl, (hw.outs [0] (by decide) rfl), (hw.envAt 0 rfl)⟩)
   ·have hsh := ite_f hsh h36
    refine wp_skip ?_
    refine then_normal ?_
    refine wp_seq ?_
    refine wp_seq ?_
    refine wp_region_lit ?_
    refine st_val hs (y_move rfl) trivial rfl rfl fun a hs => ?_
    refine st_val hs (y_len Try.runUnderlying25 rfl) trivial rfl rfl fun a hs => ?_
    refine st_val hs (y_move rfl) trivial rfl rfl fun a hs => ?_
    refine wpList_nil ?_
    refine then_normal ?_
    obtain ⟨e196, h300, hsh⟩ := bind_t hsh
    refine wp_join (fun a w => ∃ (c197 : List Value) (p198 : Option Addr) (k199 : Nat) (Sv200 : Nat → Prop), Sl 46 [(6, .slice p198 e196.length k199)] a ∧ Wd ⟨w0, S0, []⟩ Sv200 [.row p198 e196.length k199 c197 34 2] [RowA c197 e196] w) ?_ ?_
    ·refine wp_block ?_
     refine wp_while (fun sv37 a w => ∃ (c140 : List Value) (p141 : Option Addr) (k142 : Nat) (Sv143 : Nat → Prop), Sl 46 [(1, .int .i64 by5), (6, .slice p141 sv37.1.length k142), (22, .int .i64 (rv7.length : Int)), (23, .int .i64 sv37.2)] a ∧ Wd ⟨w0, S0, []⟩ Sv143 [.row p141 sv37.1.length k142 c140 34 2] [RowA c140 sv37.1] w) (rv7, 0) h300 ⟨c11, p8, k9, Sv27, (hs.wk rfl), (hw.ft [0] [0] (by decide) rfl rfl)⟩ ?_
     clear h300
     repeat clear hsh
     rintro sv37 a w tv194 ⟨c140, p141, k142, Sv143, hs, hw⟩ hsh hd193
     delta span_Shift_l1 at hsh
     refine wp_seq ?_
     refine wp_region_lit ?_
     refine st_val hs (y_lss rfl rfl) trivial rfl rfl fun a hs => ?_
     refine wpList_nil ?_
     refine then_normal ?_
     refine wp_seq ?_
     refine wp_cond_split (hs.ev rfl) (fun h202 => ?_) (fun h202 => ?_)
     ·have hsh := ite_t hsh h202
      refine wp_skip ?_
      refine then_normal ?_
      refine wp_seq ?_
      refine wp_block ?_
      refine wp_seq ?_
      refine wp_region_lit ?_
      refine st_val hs (y_move rfl) trivial rfl rfl fun a hs => ?_
      refine st_val hs (y_assign rfl) trivial rfl rfl fun a hs => ?_
      refine wpList_nil ?_
      refine then_normal ?_
      refine wp_seq ?_
      refine wp_region_lit ?_
      refine st_val hs (y_move rfl) trivial rfl rfl fun a hs => ?_
      refine st_val hs (y_move rfl) trivial rfl rfl fun a hs => ?_
      obtain ⟨x253, h251, hsh⟩ := bind_t hsh
      obtain ⟨b260, q257, c258, h261, h254, h255, h259, h252⟩ := hw.elemRV (α := Span) 0 rfl 0 rfl h251
      have hsv262 := hs
      have hwv263 := hw
      subst h261
      have hs := hsv262
      have hw := hwv263
      obtain ⟨_, _, rfl, rfl, rfl⟩ := h252
      refine st_val hs (y_indexAt Try.runUnderlying25 Try.sizeOf34 rfl rfl h254.1 h254.2 h255) trivial rfl rfl fun a hs => ?_
      refine st_val hs (y_fieldAddr (o' := q257 + 0) Try.runUnderlying34 rfl Try.sizeOf3 rfl rfl rfl) trivial rfl rfl fun a hs => ?_
      refine st_val hs (y_loadQ1 (j := 0) (hw.ownAt 0 rfl) rfl Try.isAgg3 h259 rfl) trivial rfl rfl fun a hs => ?_
      refine st_val hs (y_move rfl) trivial rfl rfl fun a hs => ?_
      refine st_val hs (y_add rfl rfl) trivial rfl rfl fun a hs => ?_
      obtain ⟨x266, h264, hsh⟩ := bind_t hsh
      obtain ⟨q270, c271, h267, h268, h272, h265⟩ := hw.elemRK (α := Span) 0 rfl 0 rfl h264
      obtain ⟨_, _, rfl, rfl, rfl⟩ := h265
      refine st_val hs (y_indexAt Try.runUnderlying25 Try.sizeOf34 rfl rfl h267.1 h267.2 h268) trivial rfl rfl fun a hs => ?_
      refine st_val hs (y_fieldAddr (o' := q270 + 0) Try.runUnderlying34 rfl Try.sizeOf3 rfl rfl rfl) trivial rfl rfl fun a hs => ?_
      obtain ⟨l274, h273, hsh⟩ := bind_t hsh
      refine w_storeR (α := Span) (f := 0) (m := 1) hs hw 0 rfl 0 rfl h268 rfl rfl Try.sizeOf3 rfl rfl rfl h273 (fun es he => by rw [h272] at he; subst he; exact ⟨_, _, rfl, rfl, rfl⟩) trivial ?_
      intro c275 a w hs hw
      have h276 := setM_len h273
      try have hs := hs.fix 6 (.slice (some ⟨b260, 0, none⟩) l274.length k142) rfl (by rw [h276])
      try have hs := hs.fix 26 (.slice (some ⟨b260, 0, none⟩) l274.length k142) rfl (by rw [h276])
      refine wpList_nil ?_
      refine then_normal ?_
      refine wp_region_lit ?_
      refine st_val hs (y_move rfl) trivial rfl rfl fun a hs => ?_
      refine st_val hs (y_move rfl) trivial rfl rfl fun a hs => ?_
      obtain ⟨x279, h277, hsh⟩ := bind_t hsh
      obtain ⟨q283, c284, h280, h281, h285, h278⟩ := hw.elemRK (α := Span) 0 rfl 0 rfl h277
      obtain ⟨_, _, rfl, rfl, rfl⟩ := h278
      refine st_val hs (y_indexAt Try.runUnderlying25 Try.sizeOf34 rfl rfl h280.1 h280.2 h281) trivial rfl rfl fun a hs => ?_
      refine st_val hs (y_fieldAddr (o' := q283 + 1) Try.runUnderlying34 rfl Try.sizeOf3 rfl rfl rfl) trivial rfl rfl fun a hs => ?_
      refine st_val hs (y_loadQ1 (j := 1) (hw.ownAt 0 rfl) rfl Try.isAgg3 h285 rfl) trivial rfl rfl fun a hs => ?_
      refine st_val hs (y_move rfl) trivial rfl rfl fun a hs => ?_
      refine st_val hs (y_add rfl rfl) trivial rfl rfl fun a hs => ?_
      obtain ⟨x288, h286, hsh⟩ := bind_t hsh
      obtain ⟨q292, c293, h289, h290, h294, h287⟩ := hw.elemRK (α := Span) 0 rfl 0 rfl h286
      obtain ⟨_, _, rfl, rfl, rfl⟩ := h287
      refine st_val hs (y_indexAt Try.runUnderlying25 Try.sizeOf34 rfl rfl h289.1 h289.2 h290) trivial rfl rfl fun a hs => ?_
      refine st_val hs (y_fieldAddr (o' := q292 + 1) Try.runUnderlying34 rfl Try.sizeOf3 rfl rfl rfl) trivial rfl rfl fun a hs => ?_
      obtain ⟨l296, h295, hsh⟩ := bind_t hsh
      refine w_storeR (α := Span) (f := 1) (m := 1) hs hw 0 rfl 0 rfl h290 rfl rfl Try.sizeOf3 rfl rfl rfl h295 (fun es he => by rw [h294] at he; subst he; exact ⟨_, _, rfl, rfl, rfl⟩) trivial ?_
      intro c297 a w hs hw
      have h298 := setM_len h295
      try have hs := hs.fix 6 (.slice (some ⟨b260, 0, none⟩) l296.length k142) rfl (by rw [h298])
      try have hs := hs.fix 35 (.slice (some ⟨b260, 0, none⟩) l296.length k142) rfl (by rw [h298])
      refine wpList_nil ?_
      refine blk_normal ?_
      refine then_normal ?_
      refine wp_region_lit ?_
      refine st_val hs (y_add rfl rfl) trivial rfl rfl fun a hs => ?_
      refine st_val hs (y_move rfl) trivial rfl rfl fun a hs => ?_
      refine wpList_nil ?_
      refine then_normal ?_
      exact ⟨_, (Option.some.inj hsh).symm, c297, (some ⟨b260, 0, none⟩), k142, Sv143, (hs.wk rfl), (hw.ft [0] [0] (by decide) rfl rfl)⟩
     ·have hsh := ite_f hsh h202
      refine wp_exit ?_
      refine then_exit ?_
      refine then_exit ?_
      refine blk_exit ?_
      have hsh := Option.some.inj hsh
      subst hsh
      have h299 := hd193 _ rfl
      subst h299
      refine then_normal ?_
      exact ⟨c140, p141, k142, Sv143, (hs.wk rfl), (hw.ft [0] [0] (by decide) rfl rfl)⟩
    ·rintro a w ⟨c197, p198, k199, Sv200, hs, hw⟩
     refine then_normal ?_
     refine wp_seq ?_
     refine wp_region_lit ?_
     refine st_val hs (y_move rfl) trivial rfl rfl fun a hs => ?_
     refine st_val hs (y_assign rfl) trivial rfl rfl fun a hs => ?_
     refine st_val hs (y_assign rfl) trivial rfl rfl fun a hs => ?_
     refine wpList_nil ?_
     refine then_normal ?_
     have hsh := Option.some.inj hsh
     subst hsh
     refine wp_ret ?_
     exact ret2 hs rfl (rv_tmp rfl) (rv_tmp rfl) (hw.ret ⟨p198, k199, c197, rfl, (hw.outs [0] (by decide) rfl), (hw.envAt 0 rfl)⟩)

abbrev ref01_In_rd (w0 : World) (X : List Nat) (r : Bool) : (Nat → Prop) → World → Value → Prop := fun S w v => v = .bool r
set_option maxHeartbeats 4000000 in
set_option maxRecDepth 100000 in
theorem ref01_In_ok {w0 : World} {S0 : Nat → Prop} {n1 : Int} {lo2 : Int} {hi3 : Int} {r : Bool} (hsh : ref01_In n1 lo2 hi3 = some r) (hS : ∀ b, S0 b → b < w0.heap.size) : Calls Try.prog 44 #[.int .i64 n1, .int .i64 lo2, .int .i64 hi3] w0 (Ret ([]) w0 S0 (ref01_In_rd w0 ([]) r)) := by
 refine calls_of_wp Try.func44 rfl ?_
 have hs := Sl.enter #[.int .i64 n1, .int .i64 lo2, .int .i64 hi3] 15 [(0, .int .i64 n1), (1, .int .i64 lo2), (2, .int .i64 hi3)] rfl ⟨rfl, rfl, rfl, trivial⟩
 have hw := Wd.enter (E := []) hS (fun _ h => (by cases h))
 delta ref01_In at hsh
 refine wp_seq ?_
 refine wp_region_lit ?_
 refine st_val hs (y_assign rfl) trivial rfl rfl fun a hs => ?_
 refine wpList_nil ?_
 refine then_normal ?_
 refine wp_seq ?_
 refine wp_region_lit ?_
 refine st_val hs (y_move rfl) trivial rfl rfl fun a hs => ?_
 refine st_val hs (y_move rfl) trivial rfl rfl fun a hs => ?_
 refine st_val hs (y_geq rfl rfl) trivial rfl rfl fun a hs => ?_
 refine st_val hs (y_move rfl) trivial rfl rfl fun a hs => ?_
 refine wpl_join 4 (fun a w1 => w0 = w1 ∧ Sl 15 [(14, .bool ((decide (lo2 ≤ n1)) && (decide (n1 ≤ hi3))))] a) ?_ ?_
 ·rcases Bool.eq_false_or_eq_true (decide (lo2 ≤ n1)) with h4 | h4
  ·have hs := hs.fix 10 (.bool true) rfl (vb h4)
   refine st_val hs (y_move rfl) ⟨_, rfl, rfl⟩ rfl rfl fun a hs => ?_
   refine st_val hs (y_move rfl) ⟨_, rfl, rfl⟩ rfl rfl fun a hs => ?_
   refine st_val hs (y_leq rfl rfl) ⟨_, rfl, rfl⟩ rfl rfl fun a hs => ?_
   refine st_val hs (y_pickT rfl rfl) trivial rfl rfl fun a hs => ?_
   refine wpList_nil ?_
   refine then_normal ?_
   exact ⟨rfl, (hs.fix 14 (.bool ((decide (lo2 ≤ n1)) && (decide (n1 ≤ hi3)))) rfl (and_t h4)).weaken _ ⟨rfl, trivial⟩⟩
  ·have hs := hs.fix 10 (.bool false) rfl (vb h4)
   refine st_skip hs rfl rfl rfl rfl rfl fun a hs => ?_
   refine st_skip hs rfl rfl rfl rfl rfl fun a hs => ?_
   refine st_skip hs rfl rfl rfl rfl rfl fun a hs => ?_
   refine st_val hs (y_pickF rfl rfl) trivial rfl rfl fun a hs => ?_
   refine wpList_nil ?_
   refine then_normal ?_
   exact ⟨rfl, (hs.fix 14 (.bool ((decide (lo2 ≤ n1)) && (decide (n1 ≤ hi3)))) rfl (and_f h4)).weaken _ ⟨rfl, trivial⟩⟩
 ·rintro a w1 ⟨h5, hs⟩
  subst h5
  refine st_val hs (y_assign rfl) trivial rfl rfl fun a hs => ?_
  refine wpList_nil ?_
  refine then_normal ?_
  have hsh := Option.some.inj hsh
  subst hsh
  refine wp_ret ?_
  exact ret1 hs rfl (rv_tmp rfl) (hw.ret rfl)

abbrev ref08_near_rd (w0 : World) (X : List Nat) (r : Bool) : (Nat → Prop) → World → Value → Prop := fun S w v => v = .bool r
set_option maxHeartbeats 4000000 in
set_option maxRecDepth 100000 in
theorem ref08_near_ok {w0 : World} {S0 : Nat → Prop} {p2 : Option Addr} {k3 : Nat} {l1 : (List Span)} {r : Bool} (hsh : ref08_near l1 = some r) (hS : ∀ b, S0 b → b < w0.heap.size) (h4 : (SlA p2 l1.length k3 l1).p S0 w0) : Calls Try.prog 45 #[.slice p2 l1.length k3] w0 (Ret ([]) w0 S0 (ref08_near_rd w0 ([]) r)) := by
 refine calls_of_wp Try.func45 rfl ?_
 have hs := Sl.enter #[.slice p2 l1.length k3] 26 [(0, .slice p2 l1.length k3)] rfl ⟨rfl, trivial⟩
 have hw := Wd.enter (E := []) hS (fun _ h => (by cases h))
 have hw := hw.addE h4
 delta ref08_near at hsh
 refine wp_seq ?_
 refine wp_region_lit ?_
 refine st_val hs (y_assign rfl) trivial rfl rfl fun a hs => ?_
 refine wpList_nil ?_
 refine then_normal ?_
 refine wp_seq ?_
 refine wp_seq ?_
 refine wp_region_lit ?_
 refine st_val hs (y_assign rfl) trivial rfl rfl fun a hs => ?_
 refine wpList_nil ?_
 refine then_normal ?_
 refine wp_block ?_
 refine wp_while (fun sv181 a w => ∃ (Sv297 : Nat → Prop), Sl 26 [(0, .slice p2 l1.length k3), (3, .int .i64 sv181)] a ∧ Wd ⟨w0, S0, []⟩ Sv297 [] [SlA p2 l1.length k3 l1] w) 0 hsh ⟨S0, (hs.wk rfl), (hw.ft [] [0] (by decide) rfl rfl)⟩ ?_
 repeat clear hsh
 rintro sv181 a w tv356 ⟨Sv297, hs, hw⟩ hsh hd355
 delta ref08_near_l2 at hsh
 refine wp_seq ?_
 refine wp_seq ?_
 refine wp_region_lit ?_
 refine st_val hs (y_move rfl) trivial rfl rfl fun a hs => ?_
 refine st_val hs (y_move rfl) trivial rfl rfl fun a hs => ?_
 refine st_val hs (y_len Try.runUnderlying25 rfl) trivial rfl rfl fun a hs => ?_
 refine st_val hs (y_lss rfl rfl) trivial rfl rfl fun a hs => ?_
 refine wpList_nil ?_
 refine then_normal ?_
 refine wp_cond_split (hs.ev rfl) (fun h360 => ?_) (fun h360 => ?_)
 ·have hsh := ite_t hsh h360
  refine wp_skip ?_
  refine then_normal ?_
  refine wp_seq ?_
  refine wp_block ?_
  refine wp_seq ?_
  refine wp_region_lit ?_
  refine st_val hs (y_move rfl) trivial rfl rfl fun a hs => ?_
  refine st_val hs (y_move rfl) trivial rfl rfl fun a hs => ?_
  obtain ⟨x417, h415, hsh⟩ := bind_t hsh
  obtain ⟨b423, o424, q421, c422, h425, h418, h419, h420, h416⟩ := hw.elemV 0 rfl h415
  have hsv426 := hs
  have hwv427 := hw
  subst h425
  have hs := hsv426
  have hw := hwv427
  obtain ⟨_, _, rfl, rfl, rfl⟩ := h416
  have hw := hw.addE h420
  refine st_val hs (y_indexAt Try.runUnderlying25 Try.sizeOf34 rfl rfl h418.1 h418.2 h419) trivial rfl rfl fun a hs => ?_
  refine st_val hs (y_fieldAddr (o' := q421 + 0) Try.runUnderlying34 rfl Try.sizeOf3 rfl rfl rfl) trivial rfl rfl fun a hs => ?_
  refine st_val hs (y_loadE1 (j := 0) (hw.ceAt 0 rfl) rfl Try.isAgg3 rfl) trivial rfl rfl fun a hs => ?_
  obtain ⟨rv429, h428, hsh⟩ := bind_t hsh
  refine st_callR hs (ref01_In_ok h428 hw.bdom) (do_call Try.call44 rfl) trivial rfl rfl ?_
  intro v433 Sv430 w a h431 h432 hs
  subst h432
  have hw := hw.callB h431
  refine st_val hs (y_not rfl) trivial rfl rfl fun a hs => ?_
  refine st_val hs (y_move rfl) trivial rfl rfl fun a hs => ?_
  obtain ⟨c451, hc451, hsh⟩ := bind_t hsh
  refine wpl_join 8 (fun a w => ∃ (Sv452 : Nat → Prop), Sl 26 [(0, .slice (some ⟨b423, o424, none⟩) l1.length k3), (3, .int .i64 sv181), (25, .bool c451)] a ∧ Wd ⟨w0, S0, []⟩ Sv452 [] [SlA (some ⟨b423, o424, none⟩) l1.length k3 l1] w) ?_ ?_
  ·rcases Bool.eq_false_or_eq_true (!rv429) with h450 | h450
   ·have hs := hs.fix 17 (.bool true) rfl (vb h450)
    have hsh := ite_t hc451 h450
    refine st_skip hs rfl rfl rfl rfl rfl fun a hs => ?_
    refine st_skip hs rfl rfl rfl rfl rfl fun a hs => ?_
    refine st_skip hs rfl rfl rfl rfl rfl fun a hs => ?_
    refine st_skip hs rfl rfl rfl rfl rfl fun a hs => ?_
    refine st_skip hs rfl rfl rfl rfl rfl fun a hs => ?_
    refine st_skip hs rfl rfl rfl rfl rfl fun a hs => ?_
    refine st_skip hs rfl rfl rfl rfl rfl fun a hs => ?_
    refine st_val hs (y_pickT rfl rfl) trivial rfl rfl fun a hs => ?_
    refine wpList_nil ?_
    have hsh := Option.some.inj hsh
    subst hsh
    refine then_normal ?_
    exact ⟨Sv297, (hs.wk rfl), (hw.ft [] [1] (by decide) rfl rfl)⟩
   ·have hs := hs.fix 17 (.bool false) rfl (vb h450)
    have hsh := ite_f hc451 h450
    refine st_val hs (y_move rfl) ⟨_, rfl, rfl⟩ rfl rfl fun a hs => ?_
    refine st_val hs (y_move rfl) ⟨_, rfl, rfl⟩ rfl rfl fun a hs => ?_
    obtain ⟨x455, h453, hsh⟩ := bind_t hsh
    obtain ⟨q459, c460, h456, h457, h458, h454⟩ := hw.elemK 1 rfl h453
    obtain ⟨_, _, rfl, rfl, rfl⟩ := h454
    have hw := hw.addE h458
    refine st_val hs (y_indexAt Try.runUnderlying25 Try.sizeOf34 rfl rfl h456.1 h456.2 h457) ⟨_, rfl, rfl⟩ rfl rfl fun a hs => ?_
    refine st_val hs (y_fieldAddr (o' := q459 + 1) Try.runUnderlying34 rfl Try.sizeOf3 rfl rfl rfl) ⟨_, rfl, rfl⟩ rfl rfl fun a hs => ?_
    refine st_val hs (y_loadE1 (j := 1) (hw.ceAt 0 rfl) rfl Try.isAgg3 rfl) ⟨_, rfl, rfl⟩ rfl rfl fun a hs => ?_
    obtain ⟨rv462, h461, hsh⟩ := bind_t hsh
    refine st_callR hs (ref01_In_ok h461 hw.bdom) (do_call Try.call44 rfl) ⟨_, rfl, rfl⟩ rfl rfl ?_
    intro v466 Sv463 w a h464 h465 hs
    subst h465
    have hw := hw.callB h464
    refine st_val hs (y_not rfl) ⟨_, rfl, rfl⟩ rfl rfl fun a hs => ?_
    refine st_val hs (y_pickF rfl rfl) trivial rfl rfl fun a hs => ?_
    refine wpList_nil ?_
    have hsh := Option.some.inj hsh
    subst hsh
    refine then_normal ?_
    exact ⟨Sv297, (hs.wk rfl), (hw.ft [] [2] (by decide) rfl rfl)⟩
  ·rintro a w ⟨Sv452, hs, hw⟩
   refine wpList_nil ?_
   refine then_normal ?_
   refine wp_cond_split (hs.ev rfl) (fun h469 => ?_) (fun h469 => ?_)
   ·have hsh := ite_t hsh h469
    refine wp_seq ?_
    refine wp_region_lit ?_
    refine st_val hs (y_assign rfl) trivial rfl rfl fun a hs => ?_
    refine wpList_nil ?_
    refine then_normal ?_
    have hsh := Option.some.inj hsh
    subst hsh
    have h470 := hd355 _ rfl
    subst h470
    refine wp_ret ?_
    refine blk_ret ?_
    refine then_ret ?_
    refine then_ret ?_
    refine blk_ret ?_
    refine then_ret ?_
    exact ret1 hs rfl (rv_tmp rfl) (hw.ret rfl)
   ·have hsh := ite_f hsh h469
    refine wp_skip ?_
    refine blk_normal ?_
    refine then_normal ?_
    refine wp_region_lit ?_
    refine st_val hs (y_move rfl) trivial rfl rfl fun a hs => ?_
    refine st_val hs (y_add rfl rfl) trivial rfl rfl fun a hs => ?_
    obtain ⟨i472, h471, hsh⟩ := bind_t hsh
    refine st_val hs (y_assignI rfl h471) trivial rfl rfl fun a hs => ?_
    refine wpList_nil ?_
    refine then_normal ?_
    exact ⟨_, (Option.some.inj hsh).symm, Sv452, (hs.wk rfl), (hw.ft [] [0] (by decide) rfl rfl)⟩
 ·have hsh := ite_f hsh h360
  obtain ⟨rv473, hsh, h474⟩ := map_t hsh
  have h474 := (hd355 _ h474.symm).symm
  subst h474
  refine wp_exit ?_
  refine then_exit ?_
  refine then_exit ?_
  refine blk_exit ?_
  refine then_normal ?_
  refine wp_seq ?_
  refine wp_region_lit ?_
  refine st_val hs (y_assign rfl) trivial rfl rfl fun a hs => ?_
  refine wpList_nil ?_
  refine then_normal ?_
  have hsh := Option.some.inj hsh
  subst hsh
  refine wp_ret ?_
  exact ret1 hs rfl (rv_tmp rfl) (hw.ret rfl)

abbrev ref08_Shift_rd (w0 : World) (X : List Nat) (r : ((List Span) × Int)) : (Nat → Prop) → World → Value → Prop := fun S w v => ∃ (p0_0 : Option Addr) (k0_0 : Nat) (c0_0 : List Value), v = .tuple #[.slice p0_0 r.1.length k0_0, .int .i64 r.2] ∧ Outs X w0 S w [.row p0_0 r.1.length k0_0 c0_0 34 2] ∧ (RowA c0_0 r.1).p S w
set_option maxHeartbeats 4000000 in
set_option maxRecDepth 100000 in
theorem ref08_Shift_ok {w0 : World} {S0 : Nat → Prop} {p2 : Option Addr} {k3 : Nat} {l1 : (List Span)} {by5 : Int} {r : ((List Span) × Int)} (hsh : ref08_Shift l1 by5 = some r) (hS : ∀ b, S0 b → b < w0.heap.size) (h4 : (SlA p2 l1.length k3 l1).p S0 w0) : Calls Try.prog 31 #[.slice p2 l1.length k3, .int .i64 by5] w0 (Ret ([]) w0 S0 (ref08_Shift_rd w0 ([]) r)) := by
 refine calls_of_wp Try.func31 rfl ?_
 have hs := Sl.enter #[.slice p2 l1.length k3, .int .i64 by5] 47 [(0, .slice p2 l1.length k3), (1, .int .i64 by5)] rfl ⟨rfl, rfl, trivial⟩
 have hw := Wd.enter (E := []) hS (fun _ h => (by cases h))
 have hw := hw.addE h4
 delta ref08_Shift at hsh
 refine wp_seq ?_
 refine wp_region_lit ?_
 refine st_val hs (y_assign rfl) trivial rfl rfl fun a hs => ?_
 refine st_val hs (y_assign rfl) trivial rfl rfl fun a hs => ?_
 refine wpList_nil ?_
 refine then_normal ?_
 refine wp_seq ?_
 refine wp_region_lit ?_
 refine st_val hs (y_move rfl) trivial rfl rfl fun a hs => ?_
 obtain ⟨rv7, h6, hsh⟩ := bind_t hsh
 refine st_callR hs (ref08_Normal_ok h6 hw.dom (hw.envAt 0 rfl)) (do_call Try.call26 rfl) trivial rfl rfl ?_
 intro v15 Sv12 w a h13 h14 hs
 obtain ⟨p8, k9, c11, rfl, h16, h10⟩ := h14
 have hw := hw.callN h13 h16
 have hw := hw.addE (e := RowA c11 rv7) h10
 refine st_val hs (y_assign rfl) trivial rfl rfl fun a hs => ?_
 refine wpList_nil ?_
 refine then_normal ?_
 refine wp_seq ?_
 refine wp_seq ?_
 refine wp_region_lit ?_
 refine st_val hs (y_move rfl) trivial rfl rfl fun a hs => ?_
 obtain ⟨rv18, h17, hsh⟩ := bind_t hsh
 refine st_callR hs (ref01_In_ok h17 hw.bdom) (do_call Try.call44 rfl) trivial rfl rfl ?_
 intro v22 Sv19 w a h20 h21 hs
 subst h21
 have hw := hw.callB h20
 refine st_val hs (y_not rfl) trivial rfl rfl fun a hs => ?_
 refine st_val hs (y_move rfl) trivial rfl rfl fun a hs => ?_
 obtain ⟨c32, hc32, hsh⟩ := bind_t hsh
 refine wpl_join 4 (fun a w => ∃ (Sv33 : Nat → Prop), Sl 47 [(1, .int .i64 by5), (6, .slice p8 rv7.length k9), (17, .bool c32)] a ∧ Wd ⟨w0, S0, []⟩ Sv33 [.row p8 rv7.length k9 c11 34 2] [RowA c11 rv7] w) ?_ ?_
 ·rcases Bool.eq_false_or_eq_true (!rv18) with h31 | h31
  ·have hs := hs.fix 13 (.bool true) rfl (vb h31)
   have hsh := ite_t hc32 h31
   refine st_skip hs rfl rfl rfl rfl rfl fun a hs => ?_
   refine st_skip hs rfl rfl rfl rfl rfl fun a hs => ?_
   refine st_skip hs rfl rfl rfl rfl rfl fun a hs => ?_
   refine st_val hs (y_pickT rfl rfl) trivial rfl rfl fun a hs => ?_
   refine wpList_nil ?_
   have hsh := Option.some.inj hsh
   subst hsh
   refine then_normal ?_
   exact ⟨Sv12, (hs.wk rfl), (hw.ft [0] [0] (by decide) rfl rfl)⟩
  ·have hs := hs.fix 13 (.bool false) rfl (vb h31)
   have hsh := ite_f hc32 h31
   refine st_val hs (y_move rfl) ⟨_, rfl, rfl⟩ rfl rfl fun a hs => ?_
   obtain ⟨rv35, h34, hsh⟩ := bind_t hsh
   refine st_callR hs (ref08_near_ok h34 hw.bdom (hw.bRow 0 rfl 0 rfl)) (do_call Try.call45 rfl) ⟨_, rfl, rfl⟩ rfl rfl ?_
   intro v39 Sv36 w a h37 h38 hs
   subst h38
   have hw := hw.callB h37
   refine st_val hs (y_not rfl) ⟨_, rfl, rfl⟩ rfl rfl fun a hs => ?_
   refine st_val hs (y_pickF rfl rfl) trivial rfl rfl fun a hs => ?_
   refine wpList_nil ?_
   have hsh := Option.some.inj hsh
   subst hsh
   refine then_normal ?_
   exact ⟨Sv12, (hs.wk rfl), (hw.ft [0] [0] (by decide) rfl rfl)⟩
 ·rintro a w ⟨Sv33, hs, hw⟩
  refine wpList_nil ?_
  refine then_normal ?_
  refine wp_cond_split (hs.ev rfl) (fun h42 => ?_) (fun h42 => ?_)
  ·have hsh := ite_t hsh h42
   refine wp_seq ?_
   refine wp_region_lit ?_
   refine st_val hs (y_assign rfl) trivial rfl rfl fun a hs => ?_
   refine st_val hs (y_assign rfl) trivial rfl rfl fun a hs => ?_
   refine wpList_nil ?_
   refine then_normal ?_
   have hsh := Option.some.inj hsh
   subst hsh
   have hw := hw.nilRow Span 34
   refine wp_ret ?_
   refine then_ret ?_
   exact ret2 hs rfl (rv_tmp rfl) (rv_tmp rfl) (hw.ret ⟨none, 0, [], rfl, (hw.outs [0] (by decide) rfl), (hw.envAt 0 rfl)⟩)
  ·have hsh := ite_f hsh h42
   refine wp_skip ?_
   refine then_normal ?_
   refine wp_seq ?_
   refine wp_seq ?_
   refine wp_region_lit ?_
   refine st_val hs (y_assign rfl) trivial rfl rfl fun a hs => ?_
   refine wpList_nil ?_
   refine then_normal ?_
   obtain ⟨e211, h319, hsh⟩ := bind_t hsh
   refine wp_join (fun a w => ∃ (c212 : List Value) (p213 : Option Addr) (k214 : Nat) (Sv215 : Nat → Prop), Sl 47 [(6, .slice p213 e211.length k214)] a ∧ Wd ⟨w0, S0, []⟩ Sv215 [.row p213 e211.length k214 c212 34 2] [RowA c212 e211] w) ?_ ?_
   ·refine wp_block ?_
    refine wp_while (fun sv43 a w => ∃ (c152 : List Value) (p153 : Option Addr) (k154 : Nat) (Sv155 : Nat → Prop), Sl 47 [(1, .int .i64 by5), (6, .slice p153 sv43.1.length k154), (7, .int .i64 sv43.2)] a ∧ Wd ⟨w0, S0, []⟩ Sv155 [.row p153 sv43.1.length k154 c152 34 2] [RowA c152 sv43.1] w) (rv7, 0) h319 ⟨c11, p8, k9, Sv33, (hs.wk rfl), (hw.ft [0] [0] (by decide) rfl rfl)⟩ ?_
    clear h319
    repeat clear hsh
    rintro sv43 a w tv209 ⟨c152, p153, k154, Sv155, hs, hw⟩ hsh hd208
    delta ref08_Shift_l1 at hsh
    refine wp_seq ?_
    refine wp_seq ?_
    refine wp_region_lit ?_
    refine st_val hs (y_move rfl) trivial rfl rfl fun a hs => ?_
    refine st_val hs (y_move rfl) trivial rfl rfl fun a hs => ?_
    refine st_val hs (y_len Try.runUnderlying25 rfl) trivial rfl rfl fun a hs => ?_
    refine st_val hs (y_lss rfl rfl) trivial rfl rfl fun a hs => ?_
    refine wpList_nil ?_
    refine then_normal ?_
    refine wp_cond_split (hs.ev rfl) (fun h217 => ?_) (fun h217 => ?_)
    ·have hsh := ite_t hsh h217
     refine wp_skip ?_
     refine then_normal ?_
     refine wp_seq ?_
     refine wp_block ?_
     obtain ⟨x269, h267, hsh⟩ := bind_t hsh
     obtain ⟨b276, q273, c274, h277, h270, h271, h275, h268⟩ := hw.elemRV (α := Span) 0 rfl 0 rfl h267
     have hsv278 := hs
     have hwv279 := hw
     subst h277
     have hs := hsv278
     have hw := hwv279
     obtain ⟨_, _, rfl, rfl, rfl⟩ := h268
     obtain ⟨x282, h280, hsh⟩ := bind_t hsh
     obtain ⟨q286, c287, h283, h284, h288, h281⟩ := hw.elemRK (α := Span) 0 rfl 0 rfl h280
     obtain ⟨_, _, rfl, rfl, rfl⟩ := h281
     obtain ⟨x291, h289, hsh⟩ := bind_t hsh
     obtain ⟨q295, c296, h292, h293, h297, h290⟩ := hw.elemRK (α := Span) 0 rfl 0 rfl h289
     obtain ⟨_, _, rfl, rfl, rfl⟩ := h290
     obtain ⟨l299, h298, hsh⟩ := bind_t hsh
     obtain ⟨x304, h302, hsh⟩ := bind_t hsh
     obtain ⟨l312, h311, hsh⟩ := bind_t hsh
     refine wp_only (fun a w => ∃ (Sv315 : Nat → Prop) (c313 : List Value), Sl 47 [(1, .int .i64 by5), (6, .slice (some ⟨b276, 0, none⟩) l312.length k154), (7, .int .i64 sv43.2)] a ∧ Wd ⟨w0, S0, []⟩ Sv315 [.row (some ⟨b276, 0, none⟩) l312.length k154 c313 34 2] [RowA c313 l312] w) ?_ ?_
     ·refine h_b (C := Cls [] []) (by kernel_rfl) rfl (hw.drew.cs [] [] rfl rfl) fun hC => ?_
      have hw := hw.drew
      refine h_g hs 0 rfl (by kernel_rfl) rfl rfl hC rfl (fun w hC => y_move rfl) fun a hs => ?_
      refine h_g hs 1 rfl (by kernel_rfl) rfl rfl hC rfl (fun w hC => y_move rfl) fun a hs => ?_
      refine h_g hs 2 rfl (by kernel_rfl) rfl rfl hC rfl (fun w hC => y_move rfl) fun a hs => ?_
      refine h_g hs 3 rfl (by kernel_rfl) rfl rfl hC rfl (fun w hC => y_move rfl) fun a hs => ?_
      refine h_g hs 4 rfl (by kernel_rfl) rfl rfl hC rfl (fun w hC => y_move rfl) fun a hs => ?_
      refine h_g hs 5 rfl (by kernel_rfl) rfl rfl hC rfl (fun w hC => y_move rfl) fun a hs => ?_
      refine h_g hs 6 rfl (by kernel_rfl) rfl rfl hC rfl (fun w hC => y_indexAt Try.runUnderlying25 Try.sizeOf34 rfl rfl h270.1 h270.2 h271) fun a hs => ?_
      refine h_g hs 7 rfl (by kernel_rfl) rfl rfl hC rfl (fun w hC => y_fieldAddr (o' := q273 + 0) Try.runUnderlying34 rfl Try.sizeOf3 rfl rfl rfl) fun a hs => ?_
      refine h_g hs 9 rfl (by kernel_rfl) rfl rfl hC rfl (fun w hC => y_move rfl) fun a hs => ?_
      refine h_g hs 11 rfl (by kernel_rfl) rfl rfl hC rfl (fun w hC => y_move rfl) fun a hs => ?_
      refine h_g hs 12 rfl (by kernel_rfl) rfl rfl hC rfl (fun w hC => y_move rfl) fun a hs => ?_
      refine h_g hs 13 rfl (by kernel_rfl) rfl rfl hC rfl (fun w hC => y_indexAt Try.runUnderlying25 Try.sizeOf34 rfl rfl h283.1 h283.2 h284) fun a hs => ?_
      refine h_g hs 14 rfl (by kernel_rfl) rfl rfl hC rfl (fun w hC => y_fieldAddr (o' := q286 + 1) Try.runUnderlying34 rfl Try.sizeOf3 rfl rfl rfl) fun a hs => ?_
      refine h_g hs 16 rfl (by kernel_rfl) rfl rfl hC rfl (fun w hC => y_move rfl) fun a hs => ?_
      refine h_all (rs := [8, 15]) (by kernel_rfl) rfl ?_
      refine AllH.cons rfl ?_ ?_
      ·refine st_val hs (y_loadQ1 (j := 0) (hw.ownAt 0 rfl) rfl Try.isAgg3 h275 rfl) trivial rfl rfl fun a hs => ?_
       refine h_nx (hw.cs [] [] rfl rfl) fun hC => ?_
       refine h_g hs 10 rfl (by kernel_rfl) rfl rfl hC rfl (fun w hC => y_add rfl rfl) fun a hs => ?_
       refine h_one (i := 15) (by kernel_rfl) rfl ?_
       refine st_val hs (y_loadQ1 (j := 1) (hw.ownAt 0 rfl) rfl Try.isAgg3 h288 rfl) trivial rfl rfl fun a hs => ?_
       refine h_nx (hw.cs [] [] rfl rfl) fun hC => ?_
       refine h_g hs 17 rfl (by kernel_rfl) rfl rfl hC rfl (fun w hC => y_add rfl rfl) fun a hs => ?_
       refine h_g hs 18 rfl (by kernel_rfl) rfl rfl hC rfl (fun w hC => y_indexAt Try.runUnderlying25 Try.sizeOf34 rfl rfl h292.1 h292.2 h293) fun a hs => ?_
       refine h_g hs 19 rfl (by kernel_rfl) rfl rfl hC rfl (fun w hC => y_fieldAddr (o' := q295 + 0) Try.runUnderlying34 rfl Try.sizeOf3 rfl rfl rfl) fun a hs => ?_
       refine h_one (i := 20) (by kernel_rfl) rfl ?_
       refine w_storeR (α := Span) (f := 0) (m := 1) hs hw 0 rfl 0 rfl h293 rfl rfl Try.sizeOf3 rfl rfl rfl h298 (fun es he => by rw [h297] at he; subst he; exact ⟨_, _, rfl, rfl, rfl⟩) trivial ?_
       intro c300 a w hs hw
       have h301 := setM_len h298
       try have hs := hs.fix 6 (.slice (some ⟨b276, 0, none⟩) l299.length k154) rfl (by rw [h301])
       try have hs := hs.fix 24 (.slice (some ⟨b276, 0, none⟩) l299.length k154) rfl (by rw [h301])
       try have hs := hs.fix 26 (.slice (some ⟨b276, 0, none⟩) l299.length k154) rfl (by rw [h301])
       try have hs := hs.fix 28 (.slice (some ⟨b276, 0, none⟩) l299.length k154) rfl (by rw [h301])
       try have hs := hs.fix 35 (.slice (some ⟨b276, 0, none⟩) l299.length k154) rfl (by rw [h301])
       refine h_nx (hw.cs [] [] rfl rfl) fun hC => ?_
       refine h_one (i := 21) (by kernel_rfl) rfl ?_
       obtain ⟨c309, h305, h310, h303⟩ := hw.elemRX (α := Span) 0 rfl 0 rfl h302
       obtain ⟨_, _, rfl, rfl, rfl⟩ := h303
       refine st_val hs (y_indexAt Try.runUnderlying25 Try.sizeOf34 rfl rfl h305.1 h305.2 rfl) trivial rfl rfl fun a hs => ?_
       refine h_nx (hw.cs [] [] rfl rfl) fun hC => ?_
       refine h_g hs 22 rfl (by kernel_rfl) rfl rfl hC rfl (fun w hC => y_fieldAddr (o' := (0 + (sv43.2).toNat * 2) + 1) Try.runUnderlying34 rfl Try.sizeOf3 rfl rfl rfl) fun a hs => ?_
       refine h_one (i := 23) (by kernel_rfl) rfl ?_
       refine w_storeR (α := Span) (f := 1) (m := 1) hs hw 0 rfl 0 rfl rfl rfl rfl Try.sizeOf3 rfl rfl rfl h311 (fun es he => by rw [h310] at he; subst he; exact ⟨_, _, rfl, rfl, rfl⟩) trivial ?_
       intro c313 a w hs hw
       have h314 := setM_len h311
       try have hs := hs.fix 6 (.slice (some ⟨b276, 0, none⟩) l312.length k154) rfl (by rw [h314])
       try have hs := hs.fix 24 (.slice (some ⟨b276, 0, none⟩) l312.length k154) rfl (by rw [h314])
       try have hs := hs.fix 26 (.slice (some ⟨b276, 0, none⟩) l312.length k154) rfl (by rw [h314])
       try have hs := hs.fix 28 (.slice (some ⟨b276, 0, none⟩) l312.length k154) rfl (by rw [h314])
       try have hs := hs.fix 35 (.slice (some ⟨b276, 0, none⟩) l312.length k154) rfl (by rw [h314])
       refine h_nx (hw.cs [] [] rfl rfl) fun hC => ?_
       refine h_done (by kernel_rfl) ?_
       exact ⟨Sv155, c313, (hs.wk rfl), (hw.ft [0] [0] (by decide) rfl rfl)⟩
      refine AllH.cons rfl ?_ ?_
      ·refine st_val hs (y_loadQ1 (j := 1) (hw.ownAt 0 rfl) rfl Try.isAgg3 h288 rfl) trivial rfl rfl fun a hs => ?_
       refine h_nx (hw.cs [] [] rfl rfl) fun hC => ?_
       refine h_g hs 17 rfl (by kernel_rfl) rfl rfl hC rfl (fun w hC => y_add rfl rfl) fun a hs => ?_
       refine h_one (i := 8) (by kernel_rfl) rfl ?_
       refine st_val hs (y_loadQ1 (j := 0) (hw.ownAt 0 rfl) rfl Try.isAgg3 h275 rfl) trivial rfl rfl fun a hs => ?_
       refine h_nx (hw.cs [] [] rfl rfl) fun hC => ?_
       refine h_g hs 10 rfl (by kernel_rfl) rfl rfl hC rfl (fun w hC => y_add rfl rfl) fun a hs => ?_
       refine h_g hs 18 rfl (by kernel_rfl) rfl rfl hC rfl (fun w hC => y_indexAt Try.runUnderlying25 Try.sizeOf34 rfl rfl h292.1 h292.2 h293) fun a hs => ?_
       refine h_g hs 19 rfl (by kernel_rfl) rfl rfl hC rfl (fun w hC => y_fieldAddr (o' := q295 + 0) Try.runUnderlying34 rfl Try.sizeOf3 rfl rfl rfl) fun a hs => ?_
       refine h_one (i := 20) (by kernel_rfl) rfl ?_
       refine w_storeR (α := Span) (f := 0) (m := 1) hs hw 0 rfl 0 rfl h293 rfl rfl Try.sizeOf3 rfl rfl rfl h298 (fun es he => by rw [h297] at he; subst he; exact ⟨_, _, rfl, rfl, rfl⟩) trivial ?_
       intro c300 a w hs hw
       have h301 := setM_len h298
       try have hs := hs.fix 6 (.slice (some ⟨b276, 0, none⟩) l299.length k154) rfl (by rw [h301])
       try have hs := hs.fix 24 (.slice (some ⟨b276, 0, none⟩) l299.length k154) rfl (by rw [h301])
       try have hs := hs.fix 26 (.slice (some ⟨b276, 0, none⟩) l299.length k154) rfl (by rw [h301])
       try have hs := hs.fix 28 (.slice (some ⟨b276, 0, none⟩) l299.length k154) rfl (by rw [h301])
       try have hs := hs.fix 35 (.slice (some ⟨b276, 0, none⟩) l299.length k154) rfl (by rw [h301])
       refine h_nx (hw.cs [] [] rfl rfl) fun hC => ?_
       refine h_one (i := 21) (by kernel_rfl) rfl ?_
       obtain ⟨c309, h305, h310, h303⟩ := hw.elemRX (α := Span) 0 rfl 0 rfl h302
       obtain ⟨_, _, rfl, rfl, rfl⟩ := h303
       refine st_val hs (y_indexAt Try.runUnderlying25 Try.sizeOf34 rfl rfl h305.1 h305.2 rfl) trivial rfl rfl fun a hs => ?_
       refine h_nx (hw.cs [] [] rfl rfl) fun hC => ?_
       refine h_g hs 22 rfl (by kernel_rfl) rfl rfl hC rfl (fun w hC => y_fieldAddr (o' := (0 + (sv43.2).toNat * 2) + 1) Try.runUnderlying34 rfl Try.sizeOf3 rfl rfl rfl) fun a hs => ?_
       refine h_one (i := 23) (by kernel_rfl) rfl ?_
       refine w_storeR (α := Span) (f := 1) (m := 1) hs hw 0 rfl 0 rfl rfl rfl rfl Try.sizeOf3 rfl rfl rfl h311 (fun es he => by rw [h310] at he; subst he; exact ⟨_, _, rfl, rfl, rfl⟩) trivial ?_
       intro c313 a w hs hw
       have h314 := setM_len h311
       try have hs := hs.fix 6 (.slice (some ⟨b276, 0, none⟩) l312.length k154) rfl (by rw [h314])
       try have hs := hs.fix 24 (.slice (some ⟨b276, 0, none⟩) l312.length k154) rfl (by rw [h314])
       try have hs := hs.fix 26 (.slice (some ⟨b276, 0, none⟩) l312.length k154) rfl (by rw [h314])
       try have hs := hs.fix 28 (.slice (some ⟨b276, 0, none⟩) l312.length k154) rfl (by rw [h314])
       try have hs := hs.fix 35 (.slice (some ⟨b276, 0, none⟩) l312.length k154) rfl (by rw [h314])
       refine h_nx (hw.cs [] [] rfl rfl) fun hC => ?_
       refine h_done (by kernel_rfl) ?_
       exact ⟨Sv155, c313, (hs.wk rfl), (hw.ft [0] [0] (by decide) rfl rfl)⟩
      exact AllH.nil
     ·rintro a w ⟨Sv315, c313, hs, hw⟩
      refine blk_normal ?_
      refine then_normal ?_
      refine wp_region_lit ?_
      refine st_val hs (y_move rfl) trivial rfl rfl fun a hs => ?_
      refine st_val hs (y_add rfl rfl) trivial rfl rfl fun a hs => ?_
      obtain ⟨i317, h316, hsh⟩ := bind_t hsh
      refine st_val hs (y_assignI rfl h316) trivial rfl rfl fun a hs => ?_
      refine wpList_nil ?_
      refine then_normal ?_
      exact ⟨_, (Option.some.inj hsh).symm, c313, (some ⟨b276, 0, none⟩), k154, Sv315, (hs.wk rfl), (hw.ft [0] [0] (by decide) rfl rfl)⟩
    ·have hsh := ite_f hsh h217
     refine wp_exit ?_
     refine then_exit ?_
     refine then_exit ?_
     refine blk_exit ?_
     have hsh := Option.some.inj hsh
     subst hsh
     have h318 := hd208 _ rfl
     subst h318
     refine then_normal ?_
     exact ⟨c152, p153, k154, Sv155, (hs.wk rfl), (hw.ft [0] [0] (by decide) rfl rfl)⟩
   ·rintro a w ⟨c212, p213, k214, Sv215, hs, hw⟩
    refine then_normal ?_
    refine wp_seq ?_
    refine wp_region_lit ?_
    refine st_val hs (y_move rfl) trivial rfl rfl fun a hs => ?_
    refine st_val hs (y_assign rfl) trivial rfl rfl fun a hs => ?_
    refine st_val hs (y_assign rfl) trivial rfl rfl fun a hs => ?_
    refine wpList_nil ?_
    refine then_normal ?_
    have hsh := Option.some.inj hsh
    subst hsh
    refine wp_ret ?_
    exact ret2 hs rfl (rv_tmp rfl) (rv_tmp rfl) (hw.ret ⟨p213, k214, c212, rfl, (hw.outs [0] (by decide) rfl), (hw.envAt 0 rfl)⟩)

abbrev span_Length_rd (w0 : World) (X : List Nat) (r : (Int × Bool)) : (Nat → Prop) → World → Value → Prop := fun S w v => v = .tuple #[.int .i64 r.1, .bool r.2]
set_option maxHeartbeats 4000000 in
set_option maxRecDepth 100000 in
theorem span_Length_ok {w0 : World} {S0 : Nat → Prop} {p2 : Option Addr} {k3 : Nat} {l1 : (List Span)} {r : (Int × Bool)} (hsh : span_Length l1 = some r) (hS : ∀ b, S0 b → b < w0.heap.size) (h4 : (SlA p2 l1.length k3 l1).p S0 w0) : Calls Try.prog 11 #[.slice p2 l1.length k3] w0 (Ret ([]) w0 S0 (span_Length_rd w0 ([]) r)) := by
 refine calls_of_wp Try.func11 rfl ?_
 have hs := Sl.enter #[.slice p2 l1.length k3] 27 [(0, .slice p2 l1.length k3)] rfl ⟨rfl, trivial⟩
 have hw := Wd.enter (E := []) hS (fun _ h => (by cases h))
 have hw := hw.addE h4
 delta span_Length at hsh
 refine wp_seq ?_
 refine wp_region_lit ?_
 refine st_val hs (y_assign rfl) trivial rfl rfl fun a hs => ?_
 refine st_val hs (y_assign rfl) trivial rfl rfl fun a hs => ?_
 refine wpList_nil ?_
 refine then_normal ?_
 refine wp_seq ?_
 refine wp_region_lit ?_
 refine st_val hs (y_move rfl) trivial rfl rfl fun a hs => ?_
 obtain ⟨rv6, h5, hsh⟩ := bind_t hsh
 refine st_callR hs (span_Normal_ok h5 hw.dom (hw.envAt 0 rfl)) (do_call Try.call16 rfl) trivial rfl rfl ?_
 intro v14 Sv11 w a h12 h13 hs
 obtain ⟨p7, k8, c10, rfl, h15, h9⟩ := h13
 have hw := hw.callN h12 h15
 have hw := hw.addE (e := RowA c10 rv6) h9
 refine st_val hs (y_assign rfl) trivial rfl rfl fun a hs => ?_
 refine wpList_nil ?_
 refine then_normal ?_
 refine wp_seq ?_
 refine wp_seq ?_
 refine wp_region_lit ?_
 refine st_val hs (y_move rfl) trivial rfl rfl fun a hs => ?_
 obtain ⟨rv17, h16, hsh⟩ := bind_t hsh
 refine st_callR hs (span_near_ok h16 hw.bdom (hw.bRow 0 rfl 0 rfl)) (do_call Try.call33 rfl) trivial rfl rfl ?_
 intro v21 Sv18 w a h19 h20 hs
 subst h20
 have hw := hw.callB h19
 refine st_val hs (y_not rfl) trivial rfl rfl fun a hs => ?_
 refine wpList_nil ?_
 refine then_normal ?_
 refine wp_cond_split (hs.ev rfl) (fun h24 => ?_) (fun h24 => ?_)
 ·have hsh := ite_t hsh h24
  refine wp_seq ?_
  refine wp_region_lit ?_
  refine st_val hs (y_assign rfl) trivial rfl rfl fun a hs => ?_
  refine st_val hs (y_assign rfl) trivial rfl rfl fun a hs => ?_
  refine wpList_nil ?_
  refine then_normal ?_
  have hsh := Option.some.inj hsh
  subst hsh
  refine wp_ret ?_
  refine then_ret ?_
  exact ret2 hs rfl (rv_tmp rfl) (rv_tmp rfl) (hw.ret rfl)
 ·have hsh := ite_f hsh h24
  refine wp_skip ?_
  refine then_normal ?_
  refine wp_seq ?_
  refine wp_region_lit ?_
  refine st_val hs (y_assign rfl) trivial rfl rfl fun a hs => ?_
  refine wpList_nil ?_
  refine then_normal ?_
  refine wp_seq ?_
  refine wp_seq ?_
  refine wp_region_lit ?_
  refine st_val hs (y_move rfl) trivial rfl rfl fun a hs => ?_
  refine st_val hs (y_len Try.runUnderlying25 rfl) trivial rfl rfl fun a hs => ?_
  refine st_val hs (y_move rfl) trivial rfl rfl fun a hs => ?_
  refine wpList_nil ?_
  refine then_normal ?_
  obtain ⟨e82, h119, hsh⟩ := bind_t hsh
  refine wp_join (fun a w => ∃ (Sv83 : Nat → Prop), Sl 27 [(4, .int .i64 e82)] a ∧ Wd ⟨w0, S0, []⟩ Sv83 [] [] w) ?_ ?_
  ·refine wp_block ?_
   refine wp_while (fun sv25 a w => ∃ (Sv61 : Nat → Prop), Sl 27 [(4, .int .i64 sv25.1), (12, .slice p7 rv6.length k8), (13, .int .i64 (rv6.length : Int)), (14, .int .i64 sv25.2)] a ∧ Wd ⟨w0, S0, []⟩ Sv61 [.row p7 rv6.length k8 c10 34 2] [RowA c10 rv6] w) (0, 0) h119 ⟨Sv11, (hs.wk rfl), (hw.ft [0] [0] (by decide) rfl rfl)⟩ ?_
   clear h119
   repeat clear hsh
   rintro sv25 a w tv80 ⟨Sv61, hs, hw⟩ hsh hd79
   delta span_Length_l1 at hsh
   refine wp_seq ?_
   refine wp_region_lit ?_
   refine st_val hs (y_lss rfl rfl) trivial rfl rfl fun a hs => ?_
   refine wpList_nil ?_
   refine then_normal ?_
   refine wp_seq ?_
   refine wp_cond_split (hs.ev rfl) (fun h85 => ?_) (fun h85 => ?_)
   ·have hsh := ite_t hsh h85
    refine wp_skip ?_
    refine then_normal ?_
    refine wp_seq ?_
    refine wp_block ?_
    refine wp_seq ?_
    refine wp_region_lit ?_
    obtain ⟨x104, h102, hsh⟩ := bind_t hsh
    obtain ⟨b111, q108, c109, h112, h105, h106, h110, h103⟩ := hw.elemRV (α := Span) 0 rfl 0 rfl h102
    have hsv113 := hs
    have hwv114 := hw
    subst h112
    have hs := hsv113
    have hw := hwv114
    obtain ⟨_, _, rfl, rfl, rfl⟩ := h103
    refine st_val hs (y_indexAt Try.runUnderlying25 Try.sizeOf34 rfl rfl h105.1 h105.2 h106) trivial rfl rfl fun a hs => ?_
    refine st_val hs (y_loadQA (j := 0) (hw.ownAt 0 rfl) rfl Try.isAgg34 Try.sizeOf34 h110 rfl rfl) trivial rfl rfl fun a hs => ?_
    refine w_alloc (cs := [.int .i64 0, .int .i64 0]) hs hw Try.zeroValue34 rfl rfl trivial ?_
    intro b115 a w hs hw
    refine w_store (m := 2) (cs' := [.int .i64 x104.From, .int .i64 x104.To]) hs hw 0 rfl rfl rfl Try.sizeOf34 rfl rfl rfl rfl trivial ?_
    intro a w hs hw
    refine wpList_nil ?_
    refine then_normal ?_
    refine wp_region_lit ?_
    refine st_val hs (y_move rfl) trivial rfl rfl fun a hs => ?_
    refine st_val hs (y_fieldAddr (o' := 1) Try.runUnderlying34 rfl Try.sizeOf3 rfl rfl rfl) trivial rfl rfl fun a hs => ?_
    refine st_val hs (y_loadB1 (hw.ownAt 0 rfl) rfl Try.isAgg3 rfl) trivial rfl rfl fun a hs => ?_
    refine st_val hs (y_fieldAddr (o' := 0) Try.runUnderlying34 rfl Try.sizeOf3 rfl rfl rfl) trivial rfl rfl fun a hs => ?_
    refine st_val hs (y_loadB1 (hw.ownAt 0 rfl) rfl Try.isAgg3 rfl) trivial rfl rfl fun a hs => ?_
    refine st_val hs (y_sub rfl rfl) trivial rfl rfl fun a hs => ?_
    refine st_val hs (y_add rfl rfl) trivial rfl rfl fun a hs => ?_
    obtain ⟨n117, h116, hsh⟩ := bind_t hsh
    refine st_val hs (y_assignI rfl h116) trivial rfl rfl fun a hs => ?_
    refine wpList_nil ?_
    refine blk_normal ?_
    refine then_normal ?_
    refine wp_region_lit ?_
    refine st_val hs (y_add rfl rfl) trivial rfl rfl fun a hs => ?_
    refine st_val hs (y_move rfl) trivial rfl rfl fun a hs => ?_
    refine wpList_nil ?_
    refine then_normal ?_
    exact ⟨_, (Option.some.inj hsh).symm, Sv61, (hs.wk rfl), (hw.ft [1] [0] (by decide) rfl rfl)⟩
   ·have hsh := ite_f hsh h85
    refine wp_exit ?_
    refine then_exit ?_
    refine then_exit ?_
    refine blk_exit ?_
    have hsh := Option.some.inj hsh
    subst hsh
    have h118 := hd79 _ rfl
    subst h118
    refine then_normal ?_
    exact ⟨Sv61, (hs.wk rfl), (hw.ft [] [] (by decide) rfl rfl)⟩
  ·rintro a w ⟨Sv83, hs, hw⟩
   refine then_normal ?_
   refine wp_seq ?_
   refine wp_region_lit ?_
   refine st_val hs (y_move rfl) trivial rfl rfl fun a hs => ?_
   refine st_val hs (y_assign rfl) trivial rfl rfl fun a hs => ?_
   refine st_val hs (y_assign rfl) trivial rfl rfl fun a hs => ?_
   refine wpList_nil ?_
   refine then_normal ?_
   have hsh := Option.some.inj hsh
   subst hsh
   refine wp_ret ?_
   exact ret2 hs rfl (rv_tmp rfl) (rv_tmp rfl) (hw.ret rfl)

abbrev ref08_Length_rd (w0 : World) (X : List Nat) (r : (Int × Bool)) : (Nat → Prop) → World → Value → Prop := fun S w v => v = .tuple #[.int .i64 r.1, .bool r.2]
set_option maxHeartbeats 4000000 in
set_option maxRecDepth 100000 in
theorem ref08_Length_ok {w0 : World} {S0 : Nat → Prop} {p2 : Option Addr} {k3 : Nat} {l1 : (List Span)} {r : (Int × Bool)} (hsh : ref08_Length l1 = some r) (hS : ∀ b, S0 b → b < w0.heap.size) (h4 : (SlA p2 l1.length k3 l1).p S0 w0) : Calls Try.prog 32 #[.slice p2 l1.length k3] w0 (Ret ([]) w0 S0 (ref08_Length_rd w0 ([]) r)) := by
 refine calls_of_wp Try.func32 rfl ?_
 have hs := Sl.enter #[.slice p2 l1.length k3] 32 [(0, .slice p2 l1.length k3)] rfl ⟨rfl, trivial⟩
 have hw := Wd.enter (E := []) hS (fun _ h => (by cases h))
 have hw := hw.addE h4
 delta ref08_Length at hsh
 refine wp_seq ?_
 refine wp_region_lit ?_
 refine st_val hs (y_assign rfl) trivial rfl rfl fun a hs => ?_
 refine st_val hs (y_assign rfl) trivial rfl rfl fun a hs => ?_
 refine wpList_nil ?_
 refine then_normal ?_
 refine wp_seq ?_
 refine wp_region_lit ?_
 refine st_val hs (y_move rfl) trivial rfl rfl fun a hs => ?_
 obtain ⟨rv6, h5, hsh⟩ := bind_t hsh
 refine st_callR hs (ref08_Normal_ok h5 hw.dom (hw.envAt 0 rfl)) (do_call Try.call26 rfl) trivial rfl rfl ?_
 intro v14 Sv11 w a h12 h13 hs
 obtain ⟨p7, k8, c10, rfl, h15, h9⟩ := h13
 have hw := hw.callN h12 h15
 have hw := hw.addE (e := RowA c10 rv6) h9
 refine st_val hs (y_assign rfl) trivial rfl rfl fun a hs => ?_
 refine wpList_nil ?_
 refine then_normal ?_
 refine wp_seq ?_
 refine wp_seq ?_
 refine wp_region_lit ?_
 refine st_val hs (y_move rfl) trivial rfl rfl fun a hs => ?_
 obtain ⟨rv17, h16, hsh⟩ := bind_t hsh
 refine st_callR hs (ref08_near_ok h16 hw.bdom (hw.bRow 0 rfl 0 rfl)) (do_call Try.call45 rfl) trivial rfl rfl ?_
 intro v21 Sv18 w a h19 h20 hs
 subst h20
 have hw := hw.callB h19
 refine st_val hs (y_not rfl) trivial rfl rfl fun a hs => ?_
 refine wpList_nil ?_
 refine then_normal ?_
 refine wp_cond_split (hs.ev rfl) (fun h24 => ?_) (fun h24 => ?_)
 ·have hsh := ite_t hsh h24
  refine wp_seq ?_
  refine wp_region_lit ?_
  refine st_val hs (y_assign rfl) trivial rfl rfl fun a hs => ?_
  refine st_val hs (y_assign rfl) trivial rfl rfl fun a hs => ?_
  refine wpList_nil ?_
  refine then_normal ?_
  have hsh := Option.some.inj hsh
  subst hsh
  refine wp_ret ?_
  refine then_ret ?_
  exact ret2 hs rfl (rv_tmp rfl) (rv_tmp rfl) (hw.ret rfl)
 ·have hsh := ite_f hsh h24
  refine wp_skip ?_
  refine then_normal ?_
  refine wp_seq ?_
  refine wp_region_lit ?_
  refine st_val hs (y_assign rfl) trivial rfl rfl fun a hs => ?_
  refine wpList_nil ?_
  refine then_normal ?_
  refine wp_seq ?_
  refine wp_seq ?_
  refine wp_region_lit ?_
  refine st_val hs (y_assign rfl) trivial rfl rfl fun a hs => ?_
  refine wpList_nil ?_
  refine then_normal ?_
  obtain ⟨e115, h172, hsh⟩ := bind_t hsh
  refine wp_join (fun a w => ∃ (Sv116 : Nat → Prop), Sl 32 [(5, .int .i64 e115)] a ∧ Wd ⟨w0, S0, []⟩ Sv116 [] [] w) ?_ ?_
  ·refine wp_block ?_
   refine wp_while (fun sv25 a w => ∃ (Sv83 : Nat → Prop), Sl 32 [(4, .slice p7 rv6.length k8), (5, .int .i64 sv25.1), (6, .int .i64 sv25.2)] a ∧ Wd ⟨w0, S0, []⟩ Sv83 [.row p7 rv6.length k8 c10 34 2] [RowA c10 rv6] w) (0, 0) h172 ⟨Sv11, (hs.wk rfl), (hw.ft [0] [0] (by decide) rfl rfl)⟩ ?_
   clear h172
   repeat clear hsh
   rintro sv25 a w tv113 ⟨Sv83, hs, hw⟩ hsh hd112
   delta ref08_Length_l1 at hsh
   refine wp_seq ?_
   refine wp_seq ?_
   refine wp_region_lit ?_
   refine st_val hs (y_move rfl) trivial rfl rfl fun a hs => ?_
   refine st_val hs (y_move rfl) trivial rfl rfl fun a hs => ?_
   refine st_val hs (y_len Try.runUnderlying25 rfl) trivial rfl rfl fun a hs => ?_
   refine st_val hs (y_lss rfl rfl) trivial rfl rfl fun a hs => ?_
   refine wpList_nil ?_
   refine then_normal ?_
   refine wp_cond_split (hs.ev rfl) (fun h118 => ?_) (fun h118 => ?_)
   ·have hsh := ite_t hsh h118
    refine wp_skip ?_
    refine then_normal ?_
    refine wp_seq ?_
    refine wp_block ?_
    obtain ⟨x146, h144, hsh⟩ := bind_t hsh
    obtain ⟨b153, q150, c151, h154, h147, h148, h152, h145⟩ := hw.elemRV (α := Span) 0 rfl 0 rfl h144
    have hsv155 := hs
    have hwv156 := hw
    subst h154
    have hs := hsv155
    have hw := hwv156
    obtain ⟨_, _, rfl, rfl, rfl⟩ := h145
    obtain ⟨x159, h157, hsh⟩ := bind_t hsh
    obtain ⟨q163, c164, h160, h161, h165, h158⟩ := hw.elemRK (α := Span) 0 rfl 0 rfl h157
    obtain ⟨_, _, rfl, rfl, rfl⟩ := h158
    obtain ⟨n167, h166, hsh⟩ := bind_t hsh
    refine wp_only (fun a w => ∃ (Sv168 : Nat → Prop), Sl 32 [(4, .slice (some ⟨b153, 0, none⟩) rv6.length k8), (5, .int .i64 n167), (6, .int .i64 sv25.2)] a ∧ Wd ⟨w0, S0, []⟩ Sv168 [.row (some ⟨b153, 0, none⟩) rv6.length k8 c10 34 2] [RowA c10 rv6] w) ?_ ?_
    ·refine h_b (C := Cls [.row (some ⟨b153, 0, none⟩) rv6.length k8 c10 34 2] []) (by kernel_rfl) rfl (hw.drew.cs [0] [] rfl rfl) fun hC => ?_
     have hw := hw.drew
     refine h_g hs 0 rfl (by kernel_rfl) rfl rfl hC rfl (fun w hC => y_move rfl) fun a hs => ?_
     refine h_g hs 1 rfl (by kernel_rfl) rfl rfl hC rfl (fun w hC => y_move rfl) fun a hs => ?_
     refine h_g hs 2 rfl (by kernel_rfl) rfl rfl hC rfl (fun w hC => y_move rfl) fun a hs => ?_
     refine h_g hs 3 rfl (by kernel_rfl) rfl rfl hC rfl (fun w hC => y_indexAt Try.runUnderlying25 Try.sizeOf34 rfl rfl h147.1 h147.2 h148) fun a hs => ?_
     refine h_g hs 4 rfl (by kernel_rfl) rfl rfl hC rfl (fun w hC => y_fieldAddr (o' := q150 + 1) Try.runUnderlying34 rfl Try.sizeOf3 rfl rfl rfl) fun a hs => ?_
     refine h_g hs 5 rfl (by kernel_rfl) rfl rfl hC rfl (fun w hC => y_loadQ1 (j := 1) (hC.ownAt 0 rfl) rfl Try.isAgg3 h152 rfl) fun a hs => ?_
     refine h_g hs 6 rfl (by kernel_rfl) rfl rfl hC rfl (fun w hC => y_move rfl) fun a hs => ?_
     refine h_g hs 7 rfl (by kernel_rfl) rfl rfl hC rfl (fun w hC => y_move rfl) fun a hs => ?_
     refine h_g hs 8 rfl (by kernel_rfl) rfl rfl hC rfl (fun w hC => y_indexAt Try.runUnderlying25 Try.sizeOf34 rfl rfl h160.1 h160.2 h161) fun a hs => ?_
     refine h_g hs 9 rfl (by kernel_rfl) rfl rfl hC rfl (fun w hC => y_fieldAddr (o' := q163 + 0) Try.runUnderlying34 rfl Try.sizeOf3 rfl rfl rfl) fun a hs => ?_
     refine h_g hs 10 rfl (by kernel_rfl) rfl rfl hC rfl (fun w hC => y_loadQ1 (j := 0) (hC.ownAt 0 rfl) rfl Try.isAgg3 h165 rfl) fun a hs => ?_
     refine h_g hs 11 rfl (by kernel_rfl) rfl rfl hC rfl (fun w hC => y_sub rfl rfl) fun a hs => ?_
     refine h_g hs 12 rfl (by kernel_rfl) rfl rfl hC rfl (fun w hC => y_add rfl rfl) fun a hs => ?_
     refine h_g hs 13 rfl (by kernel_rfl) rfl rfl hC rfl (fun w hC => y_assignI rfl h166) fun a hs => ?_
     refine h_done (by kernel_rfl) ?_
     exact ⟨Sv83, (hs.wk rfl), (hw.ft [0] [0] (by decide) rfl rfl)⟩
    ·rintro a w ⟨Sv168, hs, hw⟩
     refine blk_normal ?_
     refine then_normal ?_
     refine wp_region_lit ?_
     refine st_val hs (y_move rfl) trivial rfl rfl fun a hs => ?_
     refine st_val hs (y_add rfl rfl) trivial rfl rfl fun a hs => ?_
     obtain ⟨i170, h169, hsh⟩ := bind_t hsh
     refine st_val hs (y_assignI rfl h169) trivial rfl rfl fun a hs => ?_
     refine wpList_nil ?_
     refine then_normal ?_
     exact ⟨_, (Option.some.inj hsh).symm, Sv168, (hs.wk rfl), (hw.ft [0] [0] (by decide) rfl rfl)⟩
   ·have hsh := ite_f hsh h118
    refine wp_exit ?_
    refine then_exit ?_
    refine then_exit ?_
    refine blk_exit ?_
    have hsh := Option.some.inj hsh
    subst hsh
    have h171 := hd112 _ rfl
    subst h171
    refine then_normal ?_
    exact ⟨Sv83, (hs.wk rfl), (hw.ft [] [] (by decide) rfl rfl)⟩
  ·rintro a w ⟨Sv116, hs, hw⟩
   refine then_normal ?_
   refine wp_seq ?_
   refine wp_region_lit ?_
   refine st_val hs (y_move rfl) trivial rfl rfl fun a hs => ?_
   refine st_val hs (y_assign rfl) trivial rfl rfl fun a hs => ?_
   refine st_val hs (y_assign rfl) trivial rfl rfl fun a hs => ?_
   refine wpList_nil ?_
   refine then_normal ?_
   have hsh := Option.some.inj hsh
   subst hsh
   refine wp_ret ?_
   exact ret2 hs rfl (rv_tmp rfl) (rv_tmp rfl) (hw.ret rfl)

abbrev law08_SpanExact_rd (w0 : World) (X : List Nat) (r : Bool) : (Nat → Prop) → World → Value → Prop := fun S w v => v = .bool r
set_option maxHeartbeats 4000000 in
set_option maxRecDepth 100000 in
theorem law08_SpanExact_ok {w0 : World} {S0 : Nat → Prop} {p2 : Option Addr} {k3 : Nat} {p6 : Option Addr} {k7 : Nat} {t1 : (List Int)} {raw5 : (List Span)} {x9 : Int} {n10 : Int} {by11 : Int} {r : Bool} (hsh : law08_SpanExact t1 raw5 x9 n10 by11 = some r) (hS : ∀ b, S0 b → b < w0.heap.size) (h4 : (SlA p2 t1.length k3 t1).p S0 w0) (h8 : (SlA p6 raw5.length k7 raw5).p S0 w0) : Calls Try.prog 6 #[.slice p2 t1.length k3, .slice p6 raw5.length k7, .int .i64 x9, .int .i64 n10, .int .i64 by11] w0 (Ret ([]) w0 S0 (law08_SpanExact_rd w0 ([]) r)) := by
 refine calls_of_wp Try.func6 rfl ?_
 have hs := Sl.enter #[.slice p2 t1.length k3, .slice p6 raw5.length k7, .int .i64 x9, .int .i64 n10, .int .i64 by11] 220 [(0, .slice p2 t1.length k3), (1, .slice p6 raw5.length k7), (2, .int .i64 x9), (3, .int .i64 n10), (4, .int .i64 by11)] rfl ⟨rfl, rfl, rfl, rfl, rfl, trivial⟩
 have hw := Wd.enter (E := []) hS (fun _ h => (by cases h))
 have hw := hw.addE h4
 have hw := hw.addE h8
 delta law08_SpanExact at hsh
 refine wp_seq ?_
 refine wp_region_lit ?_
 refine st_val hs (y_assign rfl) trivial rfl rfl fun a hs => ?_
 refine wpList_nil ?_
 refine then_normal ?_
 refine wp_seq ?_
 refine wp_seq ?_
 refine wp_region_lit ?_
 refine st_val hs (y_move rfl) trivial rfl rfl fun a hs => ?_
 obtain ⟨rv13, h12, hsh⟩ := bind_t hsh
 refine st_callR hs (made_Light_ok h12 hw.bdom (hw.bE 1 rfl)) (do_call Try.call7 rfl) trivial rfl rfl ?_
 intro v17 Sv14 w a h15 h16 hs
 subst h16
 have hw := hw.callB h15
 refine st_val hs (y_not rfl) trivial rfl rfl fun a hs => ?_
 refine st_val hs (y_move rfl) trivial rfl rfl fun a hs => ?_
 refine wpl_join 4 (fun a w1 => w = w1 ∧ Sl 220 [(0, .slice p2 t1.length k3), (1, .slice p6 raw5.length k7), (2, .int .i64 x9), (3, .int .i64 n10), (4, .int .i64 by11), (39, .bool ((!rv13) || (decide (30 < (raw5.length : Int)))))] a) ?_ ?_
 ·rcases Bool.eq_false_or_eq_true (!rv13) with h19 | h19
  ·have hs := hs.fix 35 (.bool true) rfl (vb h19)
   refine st_skip hs rfl rfl rfl rfl rfl fun a hs => ?_
   refine st_skip hs rfl rfl rfl rfl rfl fun a hs => ?_
   refine st_skip hs rfl rfl rfl rfl rfl fun a hs => ?_
   refine st_val hs (y_pickT rfl rfl) trivial rfl rfl fun a hs => ?_
   refine wpList_nil ?_
   refine then_normal ?_
   exact ⟨rfl, (hs.fix 39 (.bool ((!rv13) || (decide (30 < (raw5.length : Int))))) rfl (or_t h19)).weaken _ ⟨rfl, rfl, rfl, rfl, rfl, rfl, trivial⟩⟩
  ·have hs := hs.fix 35 (.bool false) rfl (vb h19)
   refine st_val hs (y_move rfl) ⟨_, rfl, rfl⟩ rfl rfl fun a hs => ?_
   refine st_val hs (y_len Try.runUnderlying25 rfl) ⟨_, rfl, rfl⟩ rfl rfl fun a hs => ?_
   refine st_val hs (y_gtr rfl rfl) ⟨_, rfl, rfl⟩ rfl rfl fun a hs => ?_
   refine st_val hs (y_pickF rfl rfl) trivial rfl rfl fun a hs => ?_
   refine wpList_nil ?_
   refine then_normal ?_
   exact ⟨rfl, (hs.fix 39 (.bool ((!rv13) || (decide (30 < (raw5.length : Int))))) rfl (or_f h19)).weaken _ ⟨rfl, rfl, rfl, rfl, rfl, rfl, trivial⟩⟩
 ·rintro a w1 ⟨h9677, hs⟩
  subst h9677
  refine wpList_nil ?_
  refine then_normal ?_
  refine wp_cond_split (hs.ev rfl) (fun h28 => ?_) (fun h28 => ?_)
  ·have hsh := ite_t hsh h28
   refine wp_seq ?_
   refine wp_region_lit ?_
   obtain ⟨rv30, h29, hsh⟩ := bind_t hsh
   refine st_callR hs (law08_sane_ok h29 hw.bdom) (do_call Try.call8 rfl) trivial rfl rfl ?_
   intro v34 Sv31 w a h32 h33 hs
   subst h33
   have hw := hw.callB h32
   refine st_val hs (y_assign rfl) trivial rfl rfl fun a hs => ?_
   refine wpList_nil ?_
   refine then_normal ?_
   have hsh := Option.some.inj hsh
   subst hsh
   refine wp_ret ?_
   refine then_ret ?_
   exact ret1 hs rfl (rv_tmp rfl) (hw.ret rfl)
  ·have hsh := ite_f hsh h28
   refine wp_skip ?_
   refine then_normal ?_
   refine wp_seq ?_
   refine wp_region_lit ?_
   refine st_val hs (y_move rfl) trivial rfl rfl fun a hs => ?_
   obtain ⟨rv37, h36, hsh⟩ := bind_t hsh
   refine st_callR hs (made_Roll_ok h36 hw.dom (hw.envAt 1 rfl)) (do_call Try.call9 rfl) trivial rfl rfl ?_
   intro v45 Sv42 w a h43 h44 hs
   obtain ⟨b38, p39, k40, rfl, h46, h41⟩ := h44
   have hw := hw.callN h43 h46
   have hw := hw.addE (e := SlA p39 rv37.L.length k40 rv37.L) h41
   refine st_val hs (y_assign rfl) trivial rfl rfl fun a hs => ?_
   refine wpList_nil ?_
   refine then_normal ?_
   refine wp_seq ?_
   refine wp_region_lit ?_
   refine st_val hs (y_move rfl) trivial rfl rfl fun a hs => ?_
   obtain ⟨rv48, h47, hsh⟩ := bind_t hsh
   refine st_callR hs (made_Dice_Spans_ok h47 hw.dom (hw.ins [0] (by decide) rfl) (hw.envAt 0 rfl)) (do_call Try.call10 rfl) trivial rfl rfl ?_
   intro v59 Sv56 w a h57 h58 hs
   obtain ⟨p49, k50, c52, p53, k54, rfl, h60, h51, h55⟩ := h58
   have hw := hw.callO [0] [] (by decide) rfl h57 h60
   have hw := hw.addE (e := RowA c52 rv48.1) h51
   have hw := hw.addE (e := SlA p53 rv48.2.L.length k54 rv48.2.L) h55
   refine st_val hs (y_move rfl) trivial rfl rfl fun a hs => ?_
   obtain ⟨rv62, h61, hsh⟩ := bind_t hsh
   refine st_callR hs (made_Dice_Spans_ok h61 hw.dom (hw.ins [1] (by decide) rfl) (hw.envAt 0 rfl)) (do_call Try.call10 rfl) trivial rfl rfl ?_
   intro v73 Sv70 w a h71 h72 hs
   obtain ⟨p63, k64, c66, p67, k68, rfl, h74, h65, h69⟩ := h72
   have hw := hw.callO [1] [0] (by decide) rfl h71 h74
   have hw := hw.addE (e := RowA c66 rv62.1) h65
   have hw := hw.addE (e := SlA p67 rv62.2.L.length k68 rv62.2.L) h69
   refine st_val hs (y_assign rfl) trivial rfl rfl fun a hs => ?_
   refine st_val hs (y_assign rfl) trivial rfl rfl fun a hs => ?_
   refine wpList_nil ?_
   refine then_normal ?_
   refine wp_seq ?_
   refine wp_seq ?_
   refine wp_region_lit ?_
   refine st_val hs (y_move rfl) trivial rfl rfl fun a hs => ?_
   refine st_val hs (y_move rfl) trivial rfl rfl fun a hs => ?_
   refine st_val hs (y_build (vs := [(0, .slice p49 rv48.1.length k50), (1, .slice p63 rv62.1.length k64)]) Bld45 rfl rfl) trivial rfl rfl fun a hs => ?_
   refine st_val hs (y_move rfl) trivial rfl rfl fun a hs => ?_
   refine st_val hs (y_move rfl) trivial rfl rfl fun a hs => ?_
   refine st_val hs (y_build (vs := [(0, .slice p6 raw5.length k7), (1, .slice p49 rv48.1.length k50)]) Bld45 rfl rfl) trivial rfl rfl fun a hs => ?_
   refine st_val hs (y_move rfl) trivial rfl rfl fun a hs => ?_
   refine st_val hs (y_move rfl) trivial rfl rfl fun a hs => ?_
   refine st_val hs (y_build (vs := [(0, .slice p63 rv62.1.length k64), (1, .slice p6 raw5.length k7)]) Bld45 rfl rfl) trivial rfl rfl fun a hs => ?_
   obtain ⟨Sv77, hw⟩ := w_share (α := Span) hw 2 rfl 3 rfl
   obtain ⟨Sv78, hw⟩ := w_share (α := Span) hw 0 rfl 2 rfl
   refine w_litSlice (α := (Arr2 (List Span))) (vs := [.agg #[.slice p49 rv48.1.length k50, .slice p63 rv62.1.length k64], .agg #[.slice p6 raw5.length k7, .slice p49 rv48.1.length k50], .agg #[.slice p63 rv62.1.length k64, .slice p6 raw5.length k7]]) (cs := [.slice p49 rv48.1.length k50, .slice p63 rv62.1.length k64, .slice p6 raw5.length k7, .slice p49 rv48.1.length k50, .slice p63 rv62.1.length k64, .slice p6 raw5.length k7]) (xs := ([(⟨rv48.1, rv62.1⟩ : (Arr2 (List Span))), (⟨raw5, rv48.1⟩ : (Arr2 (List Span))), (⟨rv62.1, raw5⟩ : (Arr2 (List Span)))] : List (Arr2 (List Span)))) hs hw El46 rfl rfl rfl rfl rfl rfl ⟨⟨_, _, rfl, ⟨_, _, _, rfl, hw.envAt 1 rfl⟩, ⟨_, _, _, rfl, hw.envAt 0 rfl⟩⟩, ⟨⟨_, _, rfl, ⟨_, _, _, rfl, hw.envAt 7 rfl⟩, ⟨_, _, _, rfl, hw.envAt 1 rfl⟩⟩, ⟨⟨_, _, rfl, ⟨_, _, _, rfl, hw.envAt 0 rfl⟩, ⟨_, _, _, rfl, hw.envAt 7 rfl⟩⟩, rfl⟩⟩⟩ rfl trivial rfl fun b76 a w hs hw => ?_
   refine st_val hs (y_len Try.runUnderlying46 rfl) trivial rfl rfl fun a hs => ?_
   refine st_val hs (y_move rfl) trivial rfl rfl fun a hs => ?_
   refine wpList_nil ?_
   refine then_normal ?_
   refine wp_block ?_
   refine wp_while (fun sv3217 a w => ∃ (p5307 : Option Addr) (k5308 : Nat) (Sv5309 : Nat → Prop), Sl 220 [(2, .int .i64 x9), (3, .int .i64 n10), (4, .int .i64 by11), (11, .pointer (some ⟨b38, 0, none⟩)), (56, .slice (some ⟨b76, 0, none⟩) ([(⟨rv48.1, rv62.1⟩ : (Arr2 (List Span))), (⟨raw5, rv48.1⟩ : (Arr2 (List Span))), (⟨rv62.1, raw5⟩ : (Arr2 (List Span)))] : List (Arr2 (List Span))).length ([(⟨rv48.1, rv62.1⟩ : (Arr2 (List Span))), (⟨raw5, rv48.1⟩ : (Arr2 (List Span))), (⟨rv62.1, raw5⟩ : (Arr2 (List Span)))] : List (Arr2 (List Span))).length), (57, .int .i64 (([(⟨rv48.1, rv62.1⟩ : (Arr2 (List Span))), (⟨raw5, rv48.1⟩ : (Arr2 (List Span))), (⟨rv62.1, raw5⟩ : (Arr2 (List Span)))] : List (Arr2 (List Span))).length : Int)), (58, .int .i64 sv3217.2.2)] a ∧ Wd ⟨w0, S0, []⟩ Sv5309 [.box b38 [.slice p5307 sv3217.1.length k5308, .int .i64 sv3217.2.1] 50, .row (some ⟨b76, 0, none⟩) ([(⟨rv48.1, rv62.1⟩ : (Arr2 (List Span))), (⟨raw5, rv48.1⟩ : (Arr2 (List Span))), (⟨rv62.1, raw5⟩ : (Arr2 (List Span)))] : List (Arr2 (List Span))).length ([(⟨rv48.1, rv62.1⟩ : (Arr2 (List Span))), (⟨raw5, rv48.1⟩ : (Arr2 (List Span))), (⟨rv62.1, raw5⟩ : (Arr2 (List Span)))] : List (Arr2 (List Span))).length [.slice p49 rv48.1.length k50, .slice p63 rv62.1.length k64, .slice p6 raw5.length k7, .slice p49 rv48.1.length k50, .slice p63 rv62.1.length k64, .slice p6 raw5.length k7] 45 2] [SlA p5307 sv3217.1.length k5308 sv3217.1, RowA [.slice p49 rv48.1.length k50, .slice p63 rv62.1.length k64, .slice p6 raw5.length k7, .slice p49 rv48.1.length k50, .slice p63 rv62.1.length k64, .slice p6 raw5.length k7] ([(⟨rv48.1, rv62.1⟩ : (Arr2 (List Span))), (⟨raw5, rv48.1⟩ : (Arr2 (List Span))), (⟨rv62.1, raw5⟩ : (Arr2 (List Span)))] : List (Arr2 (List Span)))] w) (rv62.2.L, rv62.2.At, 0) hsh ⟨p67, k68, Sv78, (hs.wk rfl), (hw.ft [1, 0] [3, 0] (by decide) rfl rfl)⟩ ?_
   repeat clear hsh
   rintro sv3217 a w tv6354 ⟨p5307, k5308, Sv5309, hs, hw⟩ hsh hd6353
   delta law08_SpanExact_l17 at hsh
   refine wp_seq ?_
   refine wp_region_lit ?_
   refine st_val hs (y_lss rfl rfl) trivial rfl rfl fun a hs => ?_
   refine wpList_nil ?_
   refine then_normal ?_
   refine wp_seq ?_
   refine wp_cond_split (hs.ev rfl) (fun h6358 => ?_) (fun h6358 => ?_)
   ·have hsh := ite_t hsh h6358
    refine wp_skip ?_
    refine then_normal ?_
    refine wp_seq ?_
    refine wp_block ?_
    refine wp_seq ?_
    refine wp_region_lit ?_
    obtain ⟨x7403, h7401, hsh⟩ := bind_t hsh
    obtain ⟨q7407, c7408, h7404, h7405, h7409, h7402⟩ := hw.elemRK (α := (Arr2 (List Span))) 1 rfl 1 rfl h7401
    obtain ⟨_, _, rfl, ⟨p7410, n7411, k7412, rfl, h7413⟩, ⟨p7414, n7415, k7416, rfl, h7417⟩⟩ := h7402
    obtain rfl := h7413.1
    have hw := hw.addE (e := SlA p7410 _ k7412 x7403.e0) h7413
    obtain rfl := h7417.1
    have hw := hw.addE (e := SlA p7414 _ k7416 x7403.e1) h7417
    refine st_val hs (y_indexAt Try.runUnderlying46 Try.sizeOf45 rfl rfl h7404.1 h7404.2 h7405) trivial rfl rfl fun a hs => ?_
    refine st_val hs (y_loadQA (j := 0) (hw.ownAt 1 rfl) rfl Try.isAgg45 Try.sizeOf45 h7409 rfl rfl) trivial rfl rfl fun a hs => ?_
    refine w_alloc (cs := [.slice none ([] : List Span).length 0, .slice none ([] : List Span).length 0]) hs hw Try.zeroValue45 rfl rfl trivial ?_
    intro b7418 a w hs hw
    refine w_store (m := 2) (cs' := [.slice p7410 x7403.e0.length k7412, .slice p7414 x7403.e1.length k7416]) hs hw 0 rfl rfl rfl Try.sizeOf45 rfl rfl rfl rfl trivial ?_
    intro a w hs hw
    refine wpList_nil ?_
    refine then_normal ?_
    refine wp_seq ?_
    refine wp_only (fun a w => ∃ (Sv7419 : Nat → Prop), Sl 220 [(2, .int .i64 x9), (3, .int .i64 n10), (4, .int .i64 by11), (11, .pointer (some ⟨b38, 0, none⟩)), (16, .slice p7410 x7403.e0.length k7412), (17, .slice p7414 x7403.e1.length k7416), (56, .slice (some ⟨b76, 0, none⟩) ([(⟨rv48.1, rv62.1⟩ : (Arr2 (List Span))), (⟨raw5, rv48.1⟩ : (Arr2 (List Span))), (⟨rv62.1, raw5⟩ : (Arr2 (List Span)))] : List (Arr2 (List Span))).length ([(⟨rv48.1, rv62.1⟩ : (Arr2 (List Span))), (⟨raw5, rv48.1⟩ : (Arr2 (List Span))), (⟨rv62.1, raw5⟩ : (Arr2 (List Span)))] : List (Arr2 (List Span))).length), (57, .int .i64 (([(⟨rv48.1, rv62.1⟩ : (Arr2 (List Span))), (⟨raw5, rv48.1⟩ : (Arr2 (List Span))), (⟨rv62.1, raw5⟩ : (Arr2 (List Span)))] : List (Arr2 (List Span))).length : Int)), (58, .int .i64 sv3217.2.2)] a ∧ Wd ⟨w0, S0, []⟩ Sv7419 [.box b38 [.slice p5307 sv3217.1.length k5308, .int .i64 sv3217.2.1] 50, .row (some ⟨b76, 0, none⟩) ([(⟨rv48.1, rv62.1⟩ : (Arr2 (List Span))), (⟨raw5, rv48.1⟩ : (Arr2 (List Span))), (⟨rv62.1, raw5⟩ : (Arr2 (List Span)))] : List (Arr2 (List Span))).length ([(⟨rv48.1, rv62.1⟩ : (Arr2 (List Span))), (⟨raw5, rv48.1⟩ : (Arr2 (List Span))), (⟨rv62.1, raw5⟩ : (Arr2 (List Span)))] : List (Arr2 (List Span))).length [.slice p49 rv48.1.length k50, .slice p63 rv62.1.length k64, .slice p6 raw5.length k7, .slice p49 rv48.1.length k50, .slice p63 rv62.1.length k64, .slice p6 raw5.length k7] 45 2] [SlA p7410 x7403.e0.length k7412 x7403.e0, SlA p7414 x7403.e1.length k7416 x7403.e1, SlA p5307 sv3217.1.length k5308 sv3217.1, RowA [.slice p49 rv48.1.length k50, .slice p63 rv62.1.length k64, .slice p6 raw5.length k7, .slice p49 rv48.1.length k50, .slice p63 rv62.1.length k64, .slice p6 raw5.length k7] ([(⟨rv48.1, rv62.1⟩ : (Arr2 (List Span))), (⟨raw5, rv48.1⟩ : (Arr2 (List Span))), (⟨rv62.1, raw5⟩ : (Arr2 (List Span)))] : List (Arr2 (List Span)))] w) ?_ ?_
    ·refine h_b (C := Cls [.box b7418 [.slice p7410 x7403.e0.length k7412, .slice p7414 x7403.e1.length k7416] 45, .box b38 [.slice p5307 sv3217.1.length k5308, .int .i64 sv3217.2.1] 50, .row (some ⟨b76, 0, none⟩) ([(⟨rv48.1, rv62.1⟩ : (Arr2 (List Span))), (⟨raw5, rv48.1⟩ : (Arr2 (List Span))), (⟨rv62.1, raw5⟩ : (Arr2 (List Span)))] : List (Arr2 (List Span))).length ([(⟨rv48.1, rv62.1⟩ : (Arr2 (List Span))), (⟨raw5, rv48.1⟩ : (Arr2 (List Span))), (⟨rv62.1, raw5⟩ : (Arr2 (List Span)))] : List (Arr2 (List Span))).length [.slice p49 rv48.1.length k50, .slice p63 rv62.1.length k64, .slice p6 raw5.length k7, .slice p49 rv48.1.length k50, .slice p63 rv62.1.length k64, .slice p6 raw5.length k7] 45 2] []) (by kernel_rfl) rfl (hw.drew.cs [0, 1, 2] [] rfl rfl) fun hC => ?_
     have hw := hw.drew
     refine h_g hs 0 rfl (by kernel_rfl) rfl rfl hC rfl (fun w hC => y_indexAtA (q := 0) Try.runUnderlying45 Try.sizeOf25 rfl rfl (by decide) (by decide) rfl) fun a hs => ?_
     refine h_g hs 1 rfl (by kernel_rfl) rfl rfl hC rfl (fun w hC => y_loadB1 (hC.ownAt 0 rfl) rfl Try.isAgg25 rfl) fun a hs => ?_
     refine h_g hs 2 rfl (by kernel_rfl) rfl rfl hC rfl (fun w hC => y_indexAtA (q := 1) Try.runUnderlying45 Try.sizeOf25 rfl rfl (by decide) (by decide) rfl) fun a hs => ?_
     refine h_g hs 3 rfl (by kernel_rfl) rfl rfl hC rfl (fun w hC => y_loadB1 (hC.ownAt 0 rfl) rfl Try.isAgg25 rfl) fun a hs => ?_
     refine h_g hs 4 rfl (by kernel_rfl) rfl rfl hC rfl (fun w hC => y_assign rfl) fun a hs => ?_
     refine h_g hs 5 rfl (by kernel_rfl) rfl rfl hC rfl (fun w hC => y_assign rfl) fun a hs => ?_
     refine h_done (by kernel_rfl) ?_
     exact ⟨Sv5309, (hs.wk rfl), (hw.ft [1, 2] [1, 0, 2, 3] (by decide) rfl rfl)⟩
    ·rintro a w ⟨Sv7419, hs, hw⟩
     refine then_normal ?_
     refine wp_seq ?_
     refine wp_seq ?_
     refine wp_region_lit ?_
     refine st_val hs (y_move rfl) trivial rfl rfl fun a hs => ?_
     refine st_val hs (y_move rfl) trivial rfl rfl fun a hs => ?_
     obtain ⟨rv7421, h7420, hsh⟩ := bind_t hsh
     refine st_callR hs (span_Union_ok h7420 hw.dom (hw.envAt 0 rfl) (hw.envAt 1 rfl)) (do_call Try.call18 rfl) trivial rfl rfl ?_
     intro v7429 Sv7426 w a h7427 h7428 hs
     obtain ⟨p7422, k7423, c7425, rfl, h7430, h7424⟩ := h7428
     have hw := hw.callN h7427 h7430
     have hw := hw.addE (e := RowA c7425 rv7421) h7424
     refine st_val hs (y_move rfl) trivial rfl rfl fun a hs => ?_
     refine st_val hs (y_move rfl) trivial rfl rfl fun a hs => ?_
     obtain ⟨rv7432, h7431, hsh⟩ := bind_t hsh
     refine st_callR hs (ref08_Union_ok h7431 hw.dom (hw.envAt 1 rfl) (hw.envAt 2 rfl)) (do_call Try.call23 rfl) trivial rfl rfl ?_
     intro v7440 Sv7437 w a h7438 h7439 hs
     obtain ⟨p7433, k7434, c7436, rfl, h7441, h7435⟩ := h7439
     have hw := hw.callN h7438 h7441
     have hw := hw.addE (e := RowA c7436 rv7432) h7435
     obtain ⟨rv7443, h7442, hsh⟩ := bind_t hsh
     refine st_callR hs (ref08_Same_ok h7442 hw.bdom (hw.bRow 1 rfl 1 rfl) (hw.bRow 0 rfl 0 rfl)) (do_call Try.call15 rfl) trivial rfl rfl ?_
     intro v7447 Sv7444 w a h7445 h7446 hs
     subst h7446
     have hw := hw.callB h7445
     refine st_val hs (y_not rfl) trivial rfl rfl fun a hs => ?_
     refine st_val hs (y_move rfl) trivial rfl rfl fun a hs => ?_
     obtain ⟨c7479, hc7479, hsh⟩ := bind_t hsh
     refine wpl_join 9 (fun a w => ∃ (Sv7480 : Nat → Prop), Sl 220 [(2, .int .i64 x9), (3, .int .i64 n10), (4, .int .i64 by11), (11, .pointer (some ⟨b38, 0, none⟩)), (16, .slice p7410 x7403.e0.length k7412), (17, .slice p7414 x7403.e1.length k7416), (56, .slice (some ⟨b76, 0, none⟩) ([(⟨rv48.1, rv62.1⟩ : (Arr2 (List Span))), (⟨raw5, rv48.1⟩ : (Arr2 (List Span))), (⟨rv62.1, raw5⟩ : (Arr2 (List Span)))] : List (Arr2 (List Span))).length ([(⟨rv48.1, rv62.1⟩ : (Arr2 (List Span))), (⟨raw5, rv48.1⟩ : (Arr2 (List Span))), (⟨rv62.1, raw5⟩ : (Arr2 (List Span)))] : List (Arr2 (List Span))).length), (57, .int .i64 (([(⟨rv48.1, rv62.1⟩ : (Arr2 (List Span))), (⟨raw5, rv48.1⟩ : (Arr2 (List Span))), (⟨rv62.1, raw5⟩ : (Arr2 (List Span)))] : List (Arr2 (List Span))).length : Int)), (58, .int .i64 sv3217.2.2), (83, .bool c7479)] a ∧ Wd ⟨w0, S0, []⟩ Sv7480 [.box b38 [.slice p5307 sv3217.1.length k5308, .int .i64 sv3217.2.1] 50, .row (some ⟨b76, 0, none⟩) ([(⟨rv48.1, rv62.1⟩ : (Arr2 (List Span))), (⟨raw5, rv48.1⟩ : (Arr2 (List Span))), (⟨rv62.1, raw5⟩ : (Arr2 (List Span)))] : List (Arr2 (List Span))).length ([(⟨rv48.1, rv62.1⟩ : (Arr2 (List Span))), (⟨raw5, rv48.1⟩ : (Arr2 (List Span))), (⟨rv62.1, raw5⟩ : (Arr2 (List Span)))] : List (Arr2 (List Span))).length [.slice p49 rv48.1.length k50, .slice p63 rv62.1.length k64, .slice p6 raw5.length k7, .slice p49 rv48.1.length k50, .slice p63 rv62.1.length k64, .slice p6 raw5.length k7] 45 2] [SlA p7410 x7403.e0.length k7412 x7403.e0, SlA p7414 x7403.e1.length k7416 x7403.e1, SlA p5307 sv3217.1.length k5308 sv3217.1, RowA [.slice p49 rv48.1.length k50, .slice p63 rv62.1.length k64, .slice p6 raw5.length k7, .slice p49 rv48.1.length k50, .slice p63 rv62.1.length k64, .slice p6 raw5.length k7] ([(⟨rv48.1, rv62.1⟩ : (Arr2 (List Span))), (⟨raw5, rv48.1⟩ : (Arr2 (List Span))), (⟨rv62.1, raw5⟩ : (Arr2 (List Span)))] : List (Arr2 (List Span)))] w) ?_ ?_
     ·rcases Bool.eq_false_or_eq_true (!rv7443) with h7478 | h7478
      ·have hs := hs.fix 74 (.bool true) rfl (vb h7478)
       have hsh := ite_t hc7479 h7478
       refine st_skip hs rfl rfl rfl rfl rfl fun a hs => ?_
       refine st_skip hs rfl rfl rfl rfl rfl fun a hs => ?_
       refine st_skip hs rfl rfl rfl rfl rfl fun a hs => ?_
       refine st_skip hs rfl rfl rfl rfl rfl fun a hs => ?_
       refine st_skip hs rfl rfl rfl rfl rfl fun a hs => ?_
       refine st_skip hs rfl rfl rfl rfl rfl fun a hs => ?_
       refine st_skip hs rfl rfl rfl rfl rfl fun a hs => ?_
       refine st_skip hs rfl rfl rfl rfl rfl fun a hs => ?_
       refine st_val hs (y_pickT rfl rfl) trivial rfl rfl fun a hs => ?_
       refine wpList_nil ?_
       have hsh := Option.some.inj hsh
       subst hsh
       refine then_normal ?_
       exact ⟨Sv7437, (hs.wk rfl), (hw.ft [2, 3] [2, 3, 4, 5] (by decide) rfl rfl)⟩
      ·have hs := hs.fix 74 (.bool false) rfl (vb h7478)
       have hsh := ite_f hc7479 h7478
       refine st_val hs (y_move rfl) ⟨_, rfl, rfl⟩ rfl rfl fun a hs => ?_
       refine st_val hs (y_move rfl) ⟨_, rfl, rfl⟩ rfl rfl fun a hs => ?_
       obtain ⟨rv7482, h7481, hsh⟩ := bind_t hsh
       refine st_callR hs (span_Meet_ok h7481 hw.dom (hw.envAt 2 rfl) (hw.envAt 3 rfl)) (do_call Try.call19 rfl) ⟨_, rfl, rfl⟩ rfl rfl ?_
       intro v7490 Sv7487 w a h7488 h7489 hs
       obtain ⟨p7483, k7484, c7486, rfl, h7491, h7485⟩ := h7489
       have hw := hw.callN h7488 h7491
       have hw := hw.addE (e := RowA c7486 rv7482) h7485
       refine st_val hs (y_move rfl) ⟨_, rfl, rfl⟩ rfl rfl fun a hs => ?_
       refine st_val hs (y_move rfl) ⟨_, rfl, rfl⟩ rfl rfl fun a hs => ?_
       obtain ⟨rv7493, h7492, hsh⟩ := bind_t hsh
       refine st_callR hs (ref08_Meet_ok h7492 hw.dom (hw.envAt 3 rfl) (hw.envAt 4 rfl)) (do_call Try.call24 rfl) ⟨_, rfl, rfl⟩ rfl rfl ?_
       intro v7501 Sv7498 w a h7499 h7500 hs
       obtain ⟨p7494, k7495, c7497, rfl, h7502, h7496⟩ := h7500
       have hw := hw.callN h7499 h7502
       have hw := hw.addE (e := RowA c7497 rv7493) h7496
       obtain ⟨rv7504, h7503, hsh⟩ := bind_t hsh
       refine st_callR hs (ref08_Same_ok h7503 hw.bdom (hw.bRow 1 rfl 1 rfl) (hw.bRow 0 rfl 0 rfl)) (do_call Try.call15 rfl) ⟨_, rfl, rfl⟩ rfl rfl ?_
       intro v7508 Sv7505 w a h7506 h7507 hs
       subst h7507
       have hw := hw.callB h7506
       refine st_val hs (y_not rfl) ⟨_, rfl, rfl⟩ rfl rfl fun a hs => ?_
       refine st_val hs (y_pickF rfl rfl) trivial rfl rfl fun a hs => ?_
       refine wpList_nil ?_
       have hsh := Option.some.inj hsh
       subst hsh
       refine then_normal ?_
       exact ⟨Sv7498, (hs.wk rfl), (hw.ft [4, 5] [4, 5, 6, 7] (by decide) rfl rfl)⟩
     ·rintro a w ⟨Sv7480, hs, hw⟩
      refine st_val hs (y_move rfl) trivial rfl rfl fun a hs => ?_
      obtain ⟨c7540, hc7540, hsh⟩ := bind_t hsh
      refine wpl_join 9 (fun a w => ∃ (Sv7541 : Nat → Prop), Sl 220 [(2, .int .i64 x9), (3, .int .i64 n10), (4, .int .i64 by11), (11, .pointer (some ⟨b38, 0, none⟩)), (16, .slice p7410 x7403.e0.length k7412), (56, .slice (some ⟨b76, 0, none⟩) ([(⟨rv48.1, rv62.1⟩ : (Arr2 (List Span))), (⟨raw5, rv48.1⟩ : (Arr2 (List Span))), (⟨rv62.1, raw5⟩ : (Arr2 (List Span)))] : List (Arr2 (List Span))).length ([(⟨rv48.1, rv62.1⟩ : (Arr2 (List Span))), (⟨raw5, rv48.1⟩ : (Arr2 (List Span))), (⟨rv62.1, raw5⟩ : (Arr2 (List Span)))] : List (Arr2 (List Span))).length), (57, .int .i64 (([(⟨rv48.1, rv62.1⟩ : (Arr2 (List Span))), (⟨raw5, rv48.1⟩ : (Arr2 (List Span))), (⟨rv62.1, raw5⟩ : (Arr2 (List Span)))] : List (Arr2 (List Span))).length : Int)), (58, .int .i64 sv3217.2.2), (93, .bool c7540)] a ∧ Wd ⟨w0, S0, []⟩ Sv7541 [.box b38 [.slice p5307 sv3217.1.length k5308, .int .i64 sv3217.2.1] 50, .row (some ⟨b76, 0, none⟩) ([(⟨rv48.1, rv62.1⟩ : (Arr2 (List Span))), (⟨raw5, rv48.1⟩ : (Arr2 (List Span))), (⟨rv62.1, raw5⟩ : (Arr2 (List Span)))] : List (Arr2 (List Span))).length ([(⟨rv48.1, rv62.1⟩ : (Arr2 (List Span))), (⟨raw5, rv48.1⟩ : (Arr2 (List Span))), (⟨rv62.1, raw5⟩ : (Arr2 (List Span)))] : List (Arr2 (List Span))).length [.slice p49 rv48.1.length k50, .slice p63 rv62.1.length k64, .slice p6 raw5.length k7, .slice p49 rv48.1.length k50, .slice p63 rv62.1.length k64, .slice p6 raw5.length k7] 45 2] [SlA p7410 x7403.e0.length k7412 x7403.e0, SlA p5307 sv3217.1.length k5308 sv3217.1, RowA [.slice p49 rv48.1.length k50, .slice p63 rv62.1.length k64, .slice p6 raw5.length k7, .slice p49 rv48.1.length k50, .slice p63 rv62.1.length k64, .slice p6 raw5.length k7] ([(⟨rv48.1, rv62.1⟩ : (Arr2 (List Span))), (⟨raw5, rv48.1⟩ : (Arr2 (List Span))), (⟨rv62.1, raw5⟩ : (Arr2 (List Span)))] : List (Arr2 (List Span)))] w) ?_ ?_
      ·rcases Bool.eq_false_or_eq_true c7479 with h7539 | h7539
       ·have hs := hs.fix 84 (.bool true) rfl (vb h7539)
        have hsh := ite_t hc7540 h7539
        refine st_skip hs rfl rfl rfl rfl rfl fun a hs => ?_
        refine st_skip hs rfl rfl rfl rfl rfl fun a hs => ?_
        refine st_skip hs rfl rfl rfl rfl rfl fun a hs => ?_
        refine st_skip hs rfl rfl rfl rfl rfl fun a hs => ?_
        refine st_skip hs rfl rfl rfl rfl rfl fun a hs => ?_
        refine st_skip hs rfl rfl rfl rfl rfl fun a hs => ?_
        refine st_skip hs rfl rfl rfl rfl rfl fun a hs => ?_
        refine st_skip hs rfl rfl rfl rfl rfl fun a hs => ?_
        refine st_val hs (y_pickT rfl rfl) trivial rfl rfl fun a hs => ?_
        refine wpList_nil ?_
        have hsh := Option.some.inj hsh
        subst hsh
        refine then_normal ?_
        exact ⟨Sv7480, (hs.wk rfl), (hw.ft [0, 1] [0, 2, 3] (by decide) rfl rfl)⟩
       ·have hs := hs.fix 84 (.bool false) rfl (vb h7539)
        have hsh := ite_f hc7540 h7539
        refine st_val hs (y_move rfl) ⟨_, rfl, rfl⟩ rfl rfl fun a hs => ?_
        refine st_val hs (y_move rfl) ⟨_, rfl, rfl⟩ rfl rfl fun a hs => ?_
        obtain ⟨rv7543, h7542, hsh⟩ := bind_t hsh
        refine st_callR hs (span_Minus_ok h7542 hw.dom (hw.envAt 0 rfl) (hw.envAt 1 rfl)) (do_call Try.call13 rfl) ⟨_, rfl, rfl⟩ rfl rfl ?_
        intro v7551 Sv7548 w a h7549 h7550 hs
        obtain ⟨p7544, k7545, c7547, rfl, h7552, h7546⟩ := h7550
        have hw := hw.callN h7549 h7552
        have hw := hw.addE (e := RowA c7547 rv7543) h7546
        refine st_val hs (y_move rfl) ⟨_, rfl, rfl⟩ rfl rfl fun a hs => ?_
        refine st_val hs (y_move rfl) ⟨_, rfl, rfl⟩ rfl rfl fun a hs => ?_
        obtain ⟨rv7554, h7553, hsh⟩ := bind_t hsh
        refine st_callR hs (ref08_Minus_ok h7553 hw.dom (hw.envAt 1 rfl) (hw.envAt 2 rfl)) (do_call Try.call25 rfl) ⟨_, rfl, rfl⟩ rfl rfl ?_
        intro v7562 Sv7559 w a h7560 h7561 hs
        obtain ⟨p7555, k7556, c7558, rfl, h7563, h7557⟩ := h7561
        have hw := hw.callN h7560 h7563
        have hw := hw.addE (e := RowA c7558 rv7554) h7557
        obtain ⟨rv7565, h7564, hsh⟩ := bind_t hsh
        refine st_callR hs (ref08_Same_ok h7564 hw.bdom (hw.bRow 1 rfl 1 rfl) (hw.bRow 0 rfl 0 rfl)) (do_call Try.call15 rfl) ⟨_, rfl, rfl⟩ rfl rfl ?_
        intro v7569 Sv7566 w a h7567 h7568 hs
        subst h7568
        have hw := hw.callB h7567
        refine st_val hs (y_not rfl) ⟨_, rfl, rfl⟩ rfl rfl fun a hs => ?_
        refine st_val hs (y_pickF rfl rfl) trivial rfl rfl fun a hs => ?_
        refine wpList_nil ?_
        have hsh := Option.some.inj hsh
        subst hsh
        refine then_normal ?_
        exact ⟨Sv7559, (hs.wk rfl), (hw.ft [2, 3] [2, 4, 5] (by decide) rfl rfl)⟩
      ·rintro a w ⟨Sv7541, hs, hw⟩
       refine st_val hs (y_move rfl) trivial rfl rfl fun a hs => ?_
       obtain ⟨c7601, hc7601, hsh⟩ := bind_t hsh
       refine wpl_join 7 (fun a w => ∃ (Sv7602 : Nat → Prop), Sl 220 [(2, .int .i64 x9), (3, .int .i64 n10), (4, .int .i64 by11), (11, .pointer (some ⟨b38, 0, none⟩)), (16, .slice p7410 x7403.e0.length k7412), (56, .slice (some ⟨b76, 0, none⟩) ([(⟨rv48.1, rv62.1⟩ : (Arr2 (List Span))), (⟨raw5, rv48.1⟩ : (Arr2 (List Span))), (⟨rv62.1, raw5⟩ : (Arr2 (List Span)))] : List (Arr2 (List Span))).length ([(⟨rv48.1, rv62.1⟩ : (Arr2 (List Span))), (⟨raw5, rv48.1⟩ : (Arr2 (List Span))), (⟨rv62.1, raw5⟩ : (Arr2 (List Span)))] : List (Arr2 (List Span))).length), (57, .int .i64 (([(⟨rv48.1, rv62.1⟩ : (Arr2 (List Span))), (⟨raw5, rv48.1⟩ : (Arr2 (List Span))), (⟨rv62.1, raw5⟩ : (Arr2 (List Span)))] : List (Arr2 (List Span))).length : Int)), (58, .int .i64 sv3217.2.2), (101, .bool c7601)] a ∧ Wd ⟨w0, S0, []⟩ Sv7602 [.box b38 [.slice p5307 sv3217.1.length k5308, .int .i64 sv3217.2.1] 50, .row (some ⟨b76, 0, none⟩) ([(⟨rv48.1, rv62.1⟩ : (Arr2 (List Span))), (⟨raw5, rv48.1⟩ : (Arr2 (List Span))), (⟨rv62.1, raw5⟩ : (Arr2 (List Span)))] : List (Arr2 (List Span))).length ([(⟨rv48.1, rv62.1⟩ : (Arr2 (List Span))), (⟨raw5, rv48.1⟩ : (Arr2 (List Span))), (⟨rv62.1, raw5⟩ : (Arr2 (List Span)))] : List (Arr2 (List Span))).length [.slice p49 rv48.1.length k50, .slice p63 rv62.1.length k64, .slice p6 raw5.length k7, .slice p49 rv48.1.length k50, .slice p63 rv62.1.length k64, .slice p6 raw5.length k7] 45 2] [SlA p7410 x7403.e0.length k7412 x7403.e0, SlA p5307 sv3217.1.length k5308 sv3217.1, RowA [.slice p49 rv48.1.length k50, .slice p63 rv62.1.length k64, .slice p6 raw5.length k7, .slice p49 rv48.1.length k50, .slice p63 rv62.1.length k64, .slice p6 raw5.length k7] ([(⟨rv48.1, rv62.1⟩ : (Arr2 (List Span))), (⟨raw5, rv48.1⟩ : (Arr2 (List Span))), (⟨rv62.1, raw5⟩ : (Arr2 (List Span)))] : List (Arr2 (List Span)))] w) ?_ ?_
       ·rcases Bool.eq_false_or_eq_true c7540 with h7600 | h7600
        ·have hs := hs.fix 94 (.bool true) rfl (vb h7600)
         have hsh := ite_t hc7601 h7600
         refine st_skip hs rfl rfl rfl rfl rfl fun a hs => ?_
         refine st_skip hs rfl rfl rfl rfl rfl fun a hs => ?_
         refine st_skip hs rfl rfl rfl rfl rfl fun a hs => ?_
         refine st_skip hs rfl rfl rfl rfl rfl fun a hs => ?_
         refine st_skip hs rfl rfl rfl rfl rfl fun a hs => ?_
         refine st_skip hs rfl rfl rfl rfl rfl fun a hs => ?_
         refine st_val hs (y_pickT rfl rfl) trivial rfl rfl fun a hs => ?_
         refine wpList_nil ?_
         have hsh := Option.some.inj hsh
         subst hsh
         refine then_normal ?_
         exact ⟨Sv7541, (hs.wk rfl), (hw.ft [0, 1] [0, 1, 2] (by decide) rfl rfl)⟩
        ·have hs := hs.fix 94 (.bool false) rfl (vb h7600)
         have hsh := ite_f hc7601 h7600
         refine st_val hs (y_move rfl) ⟨_, rfl, rfl⟩ rfl rfl fun a hs => ?_
         obtain ⟨rv7604, h7603, hsh⟩ := bind_t hsh
         refine st_callR hs (span_Normal_ok h7603 hw.dom (hw.envAt 0 rfl)) (do_call Try.call16 rfl) ⟨_, rfl, rfl⟩ rfl rfl ?_
         intro v7612 Sv7609 w a h7610 h7611 hs
         obtain ⟨p7605, k7606, c7608, rfl, h7613, h7607⟩ := h7611
         have hw := hw.callN h7610 h7613
         have hw := hw.addE (e := RowA c7608 rv7604) h7607
         refine st_val hs (y_move rfl) ⟨_, rfl, rfl⟩ rfl rfl fun a hs => ?_
         obtain ⟨rv7615, h7614, hsh⟩ := bind_t hsh
         refine st_callR hs (ref08_Normal_ok h7614 hw.dom (hw.envAt 1 rfl)) (do_call Try.call26 rfl) ⟨_, rfl, rfl⟩ rfl rfl ?_
         intro v7623 Sv7620 w a h7621 h7622 hs
         obtain ⟨p7616, k7617, c7619, rfl, h7624, h7618⟩ := h7622
         have hw := hw.callN h7621 h7624
         have hw := hw.addE (e := RowA c7619 rv7615) h7618
         obtain ⟨rv7626, h7625, hsh⟩ := bind_t hsh
         refine st_callR hs (ref08_Same_ok h7625 hw.bdom (hw.bRow 1 rfl 1 rfl) (hw.bRow 0 rfl 0 rfl)) (do_call Try.call15 rfl) ⟨_, rfl, rfl⟩ rfl rfl ?_
         intro v7630 Sv7627 w a h7628 h7629 hs
         subst h7629
         have hw := hw.callB h7628
         refine st_val hs (y_not rfl) ⟨_, rfl, rfl⟩ rfl rfl fun a hs => ?_
         refine st_val hs (y_pickF rfl rfl) trivial rfl rfl fun a hs => ?_
         refine wpList_nil ?_
         have hsh := Option.some.inj hsh
         subst hsh
         refine then_normal ?_
         exact ⟨Sv7620, (hs.wk rfl), (hw.ft [2, 3] [2, 3, 4] (by decide) rfl rfl)⟩
       ·rintro a w ⟨Sv7602, hs, hw⟩
        refine st_val hs (y_move rfl) trivial rfl rfl fun a hs => ?_
        obtain ⟨c7647, hc7647, hsh⟩ := bind_t hsh
        refine wpl_join 6 (fun a w => ∃ (Sv7648 : Nat → Prop), Sl 220 [(2, .int .i64 x9), (3, .int .i64 n10), (4, .int .i64 by11), (11, .pointer (some ⟨b38, 0, none⟩)), (16, .slice p7410 x7403.e0.length k7412), (56, .slice (some ⟨b76, 0, none⟩) ([(⟨rv48.1, rv62.1⟩ : (Arr2 (List Span))), (⟨raw5, rv48.1⟩ : (Arr2 (List Span))), (⟨rv62.1, raw5⟩ : (Arr2 (List Span)))] : List (Arr2 (List Span))).length ([(⟨rv48.1, rv62.1⟩ : (Arr2 (List Span))), (⟨raw5, rv48.1⟩ : (Arr2 (List Span))), (⟨rv62.1, raw5⟩ : (Arr2 (List Span)))] : List (Arr2 (List Span))).length), (57, .int .i64 (([(⟨rv48.1, rv62.1⟩ : (Arr2 (List Span))), (⟨raw5, rv48.1⟩ : (Arr2 (List Span))), (⟨rv62.1, raw5⟩ : (Arr2 (List Span)))] : List (Arr2 (List Span))).length : Int)), (58, .int .i64 sv3217.2.2), (108, .bool c7647)] a ∧ Wd ⟨w0, S0, []⟩ Sv7648 [.box b38 [.slice p5307 sv3217.1.length k5308, .int .i64 sv3217.2.1] 50, .row (some ⟨b76, 0, none⟩) ([(⟨rv48.1, rv62.1⟩ : (Arr2 (List Span))), (⟨raw5, rv48.1⟩ : (Arr2 (List Span))), (⟨rv62.1, raw5⟩ : (Arr2 (List Span)))] : List (Arr2 (List Span))).length ([(⟨rv48.1, rv62.1⟩ : (Arr2 (List Span))), (⟨raw5, rv48.1⟩ : (Arr2 (List Span))), (⟨rv62.1, raw5⟩ : (Arr2 (List Span)))] : List (Arr2 (List Span))).length [.slice p49 rv48.1.length k50, .slice p63 rv62.1.length k64, .slice p6 raw5.length k7, .slice p49 rv48.1.length k50, .slice p63 rv62.1.length k64, .slice p6 raw5.length k7] 45 2] [SlA p7410 x7403.e0.length k7412 x7403.e0, SlA p5307 sv3217.1.length k5308 sv3217.1, RowA [.slice p49 rv48.1.length k50, .slice p63 rv62.1.length k64, .slice p6 raw5.length k7, .slice p49 rv48.1.length k50, .slice p63 rv62.1.length k64, .slice p6 raw5.length k7] ([(⟨rv48.1, rv62.1⟩ : (Arr2 (List Span))), (⟨raw5, rv48.1⟩ : (Arr2 (List Span))), (⟨rv62.1, raw5⟩ : (Arr2 (List Span)))] : List (Arr2 (List Span)))] w) ?_ ?_
        ·rcases Bool.eq_false_or_eq_true c7601 with h7646 | h7646
         ·have hs := hs.fix 102 (.bool true) rfl (vb h7646)
          have hsh := ite_t hc7647 h7646
          refine st_skip hs rfl rfl rfl rfl rfl fun a hs => ?_
          refine st_skip hs rfl rfl rfl rfl rfl fun a hs => ?_
          refine st_skip hs rfl rfl rfl rfl rfl fun a hs => ?_
          refine st_skip hs rfl rfl rfl rfl rfl fun a hs => ?_
          refine st_skip hs rfl rfl rfl rfl rfl fun a hs => ?_
          refine st_val hs (y_pickT rfl rfl) trivial rfl rfl fun a hs => ?_
          refine wpList_nil ?_
          have hsh := Option.some.inj hsh
          subst hsh
          refine then_normal ?_
          exact ⟨Sv7602, (hs.wk rfl), (hw.ft [0, 1] [0, 1, 2] (by decide) rfl rfl)⟩
         ·have hs := hs.fix 102 (.bool false) rfl (vb h7646)
          have hsh := ite_f hc7647 h7646
          refine st_val hs (y_move rfl) ⟨_, rfl, rfl⟩ rfl rfl fun a hs => ?_
          obtain ⟨rv7650, h7649, hsh⟩ := bind_t hsh
          refine st_callR hs (span_Valid_ok h7649 hw.bdom (hw.bE 0 rfl)) (do_call Try.call21 rfl) ⟨_, rfl, rfl⟩ rfl rfl ?_
          intro v7654 Sv7651 w a h7652 h7653 hs
          subst h7653
          have hw := hw.callB h7652
          refine st_val hs (y_move rfl) ⟨_, rfl, rfl⟩ rfl rfl fun a hs => ?_
          obtain ⟨rv7657, h7656, hsh⟩ := bind_t hsh
          refine st_callR hs (ref08_Valid_ok h7656 hw.bdom (hw.bE 0 rfl)) (do_call Try.call27 rfl) ⟨_, rfl, rfl⟩ rfl rfl ?_
          intro v7661 Sv7658 w a h7659 h7660 hs
          subst h7660
          have hw := hw.callB h7659
          refine st_val hs (y_neqB Try.runUnderlying4 rfl rfl) ⟨_, rfl, rfl⟩ rfl rfl fun a hs => ?_
          refine st_val hs (y_pickF rfl rfl) trivial rfl rfl fun a hs => ?_
          refine wpList_nil ?_
          have hsh := Option.some.inj hsh
          subst hsh
          refine then_normal ?_
          exact ⟨Sv7602, (hs.wk rfl), (hw.ft [0, 1] [0, 1, 2] (by decide) rfl rfl)⟩
        ·rintro a w ⟨Sv7648, hs, hw⟩
         refine wpList_nil ?_
         refine then_normal ?_
         refine wp_cond_split (hs.ev rfl) (fun h7664 => ?_) (fun h7664 => ?_)
         ·have hsh := ite_t hsh h7664
          refine wp_seq ?_
          refine wp_region_lit ?_
          refine st_val hs (y_assign rfl) trivial rfl rfl fun a hs => ?_
          refine wpList_nil ?_
          refine then_normal ?_
          have hsh := Option.some.inj hsh
          subst hsh
          have h7665 := hd6353 _ rfl
          subst h7665
          refine wp_ret ?_
          refine then_ret ?_
          refine blk_ret ?_
          refine then_ret ?_
          refine then_ret ?_
          refine blk_ret ?_
          refine then_ret ?_
          exact ret1 hs rfl (rv_tmp rfl) (hw.ret rfl)
         ·have hsh := ite_f hsh h7664
          refine wp_skip ?_
          refine then_normal ?_
          refine wp_seq ?_
          refine wp_seq ?_
          refine wp_region_lit ?_
          refine st_val hs (y_move rfl) trivial rfl rfl fun a hs => ?_
          refine st_val hs (y_move rfl) trivial rfl rfl fun a hs => ?_
          obtain ⟨rv7667, h7666, hsh⟩ := bind_t hsh
          refine st_callR hs (made_Dice_Next_ok h7666 hw.dom (hw.ins [0] (by decide) rfl) (hw.envAt 1 rfl)) (do_call Try.call28 rfl) trivial rfl rfl ?_
          intro v7674 Sv7671 w a h7672 h7673 hs
          obtain ⟨p7668, k7669, rfl, h7675, h7670⟩ := h7673
          have hw := hw.callO [0] [1] (by decide) rfl h7672 h7675
          have hw := hw.addE (e := SlA p7668 rv7667.2.L.length k7669 rv7667.2.L) h7670
          refine st_val hs (y_sub rfl rfl) trivial rfl rfl fun a hs => ?_
          refine w_litSlice (α := Int) (vs := [.int .i64 x9, .int .i64 (w64 (rv7667.1 - 3))]) (cs := [.int .i64 x9, .int .i64 (w64 (rv7667.1 - 3))]) (xs := ([x9, (w64 (rv7667.1 - 3))] : List Int)) hs hw El22 rfl rfl rfl rfl rfl rfl ⟨⟨_, rfl, rfl⟩, ⟨⟨_, rfl, rfl⟩, rfl⟩⟩ rfl trivial rfl fun b7677 a w hs hw => ?_
          refine st_val hs (y_len Try.runUnderlying22 rfl) trivial rfl rfl fun a hs => ?_
          refine st_val hs (y_move rfl) trivial rfl rfl fun a hs => ?_
          refine wpList_nil ?_
          refine then_normal ?_
          refine wp_block ?_
          refine wp_while (fun sv8124 a w => ∃ (Sv8420 : Nat → Prop), Sl 220 [(2, .int .i64 x9), (3, .int .i64 n10), (4, .int .i64 by11), (11, .pointer (some ⟨b38, 0, none⟩)), (16, .slice p7410 x7403.e0.length k7412), (56, .slice (some ⟨b76, 0, none⟩) ([(⟨rv48.1, rv62.1⟩ : (Arr2 (List Span))), (⟨raw5, rv48.1⟩ : (Arr2 (List Span))), (⟨rv62.1, raw5⟩ : (Arr2 (List Span)))] : List (Arr2 (List Span))).length ([(⟨rv48.1, rv62.1⟩ : (Arr2 (List Span))), (⟨raw5, rv48.1⟩ : (Arr2 (List Span))), (⟨rv62.1, raw5⟩ : (Arr2 (List Span)))] : List (Arr2 (List Span))).length), (57, .int .i64 (([(⟨rv48.1, rv62.1⟩ : (Arr2 (List Span))), (⟨raw5, rv48.1⟩ : (Arr2 (List Span))), (⟨rv62.1, raw5⟩ : (Arr2 (List Span)))] : List (Arr2 (List Span))).length : Int)), (58, .int .i64 sv3217.2.2), (113, .slice (some ⟨b7677, 0, none⟩) ([x9, (w64 (rv7667.1 - 3))] : List Int).length ([x9, (w64 (rv7667.1 - 3))] : List Int).length), (114, .int .i64 (([x9, (w64 (rv7667.1 - 3))] : List Int).length : Int)), (115, .int .i64 sv8124)] a ∧ Wd ⟨w0, S0, []⟩ Sv8420 [.box b38 [.slice p7668 rv7667.2.L.length k7669, .int .i64 rv7667.2.At] 50, .row (some ⟨b76, 0, none⟩) ([(⟨rv48.1, rv62.1⟩ : (Arr2 (List Span))), (⟨raw5, rv48.1⟩ : (Arr2 (List Span))), (⟨rv62.1, raw5⟩ : (Arr2 (List Span)))] : List (Arr2 (List Span))).length ([(⟨rv48.1, rv62.1⟩ : (Arr2 (List Span))), (⟨raw5, rv48.1⟩ : (Arr2 (List Span))), (⟨rv62.1, raw5⟩ : (Arr2 (List Span)))] : List (Arr2 (List Span))).length [.slice p49 rv48.1.length k50, .slice p63 rv62.1.length k64, .slice p6 raw5.length k7, .slice p49 rv48.1.length k50, .slice p63 rv62.1.length k64, .slice p6 raw5.length k7] 45 2, .row (some ⟨b7677, 0, none⟩) ([x9, (w64 (rv7667.1 - 3))] : List Int).length ([x9, (w64 (rv7667.1 - 3))] : List Int).length [.int .i64 x9, .int .i64 (w64 (rv7667.1 - 3))] 3 1] [SlA p7410 x7403.e0.length k7412 x7403.e0, SlA p7668 rv7667.2.L.length k7669 rv7667.2.L, RowA [.slice p49 rv48.1.length k50, .slice p63 rv62.1.length k64, .slice p6 raw5.length k7, .slice p49 rv48.1.length k50, .slice p63 rv62.1.length k64, .slice p6 raw5.length k7] ([(⟨rv48.1, rv62.1⟩ : (Arr2 (List Span))), (⟨raw5, rv48.1⟩ : (Arr2 (List Span))), (⟨rv62.1, raw5⟩ : (Arr2 (List Span)))] : List (Arr2 (List Span))), RowA [.int .i64 x9, .int .i64 (w64 (rv7667.1 - 3))] ([x9, (w64 (rv7667.1 - 3))] : List Int)] w) 0 hsh ⟨Sv7671, (hs.wk rfl), (hw.ft [1, 2, 0] [2, 1, 4, 0] (by decide) rfl rfl)⟩ ?_
          repeat clear hsh
          rintro sv8124 a w tv8569 ⟨Sv8420, hs, hw⟩ hsh hd8568
          delta law08_SpanExact_l25 at hsh
          refine wp_seq ?_
          refine wp_region_lit ?_
          refine st_val hs (y_lss rfl rfl) trivial rfl rfl fun a hs => ?_
          refine wpList_nil ?_
          refine then_normal ?_
          refine wp_seq ?_
          refine wp_cond_split (hs.ev rfl) (fun h8573 => ?_) (fun h8573 => ?_)
          ·have hsh := ite_t hsh h8573
           refine wp_skip ?_
           refine then_normal ?_
           refine wp_seq ?_
           refine wp_block ?_
           refine wp_seq ?_
           refine wp_region_lit ?_
           obtain ⟨x8722, h8720, hsh⟩ := bind_t hsh
           obtain ⟨q8726, c8727, h8723, h8724, h8728, h8721⟩ := hw.elemRK (α := Int) 2 rfl 3 rfl h8720
           obtain ⟨_, rfl, rfl⟩ := h8721
           refine st_val hs (y_indexAt Try.runUnderlying22 Try.sizeOf3 rfl rfl h8723.1 h8723.2 h8724) trivial rfl rfl fun a hs => ?_
           refine st_val hs (y_loadQ1 (j := 0) (hw.ownAt 2 rfl) rfl Try.isAgg3 h8728 rfl) trivial rfl rfl fun a hs => ?_
           refine st_val hs (y_assign rfl) trivial rfl rfl fun a hs => ?_
           refine wpList_nil ?_
           refine then_normal ?_
           refine wp_seq ?_
           refine wp_region_lit ?_
           refine st_val hs (y_move rfl) trivial rfl rfl fun a hs => ?_
           refine st_val hs (y_move rfl) trivial rfl rfl fun a hs => ?_
           obtain ⟨rv8730, h8729, hsh⟩ := bind_t hsh
           refine st_callR hs (span_Has_ok h8729 hw.bdom (hw.bE 0 rfl)) (do_call Try.call22 rfl) trivial rfl rfl ?_
           intro v8734 Sv8731 w a h8732 h8733 hs
           subst h8733
           have hw := hw.callB h8732
           refine st_val hs (y_move rfl) trivial rfl rfl fun a hs => ?_
           refine st_val hs (y_move rfl) trivial rfl rfl fun a hs => ?_
           obtain ⟨rv8737, h8736, hsh⟩ := bind_t hsh
           refine st_callR hs (ref08_Has_ok h8736 hw.bdom (hw.bE 0 rfl)) (do_call Try.call17 rfl) trivial rfl rfl ?_
           intro v8741 Sv8738 w a h8739 h8740 hs
           subst h8740
           have hw := hw.callB h8739
           refine st_val hs (y_neqB Try.runUnderlying4 rfl rfl) trivial rfl rfl fun a hs => ?_
           refine st_val hs (y_move rfl) trivial rfl rfl fun a hs => ?_
           obtain ⟨c8773, hc8773, hsh⟩ := bind_t hsh
           refine wpl_join 11 (fun a w => ∃ (Sv8774 : Nat → Prop), Sl 220 [(2, .int .i64 x9), (3, .int .i64 n10), (4, .int .i64 by11), (11, .pointer (some ⟨b38, 0, none⟩)), (16, .slice p7410 x7403.e0.length k7412), (19, .int .i64 x8722), (56, .slice (some ⟨b76, 0, none⟩) ([(⟨rv48.1, rv62.1⟩ : (Arr2 (List Span))), (⟨raw5, rv48.1⟩ : (Arr2 (List Span))), (⟨rv62.1, raw5⟩ : (Arr2 (List Span)))] : List (Arr2 (List Span))).length ([(⟨rv48.1, rv62.1⟩ : (Arr2 (List Span))), (⟨raw5, rv48.1⟩ : (Arr2 (List Span))), (⟨rv62.1, raw5⟩ : (Arr2 (List Span)))] : List (Arr2 (List Span))).length), (57, .int .i64 (([(⟨rv48.1, rv62.1⟩ : (Arr2 (List Span))), (⟨raw5, rv48.1⟩ : (Arr2 (List Span))), (⟨rv62.1, raw5⟩ : (Arr2 (List Span)))] : List (Arr2 (List Span))).length : Int)), (58, .int .i64 sv3217.2.2), (113, .slice (some ⟨b7677, 0, none⟩) ([x9, (w64 (rv7667.1 - 3))] : List Int).length ([x9, (w64 (rv7667.1 - 3))] : List Int).length), (114, .int .i64 (([x9, (w64 (rv7667.1 - 3))] : List Int).length : Int)), (115, .int .i64 sv8124), (137, .bool c8773)] a ∧ Wd ⟨w0, S0, []⟩ Sv8774 [.box b38 [.slice p7668 rv7667.2.L.length k7669, .int .i64 rv7667.2.At] 50, .row (some ⟨b76, 0, none⟩) ([(⟨rv48.1, rv62.1⟩ : (Arr2 (List Span))), (⟨raw5, rv48.1⟩ : (Arr2 (List Span))), (⟨rv62.1, raw5⟩ : (Arr2 (List Span)))] : List (Arr2 (List Span))).length ([(⟨rv48.1, rv62.1⟩ : (Arr2 (List Span))), (⟨raw5, rv48.1⟩ : (Arr2 (List Span))), (⟨rv62.1, raw5⟩ : (Arr2 (List Span)))] : List (Arr2 (List Span))).length [.slice p49 rv48.1.length k50, .slice p63 rv62.1.length k64, .slice p6 raw5.length k7, .slice p49 rv48.1.length k50, .slice p63 rv62.1.length k64, .slice p6 raw5.length k7] 45 2, .row (some ⟨b7677, 0, none⟩) ([x9, (w64 (rv7667.1 - 3))] : List Int).length ([x9, (w64 (rv7667.1 - 3))] : List Int).length [.int .i64 x9, .int .i64 (w64 (rv7667.1 - 3))] 3 1] [SlA p7410 x7403.e0.length k7412 x7403.e0, SlA p7668 rv7667.2.L.length k7669 rv7667.2.L, RowA [.slice p49 rv48.1.length k50, .slice p63 rv62.1.length k64, .slice p6 raw5.length k7, .slice p49 rv48.1.length k50, .slice p63 rv62.1.length k64, .slice p6 raw5.length k7] ([(⟨rv48.1, rv62.1⟩ : (Arr2 (List Span))), (⟨raw5, rv48.1⟩ : (Arr2 (List Span))), (⟨rv62.1, raw5⟩ : (Arr2 (List Span)))] : List (Arr2 (List Span))), RowA [.int .i64 x9, .int .i64 (w64 (rv7667.1 - 3))] ([x9, (w64 (rv7667.1 - 3))] : List Int)] w) ?_ ?_
           ·rcases Bool.eq_false_or_eq_true (!(rv8730 == rv8737)) with h8772 | h8772
            ·have hs := hs.fix 126 (.bool true) rfl (vb h8772)
             have hsh := ite_t hc8773 h8772
             refine st_skip hs rfl rfl rfl rfl rfl fun a hs => ?_
             refine st_skip hs rfl rfl rfl rfl rfl fun a hs => ?_
             refine st_skip hs rfl rfl rfl rfl rfl fun a hs => ?_
             refine st_skip hs rfl rfl rfl rfl rfl fun a hs => ?_
             refine st_skip hs rfl rfl rfl rfl rfl fun a hs => ?_
             refine st_skip hs rfl rfl rfl rfl rfl fun a hs => ?_
             refine st_skip hs rfl rfl rfl rfl rfl fun a hs => ?_
             refine st_skip hs rfl rfl rfl rfl rfl fun a hs => ?_
             refine st_skip hs rfl rfl rfl rfl rfl fun a hs => ?_
             refine st_skip hs rfl rfl rfl rfl rfl fun a hs => ?_
             refine st_val hs (y_pickT rfl rfl) trivial rfl rfl fun a hs => ?_
             refine wpList_nil ?_
             have hsh := Option.some.inj hsh
             subst hsh
             refine then_normal ?_
             exact ⟨Sv8420, (hs.wk rfl), (hw.ft [0, 1, 2] [0, 1, 2, 3] (by decide) rfl rfl)⟩
            ·have hs := hs.fix 126 (.bool false) rfl (vb h8772)
             have hsh := ite_f hc8773 h8772
             refine st_val hs (y_move rfl) ⟨_, rfl, rfl⟩ rfl rfl fun a hs => ?_
             refine st_val hs (y_move rfl) ⟨_, rfl, rfl⟩ rfl rfl fun a hs => ?_
             refine st_val hs (y_move rfl) ⟨_, rfl, rfl⟩ rfl rfl fun a hs => ?_
             obtain ⟨rv8776, h8775, hsh⟩ := bind_t hsh
             refine st_callR hs (span_Cut_ok h8775 hw.dom (hw.envAt 0 rfl)) (do_call Try.call20 rfl) ⟨_, rfl, rfl⟩ rfl rfl ?_
             intro v8784 Sv8781 w a h8782 h8783 hs
             obtain ⟨p8777, k8778, c8780, rfl, h8785, h8779⟩ := h8783
             have hw := hw.callN h8782 h8785
             have hw := hw.addE (e := RowA c8780 rv8776) h8779
             refine st_val hs (y_move rfl) ⟨_, rfl, rfl⟩ rfl rfl fun a hs => ?_
             refine st_val hs (y_move rfl) ⟨_, rfl, rfl⟩ rfl rfl fun a hs => ?_
             refine st_val hs (y_move rfl) ⟨_, rfl, rfl⟩ rfl rfl fun a hs => ?_
             obtain ⟨rv8787, h8786, hsh⟩ := bind_t hsh
             refine st_callR hs (ref08_Cut_ok h8786 hw.dom (hw.envAt 1 rfl)) (do_call Try.call29 rfl) ⟨_, rfl, rfl⟩ rfl rfl ?_
             intro v8795 Sv8792 w a h8793 h8794 hs
             obtain ⟨p8788, k8789, c8791, rfl, h8796, h8790⟩ := h8794
             have hw := hw.callN h8793 h8796
             have hw := hw.addE (e := RowA c8791 rv8787) h8790
             obtain ⟨rv8798, h8797, hsh⟩ := bind_t hsh
             refine st_callR hs (ref08_Same_ok h8797 hw.bdom (hw.bRow 1 rfl 1 rfl) (hw.bRow 0 rfl 0 rfl)) (do_call Try.call15 rfl) ⟨_, rfl, rfl⟩ rfl rfl ?_
             intro v8802 Sv8799 w a h8800 h8801 hs
             subst h8801
             have hw := hw.callB h8800
             refine st_val hs (y_not rfl) ⟨_, rfl, rfl⟩ rfl rfl fun a hs => ?_
             refine st_val hs (y_pickF rfl rfl) trivial rfl rfl fun a hs => ?_
             refine wpList_nil ?_
             have hsh := Option.some.inj hsh
             subst hsh
             refine then_normal ?_
             exact ⟨Sv8792, (hs.wk rfl), (hw.ft [2, 3, 4] [2, 3, 4, 5] (by decide) rfl rfl)⟩
           ·rintro a w ⟨Sv8774, hs, hw⟩
            refine st_val hs (y_move rfl) trivial rfl rfl fun a hs => ?_
            obtain ⟨c8834, hc8834, hsh⟩ := bind_t hsh
            refine wpl_join 9 (fun a w => ∃ (Sv8835 : Nat → Prop), Sl 220 [(2, .int .i64 x9), (3, .int .i64 n10), (4, .int .i64 by11), (11, .pointer (some ⟨b38, 0, none⟩)), (16, .slice p7410 x7403.e0.length k7412), (56, .slice (some ⟨b76, 0, none⟩) ([(⟨rv48.1, rv62.1⟩ : (Arr2 (List Span))), (⟨raw5, rv48.1⟩ : (Arr2 (List Span))), (⟨rv62.1, raw5⟩ : (Arr2 (List Span)))] : List (Arr2 (List Span))).length ([(⟨rv48.1, rv62.1⟩ : (Arr2 (List Span))), (⟨raw5, rv48.1⟩ : (Arr2 (List Span))), (⟨rv62.1, raw5⟩ : (Arr2 (List Span)))] : List (Arr2 (List Span))).length), (57, .int .i64 (([(⟨rv48.1, rv62.1⟩ : (Arr2 (List Span))), (⟨raw5, rv48.1⟩ : (Arr2 (List Span))), (⟨rv62.1, raw5⟩ : (Arr2 (List Span)))] : List (Arr2 (List Span))).length : Int)), (58, .int .i64 sv3217.2.2), (113, .slice (some ⟨b7677, 0, none⟩) ([x9, (w64 (rv7667.1 - 3))] : List Int).length ([x9, (w64 (rv7667.1 - 3))] : List Int).length), (114, .int .i64 (([x9, (w64 (rv7667.1 - 3))] : List Int).length : Int)), (115, .int .i64 sv8124), (147, .bool c8834)] a ∧ Wd ⟨w0, S0, []⟩ Sv8835 [.box b38 [.slice p7668 rv7667.2.L.length k7669, .int .i64 rv7667.2.At] 50, .row (some ⟨b76, 0, none⟩) ([(⟨rv48.1, rv62.1⟩ : (Arr2 (List Span))), (⟨raw5, rv48.1⟩ : (Arr2 (List Span))), (⟨rv62.1, raw5⟩ : (Arr2 (List Span)))] : List (Arr2 (List Span))).length ([(⟨rv48.1, rv62.1⟩ : (Arr2 (List Span))), (⟨raw5, rv48.1⟩ : (Arr2 (List Span))), (⟨rv62.1, raw5⟩ : (Arr2 (List Span)))] : List (Arr2 (List Span))).length [.slice p49 rv48.1.length k50, .slice p63 rv62.1.length k64, .slice p6 raw5.length k7, .slice p49 rv48.1.length k50, .slice p63 rv62.1.length k64, .slice p6 raw5.length k7] 45 2, .row (some ⟨b7677, 0, none⟩) ([x9, (w64 (rv7667.1 - 3))] : List Int).length ([x9, (w64 (rv7667.1 - 3))] : List Int).length [.int .i64 x9, .int .i64 (w64 (rv7667.1 - 3))] 3 1] [SlA p7410 x7403.e0.length k7412 x7403.e0, SlA p7668 rv7667.2.L.length k7669 rv7667.2.L, RowA [.slice p49 rv48.1.length k50, .slice p63 rv62.1.length k64, .slice p6 raw5.length k7, .slice p49 rv48.1.length k50, .slice p63 rv62.1.length k64, .slice p6 raw5.length k7] ([(⟨rv48.1, rv62.1⟩ : (Arr2 (List Span))), (⟨raw5, rv48.1⟩ : (Arr2 (List Span))), (⟨rv62.1, raw5⟩ : (Arr2 (List Span)))] : List (Arr2 (List Span))), RowA [.int .i64 x9, .int .i64 (w64 (rv7667.1 - 3))] ([x9, (w64 (rv7667.1 - 3))] : List Int)] w) ?_ ?_
            ·rcases Bool.eq_false_or_eq_true c8773 with h8833 | h8833
             ·have hs := hs.fix 138 (.bool true) rfl (vb h8833)
              have hsh := ite_t hc8834 h8833
              refine st_skip hs rfl rfl rfl rfl rfl fun a hs => ?_
              refine st_skip hs rfl rfl rfl rfl rfl fun a hs => ?_
              refine st_skip hs rfl rfl rfl rfl rfl fun a hs => ?_
              refine st_skip hs rfl rfl rfl rfl rfl fun a hs => ?_
              refine st_skip hs rfl rfl rfl rfl rfl fun a hs => ?_
              refine st_skip hs rfl rfl rfl rfl rfl fun a hs => ?_
              refine st_skip hs rfl rfl rfl rfl rfl fun a hs => ?_
              refine st_skip hs rfl rfl rfl rfl rfl fun a hs => ?_
              refine st_val hs (y_pickT rfl rfl) trivial rfl rfl fun a hs => ?_
              refine wpList_nil ?_
              have hsh := Option.some.inj hsh
              subst hsh
              refine then_normal ?_
              exact ⟨Sv8774, (hs.wk rfl), (hw.ft [0, 1, 2] [0, 1, 2, 3] (by decide) rfl rfl)⟩
             ·have hs := hs.fix 138 (.bool false) rfl (vb h8833)
              have hsh := ite_f hc8834 h8833
              refine st_val hs (y_move rfl) ⟨_, rfl, rfl⟩ rfl rfl fun a hs => ?_
              refine st_val hs (y_move rfl) ⟨_, rfl, rfl⟩ rfl rfl fun a hs => ?_
              obtain ⟨rv8837, h8836, hsh⟩ := bind_t hsh
              refine st_callR hs (span_Cut_ok h8836 hw.dom (hw.envAt 0 rfl)) (do_call Try.call20 rfl) ⟨_, rfl, rfl⟩ rfl rfl ?_
              intro v8845 Sv8842 w a h8843 h8844 hs
              obtain ⟨p8838, k8839, c8841, rfl, h8846, h8840⟩ := h8844
              have hw := hw.callN h8843 h8846
              have hw := hw.addE (e := RowA c8841 rv8837) h8840
              refine st_val hs (y_move rfl) ⟨_, rfl, rfl⟩ rfl rfl fun a hs => ?_
              refine st_val hs (y_move rfl) ⟨_, rfl, rfl⟩ rfl rfl fun a hs => ?_
              obtain ⟨rv8848, h8847, hsh⟩ := bind_t hsh
              refine st_callR hs (ref08_Cut_ok h8847 hw.dom (hw.envAt 1 rfl)) (do_call Try.call29 rfl) ⟨_, rfl, rfl⟩ rfl rfl ?_
              intro v8856 Sv8853 w a h8854 h8855 hs
              obtain ⟨p8849, k8850, c8852, rfl, h8857, h8851⟩ := h8855
              have hw := hw.callN h8854 h8857
              have hw := hw.addE (e := RowA c8852 rv8848) h8851
              obtain ⟨rv8859, h8858, hsh⟩ := bind_t hsh
              refine st_callR hs (ref08_Same_ok h8858 hw.bdom (hw.bRow 1 rfl 1 rfl) (hw.bRow 0 rfl 0 rfl)) (do_call Try.call15 rfl) ⟨_, rfl, rfl⟩ rfl rfl ?_
              intro v8863 Sv8860 w a h8861 h8862 hs
              subst h8862
              have hw := hw.callB h8861
              refine st_val hs (y_not rfl) ⟨_, rfl, rfl⟩ rfl rfl fun a hs => ?_
              refine st_val hs (y_pickF rfl rfl) trivial rfl rfl fun a hs => ?_
              refine wpList_nil ?_
              have hsh := Option.some.inj hsh
              subst hsh
              refine then_normal ?_
              exact ⟨Sv8853, (hs.wk rfl), (hw.ft [2, 3, 4] [2, 3, 4, 5] (by decide) rfl rfl)⟩
            ·rintro a w ⟨Sv8835, hs, hw⟩
             refine wpList_nil ?_
             refine then_normal ?_
             refine wp_cond_split (hs.ev rfl) (fun h8866 => ?_) (fun h8866 => ?_)
             ·have hsh := ite_t hsh h8866
              refine wp_seq ?_
              refine wp_region_lit ?_
              refine st_val hs (y_assign rfl) trivial rfl rfl fun a hs => ?_
              refine wpList_nil ?_
              refine then_normal ?_
              have hsh := Option.some.inj hsh
              subst hsh
              have h8867 := hd8568 _ rfl
              subst h8867
              have h8868 := hd6353 _ rfl
              subst h8868
              refine wp_ret ?_
              refine blk_ret ?_
              refine then_ret ?_
              refine then_ret ?_
              refine blk_ret ?_
              refine then_ret ?_
              refine blk_ret ?_
              refine then_ret ?_
              refine then_ret ?_
              refine blk_ret ?_
              refine then_ret ?_
              exact ret1 hs rfl (rv_tmp rfl) (hw.ret rfl)
             ·have hsh := ite_f hsh h8866
              refine wp_skip ?_
              refine blk_normal ?_
              refine then_normal ?_
              refine wp_region_lit ?_
              refine st_val hs (y_add rfl rfl) trivial rfl rfl fun a hs => ?_
              refine st_val hs (y_move rfl) trivial rfl rfl fun a hs => ?_
              refine wpList_nil ?_
              refine then_normal ?_
              exact ⟨_, (Option.some.inj hsh).symm, Sv8835, (hs.wk rfl), (hw.ft [0, 1, 2] [0, 1, 2, 3] (by decide) rfl rfl)⟩
          ·have hsh := ite_f hsh h8573
           obtain ⟨rv9666, hsh, h9667⟩ := map_t hsh
           have h9667 := (hd8568 _ h9667.symm).symm
           subst h9667
           refine wp_exit ?_
           refine then_exit ?_
           refine then_exit ?_
           refine blk_exit ?_
           refine then_normal ?_
           refine wp_seq ?_
           refine wp_seq ?_
           refine wp_region_lit ?_
           refine st_val hs (y_move rfl) trivial rfl rfl fun a hs => ?_
           refine st_val hs (y_move rfl) trivial rfl rfl fun a hs => ?_
           obtain ⟨rv8870, h8869, hsh⟩ := bind_t hsh
           refine st_callR hs (made_Dice_Next_ok h8869 hw.dom (hw.ins [0] (by decide) rfl) (hw.envAt 1 rfl)) (do_call Try.call28 rfl) trivial rfl rfl ?_
           intro v8877 Sv8874 w a h8875 h8876 hs
           obtain ⟨p8871, k8872, rfl, h8878, h8873⟩ := h8876
           have hw := hw.callO [0] [1, 2] (by decide) rfl h8875 h8878
           have hw := hw.addE (e := SlA p8871 rv8870.2.L.length k8872 rv8870.2.L) h8873
           refine st_val hs (y_sub rfl rfl) trivial rfl rfl fun a hs => ?_
           refine w_litSlice (α := Int) (vs := [.int .i64 n10, .int .i64 (w64 (rv8870.1 - 2))]) (cs := [.int .i64 n10, .int .i64 (w64 (rv8870.1 - 2))]) (xs := ([n10, (w64 (rv8870.1 - 2))] : List Int)) hs hw El22 rfl rfl rfl rfl rfl rfl ⟨⟨_, rfl, rfl⟩, ⟨⟨_, rfl, rfl⟩, rfl⟩⟩ rfl trivial rfl fun b8880 a w hs hw => ?_
           refine st_val hs (y_len Try.runUnderlying22 rfl) trivial rfl rfl fun a hs => ?_
           refine st_val hs (y_move rfl) trivial rfl rfl fun a hs => ?_
           refine wpList_nil ?_
           refine then_normal ?_
           refine wp_block ?_
           refine wp_while (fun sv9006 a w => ∃ (Sv9088 : Nat → Prop), Sl 220 [(2, .int .i64 x9), (3, .int .i64 n10), (4, .int .i64 by11), (11, .pointer (some ⟨b38, 0, none⟩)), (16, .slice p7410 x7403.e0.length k7412), (56, .slice (some ⟨b76, 0, none⟩) ([(⟨rv48.1, rv62.1⟩ : (Arr2 (List Span))), (⟨raw5, rv48.1⟩ : (Arr2 (List Span))), (⟨rv62.1, raw5⟩ : (Arr2 (List Span)))] : List (Arr2 (List Span))).length ([(⟨rv48.1, rv62.1⟩ : (Arr2 (List Span))), (⟨raw5, rv48.1⟩ : (Arr2 (List Span))), (⟨rv62.1, raw5⟩ : (Arr2 (List Span)))] : List (Arr2 (List Span))).length), (57, .int .i64 (([(⟨rv48.1, rv62.1⟩ : (Arr2 (List Span))), (⟨raw5, rv48.1⟩ : (Arr2 (List Span))), (⟨rv62.1, raw5⟩ : (Arr2 (List Span)))] : List (Arr2 (List Span))).length : Int)), (58, .int .i64 sv3217.2.2), (153, .slice (some ⟨b8880, 0, none⟩) ([n10, (w64 (rv8870.1 - 2))] : List Int).length ([n10, (w64 (rv8870.1 - 2))] : List Int).length), (154, .int .i64 (([n10, (w64 (rv8870.1 - 2))] : List Int).length : Int)), (155, .int .i64 sv9006)] a ∧ Wd ⟨w0, S0, []⟩ Sv9088 [.box b38 [.slice p8871 rv8870.2.L.length k8872, .int .i64 rv8870.2.At] 50, .row (some ⟨b76, 0, none⟩) ([(⟨rv48.1, rv62.1⟩ : (Arr2 (List Span))), (⟨raw5, rv48.1⟩ : (Arr2 (List Span))), (⟨rv62.1, raw5⟩ : (Arr2 (List Span)))] : List (Arr2 (List Span))).length ([(⟨rv48.1, rv62.1⟩ : (Arr2 (List Span))), (⟨raw5, rv48.1⟩ : (Arr2 (List Span))), (⟨rv62.1, raw5⟩ : (Arr2 (List Span)))] : List (Arr2 (List Span))).length [.slice p49 rv48.1.length k50, .slice p63 rv62.1.length k64, .slice p6 raw5.length k7, .slice p49 rv48.1.length k50, .slice p63 rv62.1.length k64, .slice p6 raw5.length k7] 45 2, .row (some ⟨b8880, 0, none⟩) ([n10, (w64 (rv8870.1 - 2))] : List Int).length ([n10, (w64 (rv8870.1 - 2))] : List Int).length [.int .i64 n10, .int .i64 (w64 (rv8870.1 - 2))] 3 1] [SlA p7410 x7403.e0.length k7412 x7403.e0, SlA p8871 rv8870.2.L.length k8872 rv8870.2.L, RowA [.slice p49 rv48.1.length k50, .slice p63 rv62.1.length k64, .slice p6 raw5.length k7, .slice p49 rv48.1.length k50, .slice p63 rv62.1.length k64, .slice p6 raw5.length k7] ([(⟨rv48.1, rv62.1⟩ : (Arr2 (List Span))), (⟨raw5, rv48.1⟩ : (Arr2 (List Span))), (⟨rv62.1, raw5⟩ : (Arr2 (List Span)))] : List (Arr2 (List Span))), RowA [.int .i64 n10, .int .i64 (w64 (rv8870.1 - 2))] ([n10, (w64 (rv8870.1 - 2))] : List Int)] w) 0 hsh ⟨Sv8874, (hs.wk rfl), (hw.ft [1, 2, 0] [2, 1, 4, 0] (by decide) rfl rfl)⟩ ?_
           repeat clear hsh
           rintro sv9006 a w tv9130 ⟨Sv9088, hs, hw⟩ hsh hd9129
           delta law08_SpanExact_l27 at hsh
           refine wp_seq ?_
           refine wp_region_lit ?_
           refine st_val hs (y_lss rfl rfl) trivial rfl rfl fun a hs => ?_
           refine wpList_nil ?_
           refine then_normal ?_
           refine wp_seq ?_
           refine wp_cond_split (hs.ev rfl) (fun h9134 => ?_) (fun h9134 => ?_)
           ·have hsh := ite_t hsh h9134
            refine wp_skip ?_
            refine then_normal ?_
            refine wp_seq ?_
            refine wp_block ?_
            refine wp_seq ?_
            refine wp_region_lit ?_
            obtain ⟨x9176, h9174, hsh⟩ := bind_t hsh
            obtain ⟨q9180, c9181, h9177, h9178, h9182, h9175⟩ := hw.elemRK (α := Int) 2 rfl 3 rfl h9174
            obtain ⟨_, rfl, rfl⟩ := h9175
            refine st_val hs (y_indexAt Try.runUnderlying22 Try.sizeOf3 rfl rfl h9177.1 h9177.2 h9178) trivial rfl rfl fun a hs => ?_
            refine st_val hs (y_loadQ1 (j := 0) (hw.ownAt 2 rfl) rfl Try.isAgg3 h9182 rfl) trivial rfl rfl fun a hs => ?_
            refine st_val hs (y_assign rfl) trivial rfl rfl fun a hs => ?_
            refine wpList_nil ?_
            refine then_normal ?_
            refine wp_seq ?_
            refine wp_region_lit ?_
            refine st_val hs (y_move rfl) trivial rfl rfl fun a hs => ?_
            refine st_val hs (y_move rfl) trivial rfl rfl fun a hs => ?_
            obtain ⟨rv9184, h9183, hsh⟩ := bind_t hsh
            refine st_callR hs (span_First_ok h9183 hw.dom (hw.envAt 0 rfl)) (do_call Try.call12 rfl) trivial rfl rfl ?_
            intro v9192 Sv9189 w a h9190 h9191 hs
            obtain ⟨p9185, k9186, c9188, rfl, h9193, h9187⟩ := h9191
            have hw := hw.callN h9190 h9193
            have hw := hw.addE (e := RowA c9188 rv9184) h9187
            refine st_val hs (y_move rfl) trivial rfl rfl fun a hs => ?_
            refine st_val hs (y_move rfl) trivial rfl rfl fun a hs => ?_
            obtain ⟨rv9195, h9194, hsh⟩ := bind_t hsh
            refine st_callR hs (ref08_First_ok h9194 hw.dom (hw.envAt 1 rfl)) (do_call Try.call30 rfl) trivial rfl rfl ?_
            intro v9203 Sv9200 w a h9201 h9202 hs
            obtain ⟨p9196, k9197, c9199, rfl, h9204, h9198⟩ := h9202
            have hw := hw.callN h9201 h9204
            have hw := hw.addE (e := RowA c9199 rv9195) h9198
            obtain ⟨rv9206, h9205, hsh⟩ := bind_t hsh
            refine st_callR hs (ref08_Same_ok h9205 hw.bdom (hw.bRow 1 rfl 1 rfl) (hw.bRow 0 rfl 0 rfl)) (do_call Try.call15 rfl) trivial rfl rfl ?_
            intro v9210 Sv9207 w a h9208 h9209 hs
            subst h9209
            have hw := hw.callB h9208
            refine st_val hs (y_not rfl) trivial rfl rfl fun a hs => ?_
            refine wpList_nil ?_
            refine then_normal ?_
            refine wp_cond_split (hs.ev rfl) (fun h9213 => ?_) (fun h9213 => ?_)
            ·have hsh := ite_t hsh h9213
             refine wp_seq ?_
             refine wp_region_lit ?_
             refine st_val hs (y_assign rfl) trivial rfl rfl fun a hs => ?_
             refine wpList_nil ?_
             refine then_normal ?_
             have hsh := Option.some.inj hsh
             subst hsh
             have h9214 := hd9129 _ rfl
             subst h9214
             have h9215 := hd6353 _ rfl
             subst h9215
             refine wp_ret ?_
             refine blk_ret ?_
             refine then_ret ?_
             refine then_ret ?_
             refine blk_ret ?_
             refine then_ret ?_
             refine blk_ret ?_
             refine then_ret ?_
             refine then_ret ?_
             refine blk_ret ?_
             refine then_ret ?_
             exact ret1 hs rfl (rv_tmp rfl) (hw.ret rfl)
            ·have hsh := ite_f hsh h9213
             refine wp_skip ?_
             refine blk_normal ?_
             refine then_normal ?_
             refine wp_region_lit ?_
             refine st_val hs (y_add rfl rfl) trivial rfl rfl fun a hs => ?_
             refine st_val hs (y_move rfl) trivial rfl rfl fun a hs => ?_
             refine wpList_nil ?_
             refine then_normal ?_
             exact ⟨_, (Option.some.inj hsh).symm, Sv9200, (hs.wk rfl), (hw.ft [2, 3, 4] [2, 3, 4, 5] (by decide) rfl rfl)⟩
           ·have hsh := ite_f hsh h9134
            obtain ⟨rv9664, hsh, h9665⟩ := map_t hsh
            have h9665 := (hd9129 _ h9665.symm).symm
            subst h9665
            refine wp_exit ?_
            refine then_exit ?_
            refine then_exit ?_
            refine blk_exit ?_
            refine then_normal ?_
            refine wp_seq ?_
            refine wp_seq ?_
            refine wp_region_lit ?_
            refine st_val hs (y_move rfl) trivial rfl rfl fun a hs => ?_
            refine st_val hs (y_move rfl) trivial rfl rfl fun a hs => ?_
            obtain ⟨rv9217, h9216, hsh⟩ := bind_t hsh
            refine st_callR hs (made_Dice_Next_ok h9216 hw.dom (hw.ins [0] (by decide) rfl) (hw.envAt 1 rfl)) (do_call Try.call28 rfl) trivial rfl rfl ?_
            intro v9224 Sv9221 w a h9222 h9223 hs
            obtain ⟨p9218, k9219, rfl, h9225, h9220⟩ := h9223
            have hw := hw.callO [0] [1, 2] (by decide) rfl h9222 h9225
            have hw := hw.addE (e := SlA p9218 rv9217.2.L.length k9219 rv9217.2.L) h9220
            refine st_val hs (y_sub rfl rfl) trivial rfl rfl fun a hs => ?_
            refine w_litSlice (α := Int) (vs := [.int .i64 by11, .int .i64 (w64 (rv9217.1 - 4)), .int .i64 1152921504606846976, .int .i64 1152921504606846977]) (cs := [.int .i64 by11, .int .i64 (w64 (rv9217.1 - 4)), .int .i64 1152921504606846976, .int .i64 1152921504606846977]) (xs := ([by11, (w64 (rv9217.1 - 4)), 1152921504606846976, 1152921504606846977] : List Int)) hs hw El22 rfl rfl rfl rfl rfl rfl ⟨⟨_, rfl, rfl⟩, ⟨⟨_, rfl, rfl⟩, ⟨⟨_, rfl, rfl⟩, ⟨⟨_, rfl, rfl⟩, rfl⟩⟩⟩⟩ rfl trivial rfl fun b9227 a w hs hw => ?_
            refine st_val hs (y_len Try.runUnderlying22 rfl) trivial rfl rfl fun a hs => ?_
            refine st_val hs (y_move rfl) trivial rfl rfl fun a hs => ?_
            refine wpList_nil ?_
            refine then_normal ?_
            refine wp_block ?_
            refine wp_while (fun sv9383 a w => ∃ (Sv9485 : Nat → Prop), Sl 220 [(2, .int .i64 x9), (3, .int .i64 n10), (4, .int .i64 by11), (11, .pointer (some ⟨b38, 0, none⟩)), (16, .slice p7410 x7403.e0.length k7412), (56, .slice (some ⟨b76, 0, none⟩) ([(⟨rv48.1, rv62.1⟩ : (Arr2 (List Span))), (⟨raw5, rv48.1⟩ : (Arr2 (List Span))), (⟨rv62.1, raw5⟩ : (Arr2 (List Span)))] : List (Arr2 (List Span))).length ([(⟨rv48.1, rv62.1⟩ : (Arr2 (List Span))), (⟨raw5, rv48.1⟩ : (Arr2 (List Span))), (⟨rv62.1, raw5⟩ : (Arr2 (List Span)))] : List (Arr2 (List Span))).length), (57, .int .i64 (([(⟨rv48.1, rv62.1⟩ : (Arr2 (List Span))), (⟨raw5, rv48.1⟩ : (Arr2 (List Span))), (⟨rv62.1, raw5⟩ : (Arr2 (List Span)))] : List (Arr2 (List Span))).length : Int)), (58, .int .i64 sv3217.2.2), (172, .slice (some ⟨b9227, 0, none⟩) ([by11, (w64 (rv9217.1 - 4)), 1152921504606846976, 1152921504606846977] : List Int).length ([by11, (w64 (rv9217.1 - 4)), 1152921504606846976, 1152921504606846977] : List Int).length), (173, .int .i64 (([by11, (w64 (rv9217.1 - 4)), 1152921504606846976, 1152921504606846977] : List Int).length : Int)), (174, .int .i64 sv9383)] a ∧ Wd ⟨w0, S0, []⟩ Sv9485 [.box b38 [.slice p9218 rv9217.2.L.length k9219, .int .i64 rv9217.2.At] 50, .row (some ⟨b76, 0, none⟩) ([(⟨rv48.1, rv62.1⟩ : (Arr2 (List Span))), (⟨raw5, rv48.1⟩ : (Arr2 (List Span))), (⟨rv62.1, raw5⟩ : (Arr2 (List Span)))] : List (Arr2 (List Span))).length ([(⟨rv48.1, rv62.1⟩ : (Arr2 (List Span))), (⟨raw5, rv48.1⟩ : (Arr2 (List Span))), (⟨rv62.1, raw5⟩ : (Arr2 (List Span)))] : List (Arr2 (List Span))).length [.slice p49 rv48.1.length k50, .slice p63 rv62.1.length k64, .slice p6 raw5.length k7, .slice p49 rv48.1.length k50, .slice p63 rv62.1.length k64, .slice p6 raw5.length k7] 45 2, .row (some ⟨b9227, 0, none⟩) ([by11, (w64 (rv9217.1 - 4)), 1152921504606846976, 1152921504606846977] : List Int).length ([by11, (w64 (rv9217.1 - 4)), 1152921504606846976, 1152921504606846977] : List Int).length [.int .i64 by11, .int .i64 (w64 (rv9217.1 - 4)), .int .i64 1152921504606846976, .int .i64 1152921504606846977] 3 1] [SlA p7410 x7403.e0.length k7412 x7403.e0, SlA p9218 rv9217.2.L.length k9219 rv9217.2.L, RowA [.slice p49 rv48.1.length k50, .slice p63 rv62.1.length k64, .slice p6 raw5.length k7, .slice p49 rv48.1.length k50, .slice p63 rv62.1.length k64, .slice p6 raw5.length k7] ([(⟨rv48.1, rv62.1⟩ : (Arr2 (List Span))), (⟨raw5, rv48.1⟩ : (Arr2 (List Span))), (⟨rv62.1, raw5⟩ : (Arr2 (List Span)))] : List (Arr2 (List Span))), RowA [.int .i64 by11, .int .i64 (w64 (rv9217.1 - 4)), .int .i64 1152921504606846976, .int .i64 1152921504606846977] ([by11, (w64 (rv9217.1 - 4)), 1152921504606846976, 1152921504606846977] : List Int)] w) 0 hsh ⟨Sv9221, (hs.wk rfl), (hw.ft [1, 2, 0] [2, 1, 4, 0] (by decide) rfl rfl)⟩ ?_
            repeat clear hsh
            rintro sv9383 a w tv9537 ⟨Sv9485, hs, hw⟩ hsh hd9536
            delta law08_SpanExact_l29 at hsh
            refine wp_seq ?_
            refine wp_region_lit ?_
            refine st_val hs (y_lss rfl rfl) trivial rfl rfl fun a hs => ?_
            refine wpList_nil ?_
            refine then_normal ?_
            refine wp_seq ?_
            refine wp_cond_split (hs.ev rfl) (fun h9541 => ?_) (fun h9541 => ?_)
            ·have hsh := ite_t hsh h9541
             refine wp_skip ?_
             refine then_normal ?_
             refine wp_seq ?_
             refine wp_block ?_
             refine wp_seq ?_
             refine wp_region_lit ?_
             obtain ⟨x9593, h9591, hsh⟩ := bind_t hsh
             obtain ⟨q9597, c9598, h9594, h9595, h9599, h9592⟩ := hw.elemRK (α := Int) 2 rfl 3 rfl h9591
             obtain ⟨_, rfl, rfl⟩ := h9592
             refine st_val hs (y_indexAt Try.runUnderlying22 Try.sizeOf3 rfl rfl h9594.1 h9594.2 h9595) trivial rfl rfl fun a hs => ?_
             refine st_val hs (y_loadQ1 (j := 0) (hw.ownAt 2 rfl) rfl Try.isAgg3 h9599 rfl) trivial rfl rfl fun a hs => ?_
             refine st_val hs (y_assign rfl) trivial rfl rfl fun a hs => ?_
             refine wpList_nil ?_
             refine then_normal ?_
             refine wp_seq ?_
             refine wp_region_lit ?_
             refine st_val hs (y_move rfl) trivial rfl rfl fun a hs => ?_
             refine st_val hs (y_move rfl) trivial rfl rfl fun a hs => ?_
             obtain ⟨rv9601, h9600, hsh⟩ := bind_t hsh
             refine st_callR hs (span_Shift_ok h9600 hw.dom (hw.envAt 0 rfl)) (do_call Try.call14 rfl) trivial rfl rfl ?_
             intro v9609 Sv9606 w a h9607 h9608 hs
             obtain ⟨p9602, k9603, c9605, rfl, h9610, h9604⟩ := h9608
             have hw := hw.callN h9607 h9610
             have hw := hw.addE (e := RowA c9605 rv9601.1) h9604
             refine st_val hs (y_move rfl) trivial rfl rfl fun a hs => ?_
             refine st_val hs (y_extract rfl rfl) trivial rfl rfl fun a hs => ?_
             refine st_val hs (y_extract rfl rfl) trivial rfl rfl fun a hs => ?_
             refine st_val hs (y_assign rfl) trivial rfl rfl fun a hs => ?_
             refine st_val hs (y_assign rfl) trivial rfl rfl fun a hs => ?_
             refine wpList_nil ?_
             refine then_normal ?_
             refine wp_seq ?_
             refine wp_region_lit ?_
             refine st_val hs (y_move rfl) trivial rfl rfl fun a hs => ?_
             refine st_val hs (y_move rfl) trivial rfl rfl fun a hs => ?_
             obtain ⟨rv9612, h9611, hsh⟩ := bind_t hsh
             refine st_callR hs (ref08_Shift_ok h9611 hw.dom (hw.envAt 1 rfl)) (do_call Try.call31 rfl) trivial rfl rfl ?_
             intro v9620 Sv9617 w a h9618 h9619 hs
             obtain ⟨p9613, k9614, c9616, rfl, h9621, h9615⟩ := h9619
             have hw := hw.callN h9618 h9621
             have hw := hw.addE (e := RowA c9616 rv9612.1) h9615
             refine st_val hs (y_move rfl) trivial rfl rfl fun a hs => ?_
             refine st_val hs (y_extract rfl rfl) trivial rfl rfl fun a hs => ?_
             refine st_val hs (y_extract rfl rfl) trivial rfl rfl fun a hs => ?_
             refine st_val hs (y_assign rfl) trivial rfl rfl fun a hs => ?_
             refine st_val hs (y_assign rfl) trivial rfl rfl fun a hs => ?_
             refine wpList_nil ?_
             refine then_normal ?_
             refine wp_seq ?_
             refine wp_region_lit ?_
             refine st_val hs (y_move rfl) trivial rfl rfl fun a hs => ?_
             refine st_val hs (y_move rfl) trivial rfl rfl fun a hs => ?_
             refine st_val hs (y_neq rfl rfl) trivial rfl rfl fun a hs => ?_
             refine st_val hs (y_move rfl) trivial rfl rfl fun a hs => ?_
             obtain ⟨c9630, hc9630, hsh⟩ := bind_t hsh
             refine wpl_join 5 (fun a w => ∃ (Sv9631 : Nat → Prop), Sl 220 [(2, .int .i64 x9), (3, .int .i64 n10), (4, .int .i64 by11), (11, .pointer (some ⟨b38, 0, none⟩)), (16, .slice p7410 x7403.e0.length k7412), (56, .slice (some ⟨b76, 0, none⟩) ([(⟨rv48.1, rv62.1⟩ : (Arr2 (List Span))), (⟨raw5, rv48.1⟩ : (Arr2 (List Span))), (⟨rv62.1, raw5⟩ : (Arr2 (List Span)))] : List (Arr2 (List Span))).length ([(⟨rv48.1, rv62.1⟩ : (Arr2 (List Span))), (⟨raw5, rv48.1⟩ : (Arr2 (List Span))), (⟨rv62.1, raw5⟩ : (Arr2 (List Span)))] : List (Arr2 (List Span))).length), (57, .int .i64 (([(⟨rv48.1, rv62.1⟩ : (Arr2 (List Span))), (⟨raw5, rv48.1⟩ : (Arr2 (List Span))), (⟨rv62.1, raw5⟩ : (Arr2 (List Span)))] : List (Arr2 (List Span))).length : Int)), (58, .int .i64 sv3217.2.2), (172, .slice (some ⟨b9227, 0, none⟩) ([by11, (w64 (rv9217.1 - 4)), 1152921504606846976, 1152921504606846977] : List Int).length ([by11, (w64 (rv9217.1 - 4)), 1152921504606846976, 1152921504606846977] : List Int).length), (173, .int .i64 (([by11, (w64 (rv9217.1 - 4)), 1152921504606846976, 1152921504606846977] : List Int).length : Int)), (174, .int .i64 sv9383), (198, .bool c9630)] a ∧ Wd ⟨w0, S0, []⟩ Sv9631 [.box b38 [.slice p9218 rv9217.2.L.length k9219, .int .i64 rv9217.2.At] 50, .row (some ⟨b76, 0, none⟩) ([(⟨rv48.1, rv62.1⟩ : (Arr2 (List Span))), (⟨raw5, rv48.1⟩ : (Arr2 (List Span))), (⟨rv62.1, raw5⟩ : (Arr2 (List Span)))] : List (Arr2 (List Span))).length ([(⟨rv48.1, rv62.1⟩ : (Arr2 (List Span))), (⟨raw5, rv48.1⟩ : (Arr2 (List Span))), (⟨rv62.1, raw5⟩ : (Arr2 (List Span)))] : List (Arr2 (List Span))).length [.slice p49 rv48.1.length k50, .slice p63 rv62.1.length k64, .slice p6 raw5.length k7, .slice p49 rv48.1.length k50, .slice p63 rv62.1.length k64, .slice p6 raw5.length k7] 45 2, .row (some ⟨b9227, 0, none⟩) ([by11, (w64 (rv9217.1 - 4)), 1152921504606846976, 1152921504606846977] : List Int).length ([by11, (w64 (rv9217.1 - 4)), 1152921504606846976, 1152921504606846977] : List Int).length [.int .i64 by11, .int .i64 (w64 (rv9217.1 - 4)), .int .i64 1152921504606846976, .int .i64 1152921504606846977] 3 1] [SlA p7410 x7403.e0.length k7412 x7403.e0, SlA p9218 rv9217.2.L.length k9219 rv9217.2.L, RowA [.slice p49 rv48.1.length k50, .slice p63 rv62.1.length k64, .slice p6 raw5.length k7, .slice p49 rv48.1.length k50, .slice p63 rv62.1.length k64, .slice p6 raw5.length k7] ([(⟨rv48.1, rv62.1⟩ : (Arr2 (List Span))), (⟨raw5, rv48.1⟩ : (Arr2 (List Span))), (⟨rv62.1, raw5⟩ : (Arr2 (List Span)))] : List (Arr2 (List Span))), RowA [.int .i64 by11, .int .i64 (w64 (rv9217.1 - 4)), .int .i64 1152921504606846976, .int .i64 1152921504606846977] ([by11, (w64 (rv9217.1 - 4)), 1152921504606846976, 1152921504606846977] : List Int)] w) ?_ ?_
             ·rcases Bool.eq_false_or_eq_true (rv9601.2 != rv9612.2) with h9629 | h9629
              ·have hs := hs.fix 193 (.bool true) rfl (vb h9629)
               have hsh := ite_t hc9630 h9629
               refine st_skip hs rfl rfl rfl rfl rfl fun a hs => ?_
               refine st_skip hs rfl rfl rfl rfl rfl fun a hs => ?_
               refine st_skip hs rfl rfl rfl rfl rfl fun a hs => ?_
               refine st_skip hs rfl rfl rfl rfl rfl fun a hs => ?_
               refine st_val hs (y_pickT rfl rfl) trivial rfl rfl fun a hs => ?_
               refine wpList_nil ?_
               have hsh := Option.some.inj hsh
               subst hsh
               refine then_normal ?_
               exact ⟨Sv9617, (hs.wk rfl), (hw.ft [2, 3, 4] [2, 3, 4, 5] (by decide) rfl rfl)⟩
              ·have hs := hs.fix 193 (.bool false) rfl (vb h9629)
               have hsh := ite_f hc9630 h9629
               refine st_val hs (y_move rfl) ⟨_, rfl, rfl⟩ rfl rfl fun a hs => ?_
               refine st_val hs (y_move rfl) ⟨_, rfl, rfl⟩ rfl rfl fun a hs => ?_
               obtain ⟨rv9633, h9632, hsh⟩ := bind_t hsh
               refine st_callR hs (ref08_Same_ok h9632 hw.bdom (hw.bRow 1 rfl 1 rfl) (hw.bRow 0 rfl 0 rfl)) (do_call Try.call15 rfl) ⟨_, rfl, rfl⟩ rfl rfl ?_
               intro v9637 Sv9634 w a h9635 h9636 hs
               subst h9636
               have hw := hw.callB h9635
               refine st_val hs (y_not rfl) ⟨_, rfl, rfl⟩ rfl rfl fun a hs => ?_
               refine st_val hs (y_pickF rfl rfl) trivial rfl rfl fun a hs => ?_
               refine wpList_nil ?_
               have hsh := Option.some.inj hsh
               subst hsh
               refine then_normal ?_
               exact ⟨Sv9617, (hs.wk rfl), (hw.ft [2, 3, 4] [2, 3, 4, 5] (by decide) rfl rfl)⟩
             ·rintro a w ⟨Sv9631, hs, hw⟩
              refine wpList_nil ?_
              refine then_normal ?_
              refine wp_cond_split (hs.ev rfl) (fun h9640 => ?_) (fun h9640 => ?_)
              ·have hsh := ite_t hsh h9640
               refine wp_seq ?_
               refine wp_region_lit ?_
               refine st_val hs (y_assign rfl) trivial rfl rfl fun a hs => ?_
               refine wpList_nil ?_
               refine then_normal ?_
               have hsh := Option.some.inj hsh
               subst hsh
               have h9641 := hd9536 _ rfl
               subst h9641
               have h9642 := hd6353 _ rfl
               subst h9642
               refine wp_ret ?_
               refine blk_ret ?_
               refine then_ret ?_
               refine then_ret ?_
               refine blk_ret ?_
               refine then_ret ?_
               refine blk_ret ?_
               refine then_ret ?_
               refine then_ret ?_
               refine blk_ret ?_
               refine then_ret ?_
               exact ret1 hs rfl (rv_tmp rfl) (hw.ret rfl)
              ·have hsh := ite_f hsh h9640
               refine wp_skip ?_
               refine blk_normal ?_
               refine then_normal ?_
               refine wp_region_lit ?_
               refine st_val hs (y_add rfl rfl) trivial rfl rfl fun a hs => ?_
               refine st_val hs (y_move rfl) trivial rfl rfl fun a hs => ?_
               refine wpList_nil ?_
               refine then_normal ?_
               exact ⟨_, (Option.some.inj hsh).symm, Sv9631, (hs.wk rfl), (hw.ft [0, 1, 2] [0, 1, 2, 3] (by decide) rfl rfl)⟩
            ·have hsh := ite_f hsh h9541
             obtain ⟨rv9662, hsh, h9663⟩ := map_t hsh
             have h9663 := (hd9536 _ h9663.symm).symm
             subst h9663
             refine wp_exit ?_
             refine then_exit ?_
             refine then_exit ?_
             refine blk_exit ?_
             refine then_normal ?_
             refine wp_seq ?_
             refine wp_region_lit ?_
             refine st_val hs (y_move rfl) trivial rfl rfl fun a hs => ?_
             obtain ⟨rv9644, h9643, hsh⟩ := bind_t hsh
             refine st_callR hs (span_Length_ok h9643 hw.bdom (hw.bE 0 rfl)) (do_call Try.call11 rfl) trivial rfl rfl ?_
             intro v9648 Sv9645 w a h9646 h9647 hs
             subst h9647
             have hw := hw.callB h9646
             refine st_val hs (y_move rfl) trivial rfl rfl fun a hs => ?_
             refine st_val hs (y_extract rfl rfl) trivial rfl rfl fun a hs => ?_
             refine st_val hs (y_extract rfl rfl) trivial rfl rfl fun a hs => ?_
             refine st_val hs (y_assign rfl) trivial rfl rfl fun a hs => ?_
             refine st_val hs (y_assign rfl) trivial rfl rfl fun a hs => ?_
             refine wpList_nil ?_
             refine then_normal ?_
             refine wp_seq ?_
             refine wp_region_lit ?_
             refine st_val hs (y_move rfl) trivial rfl rfl fun a hs => ?_
             obtain ⟨rv9651, h9650, hsh⟩ := bind_t hsh
             refine st_callR hs (ref08_Length_ok h9650 hw.bdom (hw.bE 0 rfl)) (do_call Try.call32 rfl) trivial rfl rfl ?_
             intro v9655 Sv9652 w a h9653 h9654 hs
             subst h9654
             have hw := hw.callB h9653
             refine st_val hs (y_move rfl) trivial rfl rfl fun a hs => ?_
             refine st_val hs (y_extract rfl rfl) trivial rfl rfl fun a hs => ?_
             refine st_val hs (y_extract rfl rfl) trivial rfl rfl fun a hs => ?_
             refine st_val hs (y_assign rfl) trivial rfl rfl fun a hs => ?_
             refine st_val hs (y_assign rfl) trivial rfl rfl fun a hs => ?_
             refine wpList_nil ?_
             refine then_normal ?_
             refine wp_seq ?_
             refine wp_region_lit ?_
             refine st_val hs (y_move rfl) trivial rfl rfl fun a hs => ?_
             refine st_val hs (y_move rfl) trivial rfl rfl fun a hs => ?_
             refine st_val hs (y_neq rfl rfl) trivial rfl rfl fun a hs => ?_
             refine st_val hs (y_move rfl) trivial rfl rfl fun a hs => ?_
             refine wpl_join 4 (fun a w1 => w = w1 ∧ Sl 220 [(2, .int .i64 x9), (3, .int .i64 n10), (4, .int .i64 by11), (11, .pointer (some ⟨b38, 0, none⟩)), (56, .slice (some ⟨b76, 0, none⟩) ([(⟨rv48.1, rv62.1⟩ : (Arr2 (List Span))), (⟨raw5, rv48.1⟩ : (Arr2 (List Span))), (⟨rv62.1, raw5⟩ : (Arr2 (List Span)))] : List (Arr2 (List Span))).length ([(⟨rv48.1, rv62.1⟩ : (Arr2 (List Span))), (⟨raw5, rv48.1⟩ : (Arr2 (List Span))), (⟨rv62.1, raw5⟩ : (Arr2 (List Span)))] : List (Arr2 (List Span))).length), (57, .int .i64 (([(⟨rv48.1, rv62.1⟩ : (Arr2 (List Span))), (⟨raw5, rv48.1⟩ : (Arr2 (List Span))), (⟨rv62.1, raw5⟩ : (Arr2 (List Span)))] : List (Arr2 (List Span))).length : Int)), (58, .int .i64 sv3217.2.2), (217, .bool ((rv9644.1 != rv9651.1) || (!(rv9644.2 == rv9651.2))))] a) ?_ ?_
             ·rcases Bool.eq_false_or_eq_true (rv9644.1 != rv9651.1) with h9657 | h9657
              ·have hs := hs.fix 213 (.bool true) rfl (vb h9657)
               refine st_skip hs rfl rfl rfl rfl rfl fun a hs => ?_
               refine st_skip hs rfl rfl rfl rfl rfl fun a hs => ?_
               refine st_skip hs rfl rfl rfl rfl rfl fun a hs => ?_
               refine st_val hs (y_pickT rfl rfl) trivial rfl rfl fun a hs => ?_
               refine wpList_nil ?_
               refine then_normal ?_
               exact ⟨rfl, (hs.fix 217 (.bool ((rv9644.1 != rv9651.1) || (!(rv9644.2 == rv9651.2)))) rfl (or_t h9657)).weaken _ ⟨rfl, rfl, rfl, rfl, rfl, rfl, rfl, rfl, trivial⟩⟩
              ·have hs := hs.fix 213 (.bool false) rfl (vb h9657)
               refine st_val hs (y_move rfl) ⟨_, rfl, rfl⟩ rfl rfl fun a hs => ?_
               refine st_val hs (y_move rfl) ⟨_, rfl, rfl⟩ rfl rfl fun a hs => ?_
               refine st_val hs (y_neqB Try.runUnderlying4 rfl rfl) ⟨_, rfl, rfl⟩ rfl rfl fun a hs => ?_
               refine st_val hs (y_pickF rfl rfl) trivial rfl rfl fun a hs => ?_
               refine wpList_nil ?_
               refine then_normal ?_
               exact ⟨rfl, (hs.fix 217 (.bool ((rv9644.1 != rv9651.1) || (!(rv9644.2 == rv9651.2)))) rfl (or_f h9657)).weaken _ ⟨rfl, rfl, rfl, rfl, rfl, rfl, rfl, rfl, trivial⟩⟩
             ·rintro a w1 ⟨h9661, hs⟩
              subst h9661
              refine wpList_nil ?_
              refine then_normal ?_
              refine wp_cond_split (hs.ev rfl) (fun h9659 => ?_) (fun h9659 => ?_)
              ·have hsh := ite_t hsh h9659
               refine wp_seq ?_
               refine wp_region_lit ?_
               refine st_val hs (y_assign rfl) trivial rfl rfl fun a hs => ?_
               refine wpList_nil ?_
               refine then_normal ?_
               have hsh := Option.some.inj hsh
               subst hsh
               have h9660 := hd6353 _ rfl
               subst h9660
               refine wp_ret ?_
               refine blk_ret ?_
               refine then_ret ?_
               refine then_ret ?_
               refine blk_ret ?_
               refine then_ret ?_
               exact ret1 hs rfl (rv_tmp rfl) (hw.ret rfl)
              ·have hsh := ite_f hsh h9659
               refine wp_skip ?_
               refine blk_normal ?_
               refine then_normal ?_
               refine wp_region_lit ?_
               refine st_val hs (y_add rfl rfl) trivial rfl rfl fun a hs => ?_
               refine st_val hs (y_move rfl) trivial rfl rfl fun a hs => ?_
               refine wpList_nil ?_
               refine then_normal ?_
               exact ⟨_, (Option.some.inj hsh).symm, p9218, k9219, Sv9485, (hs.wk rfl), (hw.ft [0, 1] [1, 2] (by decide) rfl rfl)⟩
   ·have hsh := ite_f hsh h6358
    obtain ⟨rv9675, hsh, h9676⟩ := map_t hsh
    have h9676 := (hd6353 _ h9676.symm).symm
    subst h9676
    refine wp_exit ?_
    refine then_exit ?_
    refine then_exit ?_
    refine blk_exit ?_
    refine then_normal ?_
    refine wp_seq ?_
    refine wp_region_lit ?_
    obtain ⟨rv9669, h9668, hsh⟩ := bind_t hsh
    refine st_callR hs (law08_sane_ok h9668 hw.bdom) (do_call Try.call8 rfl) trivial rfl rfl ?_
    intro v9673 Sv9670 w a h9671 h9672 hs
    subst h9672
    have hw := hw.callB h9671
    refine st_val hs (y_assign rfl) trivial rfl rfl fun a hs => ?_
    refine wpList_nil ?_
    refine then_normal ?_
    have hsh := Option.some.inj hsh
    subst hsh
    refine wp_ret ?_
    exact ret1 hs rfl (rv_tmp rfl) (hw.ret rfl)

end Go.Proofs.Ytmdnhgjpkdainaa.Wk

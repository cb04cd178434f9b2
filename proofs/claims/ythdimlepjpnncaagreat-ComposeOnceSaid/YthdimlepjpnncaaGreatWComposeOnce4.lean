/- The walks of ComposeOnce, part 4: each Go function computes what its plain program computes. Printed by a program of ours. -/
import Derived.Test.YthdimlepjpnncaaGreatProg
import Derived.Test.YthdimlepjpnncaaGreatDat
import Derived.Test.YthdimlepjpnncaaGreatSh
import Derived.Test.YthdimlepjpnncaaGreatLibL
import Derived.Test.YthdimlepjpnncaaGreatLibZ
import Derived.Test.YthdimlepjpnncaaGreatLibQ
import Derived.KernelRfl
import Derived.Test.YthdimlepjpnncaaGreatLibU
import Derived.Shelf.SlLaysF0
import Derived.Test.YthdimlepjpnncaaGreatWComposeOnce3
namespace Go.Proofs.YthdimlepjpnncaaGreat.Wk
open Go Go.RowKit Go.Proofs Go.Proofs.YthdimlepjpnncaaGreat.Sh
set_option linter.unusedVariables false
set_option linter.unusedSimpArgs false

abbrev ref14_Sub_rd (w0 : World) (X : List Nat) (r : (Record × Int)) : (Nat → Prop) → World → Value → Prop := fun S w v => ∃ (p0_11 : Option Addr) (k0_11 : Nat) (c0_11 : List Value), v = .tuple #[.agg #[.string r.1.Source.Network, .string r.1.Source.Station, .string r.1.Source.Location, .string r.1.Source.Channel, .int .i64 r.1.Start, .int .i64 r.1.First, .int .i64 r.1.Rate.Num, .int .i64 r.1.Rate.Den, .int .i64 r.1.Error, .int .i64 r.1.Run, .int .i64 r.1.Seq, .slice p0_11 r.1.Samples.length k0_11], .int .i64 r.2] ∧ Outs X w0 S w [.row p0_11 r.1.Samples.length k0_11 c0_11 3 1] ∧ (RowA c0_11 r.1.Samples).p S w
set_option maxHeartbeats 4000000 in
set_option maxRecDepth 100000 in
theorem ref14_Sub_ok {w0 : World} {S0 : Nat → Prop} {p2 : Option Addr} {k3 : Nat} {r1 : Record} {from5 : Int} {to6 : Int} {r : (Record × Int)} (hsh : ref14_Sub r1 from5 to6 = some r) (hS : ∀ b, S0 b → b < w0.heap.size) (h4 : (SlA p2 r1.Samples.length k3 r1.Samples).p S0 w0) : Calls Tryz.prog 28 #[.agg #[.string r1.Source.Network, .string r1.Source.Station, .string r1.Source.Location, .string r1.Source.Channel, .int .i64 r1.Start, .int .i64 r1.First, .int .i64 r1.Rate.Num, .int .i64 r1.Rate.Den, .int .i64 r1.Error, .int .i64 r1.Run, .int .i64 r1.Seq, .slice p2 r1.Samples.length k3], .int .i64 from5, .int .i64 to6] w0 (Ret ([]) w0 S0 (ref14_Sub_rd w0 ([]) r)) := by
 refine calls_of_wp Tryz.func28 rfl ?_
 have hs := Sl.enter #[.agg #[.string r1.Source.Network, .string r1.Source.Station, .string r1.Source.Location, .string r1.Source.Channel, .int .i64 r1.Start, .int .i64 r1.First, .int .i64 r1.Rate.Num, .int .i64 r1.Rate.Den, .int .i64 r1.Error, .int .i64 r1.Run, .int .i64 r1.Seq, .slice p2 r1.Samples.length k3], .int .i64 from5, .int .i64 to6] 42 [(0, .agg #[.string r1.Source.Network, .string r1.Source.Station, .string r1.Source.Location, .string r1.Source.Channel, .int .i64 r1.Start, .int .i64 r1.First, .int .i64 r1.Rate.Num, .int .i64 r1.Rate.Den, .int .i64 r1.Error, .int .i64 r1.Run, .int .i64 r1.Seq, .slice p2 r1.Samples.length k3]), (1, .int .i64 from5), (2, .int .i64 to6)] rfl ⟨rfl, rfl, rfl, trivial⟩
 have hw := Wd.enter (E := []) hS (fun _ h => (by cases h))
 have hw := hw.addE h4
 delta ref14_Sub at hsh
 refine sr ?_
 refine w_box (cs := [.string r1.Source.Network, .string r1.Source.Station, .string r1.Source.Location, .string r1.Source.Channel, .int .i64 r1.Start, .int .i64 r1.First, .int .i64 r1.Rate.Num, .int .i64 r1.Rate.Den, .int .i64 r1.Error, .int .i64 r1.Run, .int .i64 r1.Seq, .slice p2 r1.Samples.length k3]) hs hw rfl rfl rfl trivial ?_
 intro b7 a w hs hw
 refine w_alloc (cs := [.string ByteArray.empty, .string ByteArray.empty, .string ByteArray.empty, .string ByteArray.empty, .int .i64 0, .int .i64 0, .int .i64 0, .int .i64 0, .int .i64 0, .int .i64 0, .int .i64 0, .slice none ([] : List Int).length 0]) hs hw Tryz.zeroValue35 rfl rfl trivial ?_
 intro b8 a w hs hw
 refine av hs rfl rfl fun a hs => ?_
 refine nl ?_
 refine wp_seq ?_
 refine sr ?_
 refine sv hs (y_loadBA (hw.ownAt 1 rfl) rfl Tryz.isAgg35 Tryz.sizeOf35 rfl rfl) rfl fun a hs => ?_
 obtain ⟨rv10, h9, hsh⟩ := bind_t hsh
 refine st_callR hs (ref14_Valid_ok h9 hw.bdom (hw.bE 0 rfl)) (do_call Tryz.call51 rfl) trivial rfl rfl ?_
 intro v14 Sv11 w a h12 h13 hs
 subst h13
 have hw := hw.callB h12
 refine sv hs (y_not rfl) rfl fun a hs => ?_
 refine nl ?_
 refine wp_cond_split (hs.ev rfl) (fun h17 => ?_) (fun h17 => ?_)
 ·have hsh := ite_t hsh h17
  refine sr ?_
  refine sv hs (y_build (vs := []) Bld35 rfl rfl) rfl fun a hs => ?_
  refine w_store (m := 12) (cs' := [.string ByteArray.empty, .string ByteArray.empty, .string ByteArray.empty, .string ByteArray.empty, .int .i64 0, .int .i64 0, .int .i64 0, .int .i64 0, .int .i64 0, .int .i64 0, .int .i64 0, .slice none ([] : List Int).length 0]) hs hw 0 rfl rfl rfl Tryz.sizeOf35 rfl rfl rfl rfl trivial ?_
  intro a w hs hw
  refine av hs rfl rfl fun a hs => ?_
  refine nl ?_
  have hsh := oi hsh
  subst hsh
  have hw := hw.nilRow Int 3
  refine wp_ret ?_
  refine then_ret ?_
  exact ret2 hs rfl (rv_cell hw 1 rfl rfl Tryz.isAgg35 Tryz.sizeOf35 rfl) (rv_tmp rfl) (hw.ret ⟨none, 0, [], rfl, (hw.outs [0] (by decide) rfl), (hw.envAt 0 rfl)⟩)
 have hsh := ite_f hsh h17
 refine wp_skip ?_
 refine then_normal ?_
 refine wp_seq ?_
 refine sr ?_
 refine mv hs rfl rfl fun a hs => ?_
 refine sv hs (y_lss rfl rfl) rfl fun a hs => ?_
 refine mv hs rfl rfl fun a hs => ?_
 refine wpl_join 4 (fun a w1 => w = w1 ∧ Sl 42 [(1, .int .i64 from5), (2, .int .i64 to6), (3, .pointer (some ⟨b7, 0, none⟩)), (6, .pointer (some ⟨b8, 0, none⟩)), (19, .bool ((decide (from5 < 0)) || (decide (to6 ≤ from5))))] a) ?_ ?_
 ·rcases Bool.eq_false_or_eq_true (decide (from5 < 0)) with h18 | h18
  ·have hs := hs.fix 15 (.bool true) rfl (vb h18)
   refine st_skip hs rfl rfl rfl rfl rfl fun a hs => ?_
   refine st_skip hs rfl rfl rfl rfl rfl fun a hs => ?_
   refine st_skip hs rfl rfl rfl rfl rfl fun a hs => ?_
   refine sv hs (y_pickT rfl rfl) rfl fun a hs => ?_
   refine nl ?_
   exact ⟨rfl, (hs.fix 19 (.bool ((decide (from5 < 0)) || (decide (to6 ≤ from5)))) rfl (or_t h18)).weaken _ ⟨rfl, rfl, rfl, rfl, rfl, trivial⟩⟩
  have hs := hs.fix 15 (.bool false) rfl (vb h18)
  refine st_val hs (y_move rfl) ⟨_, rfl, rfl⟩ rfl rfl fun a hs => ?_
  refine st_val hs (y_move rfl) ⟨_, rfl, rfl⟩ rfl rfl fun a hs => ?_
  refine st_val hs (y_geq rfl rfl) ⟨_, rfl, rfl⟩ rfl rfl fun a hs => ?_
  refine sv hs (y_pickF rfl rfl) rfl fun a hs => ?_
  refine nl ?_
  exact ⟨rfl, (hs.fix 19 (.bool ((decide (from5 < 0)) || (decide (to6 ≤ from5)))) rfl (or_f h18)).weaken _ ⟨rfl, rfl, rfl, rfl, rfl, trivial⟩⟩
 rintro a w1 ⟨h35, hs⟩
 subst h35
 refine mv hs rfl rfl fun a hs => ?_
 refine wpl_join 6 (fun a w1 => w = w1 ∧ Sl 42 [(1, .int .i64 from5), (2, .int .i64 to6), (3, .pointer (some ⟨b7, 0, none⟩)), (6, .pointer (some ⟨b8, 0, none⟩)), (26, .bool (((decide (from5 < 0)) || (decide (to6 ≤ from5))) || (decide ((r1.Samples.length : Int) < to6))))] a) ?_ ?_
 ·rcases Bool.eq_false_or_eq_true ((decide (from5 < 0)) || (decide (to6 ≤ from5))) with h19 | h19
  ·have hs := hs.fix 20 (.bool true) rfl (vb h19)
   refine st_skip hs rfl rfl rfl rfl rfl fun a hs => ?_
   refine st_skip hs rfl rfl rfl rfl rfl fun a hs => ?_
   refine st_skip hs rfl rfl rfl rfl rfl fun a hs => ?_
   refine st_skip hs rfl rfl rfl rfl rfl fun a hs => ?_
   refine st_skip hs rfl rfl rfl rfl rfl fun a hs => ?_
   refine sv hs (y_pickT rfl rfl) rfl fun a hs => ?_
   refine nl ?_
   exact ⟨rfl, (hs.fix 26 (.bool (((decide (from5 < 0)) || (decide (to6 ≤ from5))) || (decide ((r1.Samples.length : Int) < to6)))) rfl (or_t h19)).weaken _ ⟨rfl, rfl, rfl, rfl, rfl, trivial⟩⟩
  have hs := hs.fix 20 (.bool false) rfl (vb h19)
  refine st_val hs (y_move rfl) ⟨_, rfl, rfl⟩ rfl rfl fun a hs => ?_
  refine st_val hs (y_fieldAddr (o' := 11) Tryz.runUnderlying35 rfl Tryz.sizeOf22 rfl rfl rfl) ⟨_, rfl, rfl⟩ rfl rfl fun a hs => ?_
  refine st_val hs (y_loadB1 (hw.ownAt 1 rfl) rfl Tryz.isAgg22 rfl) ⟨_, rfl, rfl⟩ rfl rfl fun a hs => ?_
  refine st_val hs (y_len Tryz.runUnderlying22 rfl) ⟨_, rfl, rfl⟩ rfl rfl fun a hs => ?_
  refine st_val hs (y_gtr rfl rfl) ⟨_, rfl, rfl⟩ rfl rfl fun a hs => ?_
  refine sv hs (y_pickF rfl rfl) rfl fun a hs => ?_
  refine nl ?_
  exact ⟨rfl, (hs.fix 26 (.bool (((decide (from5 < 0)) || (decide (to6 ≤ from5))) || (decide ((r1.Samples.length : Int) < to6)))) rfl (or_f h19)).weaken _ ⟨rfl, rfl, rfl, rfl, rfl, trivial⟩⟩
 rintro a w1 ⟨h34, hs⟩
 subst h34
 refine nl ?_
 refine wp_cond_split (hs.ev rfl) (fun h21 => ?_) (fun h21 => ?_)
 ·have hsh := ite_t hsh h21
  refine sr ?_
  refine sv hs (y_build (vs := []) Bld35 rfl rfl) rfl fun a hs => ?_
  refine w_store (m := 12) (cs' := [.string ByteArray.empty, .string ByteArray.empty, .string ByteArray.empty, .string ByteArray.empty, .int .i64 0, .int .i64 0, .int .i64 0, .int .i64 0, .int .i64 0, .int .i64 0, .int .i64 0, .slice none ([] : List Int).length 0]) hs hw 0 rfl rfl rfl Tryz.sizeOf35 rfl rfl rfl rfl trivial ?_
  intro a w hs hw
  refine av hs rfl rfl fun a hs => ?_
  refine nl ?_
  have hsh := oi hsh
  subst hsh
  have hw := hw.nilRow Int 3
  refine wp_ret ?_
  refine then_ret ?_
  exact ret2 hs rfl (rv_cell hw 1 rfl rfl Tryz.isAgg35 Tryz.sizeOf35 rfl) (rv_tmp rfl) (hw.ret ⟨none, 0, [], rfl, (hw.outs [0] (by decide) rfl), (hw.envAt 0 rfl)⟩)
 have hsh := ite_f hsh h21
 refine wp_skip ?_
 refine then_normal ?_
 refine sr ?_
 refine sv hs (y_loadBA (hw.ownAt 1 rfl) rfl Tryz.isAgg35 Tryz.sizeOf35 rfl rfl) rfl fun a hs => ?_
 refine w_alloc (cs := [.string ByteArray.empty, .string ByteArray.empty, .string ByteArray.empty, .string ByteArray.empty, .int .i64 0, .int .i64 0, .int .i64 0, .int .i64 0, .int .i64 0, .int .i64 0, .int .i64 0, .slice none ([] : List Int).length 0]) hs hw Tryz.zeroValue35 rfl rfl trivial ?_
 intro b22 a w hs hw
 refine w_store (m := 12) (cs' := [.string r1.Source.Network, .string r1.Source.Station, .string r1.Source.Location, .string r1.Source.Channel, .int .i64 r1.Start, .int .i64 r1.First, .int .i64 r1.Rate.Num, .int .i64 r1.Rate.Den, .int .i64 r1.Error, .int .i64 r1.Run, .int .i64 r1.Seq, .slice p2 r1.Samples.length k3]) hs hw 0 rfl rfl rfl Tryz.sizeOf35 rfl rfl rfl rfl trivial ?_
 intro a w hs hw
 refine nl ?_
 refine sr ?_
 refine sv hs (y_fieldAddr (o' := 5) Tryz.runUnderlying35 rfl Tryz.sizeOf3 rfl rfl rfl) rfl fun a hs => ?_
 refine sv hs (y_loadB1 (hw.ownAt 2 rfl) rfl Tryz.isAgg3 rfl) rfl fun a hs => ?_
 refine mv hs rfl rfl fun a hs => ?_
 refine sv hs (y_add rfl rfl) rfl fun a hs => ?_
 refine sv hs (y_fieldAddr (o' := 5) Tryz.runUnderlying35 rfl Tryz.sizeOf3 rfl rfl rfl) rfl fun a hs => ?_
 refine w_store (m := 1) (cs' := [.string r1.Source.Network, .string r1.Source.Station, .string r1.Source.Location, .string r1.Source.Channel, .int .i64 r1.Start, .int .i64 (w64 (r1.First + from5)), .int .i64 r1.Rate.Num, .int .i64 r1.Rate.Den, .int .i64 r1.Error, .int .i64 r1.Run, .int .i64 r1.Seq, .slice p2 r1.Samples.length k3]) hs hw 0 rfl rfl rfl Tryz.sizeOf3 rfl rfl rfl rfl trivial ?_
 intro a w hs hw
 refine nl ?_
 refine sr ?_
 refine sv hs (y_fieldAddr (o' := 11) Tryz.runUnderlying35 rfl Tryz.sizeOf22 rfl rfl rfl) rfl fun a hs => ?_
 refine sv hs (y_loadB1 (hw.ownAt 2 rfl) rfl Tryz.isAgg22 rfl) rfl fun a hs => ?_
 refine mv hs rfl rfl fun a hs => ?_
 refine mv hs rfl rfl fun a hs => ?_
 obtain ⟨l28, h23, hsh⟩ := bind_t hsh
 obtain ⟨p26, k27, h24, h25⟩ := sub_env (hw.envAt 0 rfl) h23
 have hw := hw.addE h24
 refine sv hs (y_slc Tryz.runUnderlying22 Tryz.sizeOf3 rfl ⟨_, rfl⟩ ⟨_, rfl⟩ h25) rfl fun a hs => ?_
 obtain ⟨l30, h29, hsh⟩ := bind_t hsh
 have hw := hw.nilRow Int 3
 refine w_appendE (α := Int) hs hw El22 0 rfl rfl rfl 0 rfl 1 rfl h29 rfl trivial ?_
 intro p31 k32 c33 a w hs hw
 refine sv hs (y_fieldAddr (o' := 11) Tryz.runUnderlying35 rfl Tryz.sizeOf22 rfl rfl rfl) rfl fun a hs => ?_
 refine w_store (m := 1) (cs' := [.string r1.Source.Network, .string r1.Source.Station, .string r1.Source.Location, .string r1.Source.Channel, .int .i64 r1.Start, .int .i64 (w64 (r1.First + from5)), .int .i64 r1.Rate.Num, .int .i64 r1.Rate.Den, .int .i64 r1.Error, .int .i64 r1.Run, .int .i64 r1.Seq, .slice p31 l30.length k32]) hs hw 1 rfl rfl rfl Tryz.sizeOf22 rfl rfl rfl rfl trivial ?_
 intro a w hs hw
 refine nl ?_
 refine sr ?_
 refine sv hs (y_loadBA (hw.ownAt 1 rfl) rfl Tryz.isAgg35 Tryz.sizeOf35 rfl rfl) rfl fun a hs => ?_
 refine w_store (m := 12) (cs' := [.string r1.Source.Network, .string r1.Source.Station, .string r1.Source.Location, .string r1.Source.Channel, .int .i64 r1.Start, .int .i64 (w64 (r1.First + from5)), .int .i64 r1.Rate.Num, .int .i64 r1.Rate.Den, .int .i64 r1.Error, .int .i64 r1.Run, .int .i64 r1.Seq, .slice p31 l30.length k32]) hs hw 2 rfl rfl rfl Tryz.sizeOf35 rfl rfl rfl rfl trivial ?_
 intro a w hs hw
 refine av hs rfl rfl fun a hs => ?_
 refine nl ?_
 have hsh := oi hsh
 subst hsh
 refine wp_ret ?_
 exact ret2 hs rfl (rv_cell hw 2 rfl rfl Tryz.isAgg35 Tryz.sizeOf35 rfl) (rv_tmp rfl) (hw.ret ⟨p31, k32, c33, rfl, (hw.outs [0] (by decide) rfl), (hw.envAt 0 rfl)⟩)

abbrev ref05_Same_rd (w0 : World) (X : List Nat) (r : Bool) : (Nat → Prop) → World → Value → Prop := fun S w v => v = .bool r
set_option maxHeartbeats 4000000 in
set_option maxRecDepth 100000 in
theorem ref05_Same_ok {w0 : World} {S0 : Nat → Prop} {p2 : Option Addr} {k3 : Nat} {p6 : Option Addr} {k7 : Nat} {a1 : (List Int)} {b5 : (List Int)} {r : Bool} (hsh : ref05_Same a1 b5 = some r) (hS : ∀ b, S0 b → b < w0.heap.size) (h4 : (SlA p2 a1.length k3 a1).p S0 w0) (h8 : (SlA p6 b5.length k7 b5).p S0 w0) : Calls Tryz.prog 50 #[.slice p2 a1.length k3, .slice p6 b5.length k7] w0 (Ret ([]) w0 S0 (ref05_Same_rd w0 ([]) r)) := by
 refine calls_of_wp Tryz.func50 rfl ?_
 have hs := Sl.enter #[.slice p2 a1.length k3, .slice p6 b5.length k7] 26 [(0, .slice p2 a1.length k3), (1, .slice p6 b5.length k7)] rfl ⟨rfl, rfl, trivial⟩
 have hw := Wd.enter (E := []) hS (fun _ h => (by cases h))
 have hw := hw.addE h4
 have hw := hw.addE h8
 delta ref05_Same at hsh
 refine sr ?_
 refine av hs rfl rfl fun a hs => ?_
 refine nl ?_
 refine wp_seq ?_
 refine sr ?_
 refine mv hs rfl rfl fun a hs => ?_
 refine sv hs (y_len Tryz.runUnderlying22 rfl) rfl fun a hs => ?_
 refine mv hs rfl rfl fun a hs => ?_
 refine sv hs (y_len Tryz.runUnderlying22 rfl) rfl fun a hs => ?_
 refine sv hs (y_neq rfl rfl) rfl fun a hs => ?_
 refine nl ?_
 refine wp_cond_split (hs.ev rfl) (fun h10 => ?_) (fun h10 => ?_)
 ·have hsh := ite_t hsh h10
  refine sr ?_
  refine av hs rfl rfl fun a hs => ?_
  refine nl ?_
  have hsh := oi hsh
  subst hsh
  refine wp_ret ?_
  refine then_ret ?_
  exact ret1 hs rfl (rv_tmp rfl) (hw.ret rfl)
 have hsh := ite_f hsh h10
 refine wp_skip ?_
 refine then_normal ?_
 refine wp_seq ?_
 refine sr ?_
 refine av hs rfl rfl fun a hs => ?_
 refine nl ?_
 refine wp_block ?_
 refine wp_while (fun sv109 a w => ∃ (Sv173 : Nat → Prop), Sl 26 [(0, .slice p2 a1.length k3), (1, .slice p6 b5.length k7), (5, .int .i64 sv109)] a ∧ Wd ⟨w0, S0, []⟩ Sv173 [] [SlA p2 a1.length k3 a1, SlA p6 b5.length k7 b5] w) 0 hsh ⟨S0, (hs.wk rfl), (hw.ft [] [1, 0] (by decide) rfl rfl)⟩ ?_
 repeat clear hsh
 rintro sv109 a w tv206 ⟨Sv173, hs, hw⟩ hsh hd205
 delta ref05_Same_l2 at hsh
 refine wp_seq ?_
 refine sr ?_
 refine mv hs rfl rfl fun a hs => ?_
 refine mv hs rfl rfl fun a hs => ?_
 refine sv hs (y_len Tryz.runUnderlying22 rfl) rfl fun a hs => ?_
 refine sv hs (y_lss rfl rfl) rfl fun a hs => ?_
 refine nl ?_
 refine wp_cond_split (hs.ev rfl) (fun h210 => ?_) (fun h210 => ?_)
 ·have hsh := ite_t hsh h210
  refine wp_skip ?_
  refine then_normal ?_
  refine wp_seq ?_
  refine wp_block ?_
  refine wp_seq ?_
  obtain ⟨x241, h239, hsh⟩ := bind_t hsh
  obtain ⟨b247, o248, q245, c246, h249, h242, h243, h244, h240⟩ := hw.elemV 0 rfl h239
  have hsv250 := hs
  have hwv251 := hw
  subst h249
  have hs := hsv250
  have hw := hwv251
  obtain ⟨_, rfl, rfl⟩ := h240
  have hw := hw.addE h244
  obtain ⟨x254, h252, hsh⟩ := bind_t hsh
  obtain ⟨b260, o261, q258, c259, h262, h255, h256, h257, h253⟩ := hw.elemV 2 rfl h252
  have hsv263 := hs
  have hwv264 := hw
  subst h262
  have hs := hsv263
  have hw := hwv264
  obtain ⟨_, rfl, rfl⟩ := h253
  have hw := hw.addE h257
  refine wp_only (fun a w => ∃ (Sv265 : Nat → Prop), Sl 26 [(0, .slice (some ⟨b247, o248, none⟩) a1.length k3), (1, .slice (some ⟨b260, o261, none⟩) b5.length k7), (5, .int .i64 sv109), (25, .bool (x241 != x254))] a ∧ Wd ⟨w0, S0, []⟩ Sv265 [] [SlA (some ⟨b247, o248, none⟩) a1.length k3 a1, SlA (some ⟨b260, o261, none⟩) b5.length k7 b5] w) ?_ ?_
  ·refine h_b (C := Cls [] [CeA b260 q258 [.int .i64 x254], CeA b247 q245 [.int .i64 x241]]) (by kernel_rfl) rfl (hw.drew.cs [] [0, 1] rfl rfl) fun hC => ?_
   have hw := hw.drew
   refine gm hs 0 rfl rfl rfl hC fun a hs => ?_
   refine gm hs 1 rfl rfl rfl hC fun a hs => ?_
   refine gv hs 2 rfl rfl hC (fun w hC => y_indexAt Tryz.runUnderlying22 Tryz.sizeOf3 rfl rfl h242.1 h242.2 h243) fun a hs => ?_
   refine gv hs 3 rfl rfl hC (fun w hC => y_loadE1 (j := 0) (hC.ceAt 1 rfl) rfl Tryz.isAgg3 rfl) fun a hs => ?_
   refine gm hs 4 rfl rfl rfl hC fun a hs => ?_
   refine gm hs 5 rfl rfl rfl hC fun a hs => ?_
   refine gv hs 6 rfl rfl hC (fun w hC => y_indexAt Tryz.runUnderlying22 Tryz.sizeOf3 rfl rfl h255.1 h255.2 h256) fun a hs => ?_
   refine gv hs 7 rfl rfl hC (fun w hC => y_loadE1 (j := 0) (hC.ceAt 0 rfl) rfl Tryz.isAgg3 rfl) fun a hs => ?_
   refine gv hs 8 rfl rfl hC (fun w hC => y_neq rfl rfl) fun a hs => ?_
   refine h_done (by kernel_rfl) ?_
   exact ⟨Sv173, (hs.wk rfl), (hw.ft [] [2, 3] (by decide) rfl rfl)⟩
  rintro a w ⟨Sv265, hs, hw⟩
  refine then_normal ?_
  refine wp_cond_split (hs.ev rfl) (fun h267 => ?_) (fun h267 => ?_)
  ·have hsh := ite_t hsh h267
   refine sr ?_
   refine av hs rfl rfl fun a hs => ?_
   refine nl ?_
   have hsh := oi hsh
   subst hsh
   have h268 := hd205 _ rfl
   subst h268
   refine wp_ret ?_
   refine blk_ret ?_
   refine then_ret ?_
   refine then_ret ?_
   refine blk_ret ?_
   refine then_ret ?_
   exact ret1 hs rfl (rv_tmp rfl) (hw.ret rfl)
  have hsh := ite_f hsh h267
  refine wp_skip ?_
  refine blk_normal ?_
  refine then_normal ?_
  refine wp_region_lit ?_
  refine mv hs rfl rfl fun a hs => ?_
  refine sv hs (y_add rfl rfl) rfl fun a hs => ?_
  obtain ⟨i270, h269, hsh⟩ := bind_t hsh
  refine sv hs (y_assignI rfl h269) rfl fun a hs => ?_
  refine nl ?_
  exact ⟨_, (Option.some.inj hsh).symm, Sv265, (hs.wk rfl), (hw.ft [] [0, 1] (by decide) rfl rfl)⟩
 have hsh := ite_f hsh h210
 obtain ⟨rv271, hsh, h272⟩ := map_t hsh
 have h272 := (hd205 _ h272.symm).symm
 subst h272
 refine wp_exit ?_
 refine then_exit ?_
 refine then_exit ?_
 refine blk_exit ?_
 refine then_normal ?_
 refine sr ?_
 refine av hs rfl rfl fun a hs => ?_
 refine nl ?_
 have hsh := oi hsh
 subst hsh
 refine wp_ret ?_
 exact ret1 hs rfl (rv_tmp rfl) (hw.ret rfl)

abbrev ref14_Same_rd (w0 : World) (X : List Nat) (r : Bool) : (Nat → Prop) → World → Value → Prop := fun S w v => v = .bool r
set_option maxHeartbeats 4000000 in
set_option maxRecDepth 100000 in
theorem ref14_Same_ok {w0 : World} {S0 : Nat → Prop} {p2 : Option Addr} {k3 : Nat} {p6 : Option Addr} {k7 : Nat} {a1 : Record} {b5 : Record} {r : Bool} (hsh : ref14_Same a1 b5 = some r) (hS : ∀ b, S0 b → b < w0.heap.size) (h4 : (SlA p2 a1.Samples.length k3 a1.Samples).p S0 w0) (h8 : (SlA p6 b5.Samples.length k7 b5.Samples).p S0 w0) : Calls Tryz.prog 20 #[.agg #[.string a1.Source.Network, .string a1.Source.Station, .string a1.Source.Location, .string a1.Source.Channel, .int .i64 a1.Start, .int .i64 a1.First, .int .i64 a1.Rate.Num, .int .i64 a1.Rate.Den, .int .i64 a1.Error, .int .i64 a1.Run, .int .i64 a1.Seq, .slice p2 a1.Samples.length k3], .agg #[.string b5.Source.Network, .string b5.Source.Station, .string b5.Source.Location, .string b5.Source.Channel, .int .i64 b5.Start, .int .i64 b5.First, .int .i64 b5.Rate.Num, .int .i64 b5.Rate.Den, .int .i64 b5.Error, .int .i64 b5.Run, .int .i64 b5.Seq, .slice p6 b5.Samples.length k7]] w0 (Ret ([]) w0 S0 (ref14_Same_rd w0 ([]) r)) := by
 refine calls_of_wp Tryz.func20 rfl ?_
 have hs := Sl.enter #[.agg #[.string a1.Source.Network, .string a1.Source.Station, .string a1.Source.Location, .string a1.Source.Channel, .int .i64 a1.Start, .int .i64 a1.First, .int .i64 a1.Rate.Num, .int .i64 a1.Rate.Den, .int .i64 a1.Error, .int .i64 a1.Run, .int .i64 a1.Seq, .slice p2 a1.Samples.length k3], .agg #[.string b5.Source.Network, .string b5.Source.Station, .string b5.Source.Location, .string b5.Source.Channel, .int .i64 b5.Start, .int .i64 b5.First, .int .i64 b5.Rate.Num, .int .i64 b5.Rate.Den, .int .i64 b5.Error, .int .i64 b5.Run, .int .i64 b5.Seq, .slice p6 b5.Samples.length k7]] 59 [(0, .agg #[.string a1.Source.Network, .string a1.Source.Station, .string a1.Source.Location, .string a1.Source.Channel, .int .i64 a1.Start, .int .i64 a1.First, .int .i64 a1.Rate.Num, .int .i64 a1.Rate.Den, .int .i64 a1.Error, .int .i64 a1.Run, .int .i64 a1.Seq, .slice p2 a1.Samples.length k3]), (1, .agg #[.string b5.Source.Network, .string b5.Source.Station, .string b5.Source.Location, .string b5.Source.Channel, .int .i64 b5.Start, .int .i64 b5.First, .int .i64 b5.Rate.Num, .int .i64 b5.Rate.Den, .int .i64 b5.Error, .int .i64 b5.Run, .int .i64 b5.Seq, .slice p6 b5.Samples.length k7])] rfl ⟨rfl, rfl, trivial⟩
 have hw := Wd.enter (E := []) hS (fun _ h => (by cases h))
 have hw := hw.addE h4
 have hw := hw.addE h8
 delta ref14_Same at hsh
 refine sr ?_
 refine w_box (cs := [.string a1.Source.Network, .string a1.Source.Station, .string a1.Source.Location, .string a1.Source.Channel, .int .i64 a1.Start, .int .i64 a1.First, .int .i64 a1.Rate.Num, .int .i64 a1.Rate.Den, .int .i64 a1.Error, .int .i64 a1.Run, .int .i64 a1.Seq, .slice p2 a1.Samples.length k3]) hs hw rfl rfl rfl trivial ?_
 intro b9 a w hs hw
 refine w_box (cs := [.string b5.Source.Network, .string b5.Source.Station, .string b5.Source.Location, .string b5.Source.Channel, .int .i64 b5.Start, .int .i64 b5.First, .int .i64 b5.Rate.Num, .int .i64 b5.Rate.Den, .int .i64 b5.Error, .int .i64 b5.Run, .int .i64 b5.Seq, .slice p6 b5.Samples.length k7]) hs hw rfl rfl rfl trivial ?_
 intro b10 a w hs hw
 refine av hs rfl rfl fun a hs => ?_
 refine nl ?_
 refine sr ?_
 refine sv hs (y_fieldAddr (o' := 0) Tryz.runUnderlying35 rfl Tryz.sizeOf31 rfl rfl rfl) rfl fun a hs => ?_
 refine sv hs (y_loadBA (hw.ownAt 1 rfl) rfl Tryz.isAgg31 Tryz.sizeOf31 rfl rfl) rfl fun a hs => ?_
 refine sv hs (y_fieldAddr (o' := 0) Tryz.runUnderlying35 rfl Tryz.sizeOf31 rfl rfl rfl) rfl fun a hs => ?_
 refine sv hs (y_loadBA (hw.ownAt 0 rfl) rfl Tryz.isAgg31 Tryz.sizeOf31 rfl rfl) rfl fun a hs => ?_
 refine sv hs (y_eqlA (by kernel_rfl) rfl rfl (eqv_struct Tryz.runUnderlying31 (by kernel_rfl) (EqF.cons1 rfl Tryz.isAgg9 rfl rfl (eqv_str Tryz.runUnderlying9) (EqF.cons1 rfl Tryz.isAgg9 rfl rfl (eqv_str Tryz.runUnderlying9) (EqF.cons1 rfl Tryz.isAgg9 rfl rfl (eqv_str Tryz.runUnderlying9) (EqF.cons1 rfl Tryz.isAgg9 rfl rfl (eqv_str Tryz.runUnderlying9) EqF.nil)))))) rfl fun a hs => ?_
 refine mv hs rfl rfl fun a hs => ?_
 refine wpl_join 6 (fun a w1 => w = w1 ∧ Sl 59 [(2, .pointer (some ⟨b9, 0, none⟩)), (3, .pointer (some ⟨b10, 0, none⟩)), (16, .bool (((a1.Source.Network == b5.Source.Network) && ((a1.Source.Station == b5.Source.Station) && ((a1.Source.Location == b5.Source.Location) && ((a1.Source.Channel == b5.Source.Channel) && true)))) && (a1.Start == b5.Start)))] a) ?_ ?_
 ·rcases Bool.eq_false_or_eq_true ((a1.Source.Network == b5.Source.Network) && ((a1.Source.Station == b5.Source.Station) && ((a1.Source.Location == b5.Source.Location) && ((a1.Source.Channel == b5.Source.Channel) && true)))) with h11 | h11
  ·have hs := hs.fix 10 (.bool true) rfl (vb h11)
   refine st_val hs (y_fieldAddr (o' := 4) Tryz.runUnderlying35 rfl Tryz.sizeOf3 rfl rfl rfl) ⟨_, rfl, rfl⟩ rfl rfl fun a hs => ?_
   refine st_val hs (y_loadB1 (hw.ownAt 1 rfl) rfl Tryz.isAgg3 rfl) ⟨_, rfl, rfl⟩ rfl rfl fun a hs => ?_
   refine st_val hs (y_fieldAddr (o' := 4) Tryz.runUnderlying35 rfl Tryz.sizeOf3 rfl rfl rfl) ⟨_, rfl, rfl⟩ rfl rfl fun a hs => ?_
   refine st_val hs (y_loadB1 (hw.ownAt 0 rfl) rfl Tryz.isAgg3 rfl) ⟨_, rfl, rfl⟩ rfl rfl fun a hs => ?_
   refine st_val hs (y_eql rfl rfl) ⟨_, rfl, rfl⟩ rfl rfl fun a hs => ?_
   refine sv hs (y_pickT rfl rfl) rfl fun a hs => ?_
   refine nl ?_
   exact ⟨rfl, (hs.fix 16 (.bool (((a1.Source.Network == b5.Source.Network) && ((a1.Source.Station == b5.Source.Station) && ((a1.Source.Location == b5.Source.Location) && ((a1.Source.Channel == b5.Source.Channel) && true)))) && (a1.Start == b5.Start))) rfl (and_t h11)).weaken _ ⟨rfl, rfl, rfl, trivial⟩⟩
  have hs := hs.fix 10 (.bool false) rfl (vb h11)
  refine st_skip hs rfl rfl rfl rfl rfl fun a hs => ?_
  refine st_skip hs rfl rfl rfl rfl rfl fun a hs => ?_
  refine st_skip hs rfl rfl rfl rfl rfl fun a hs => ?_
  refine st_skip hs rfl rfl rfl rfl rfl fun a hs => ?_
  refine st_skip hs rfl rfl rfl rfl rfl fun a hs => ?_
  refine sv hs (y_pickF rfl rfl) rfl fun a hs => ?_
  refine nl ?_
  exact ⟨rfl, (hs.fix 16 (.bool (((a1.Source.Network == b5.Source.Network) && ((a1.Source.Station == b5.Source.Station) && ((a1.Source.Location == b5.Source.Location) && ((a1.Source.Channel == b5.Source.Channel) && true)))) && (a1.Start == b5.Start))) rfl (and_f h11)).weaken _ ⟨rfl, rfl, rfl, trivial⟩⟩
 rintro a w1 ⟨h39, hs⟩
 subst h39
 refine mv hs rfl rfl fun a hs => ?_
 refine wpl_join 6 (fun a w1 => w = w1 ∧ Sl 59 [(2, .pointer (some ⟨b9, 0, none⟩)), (3, .pointer (some ⟨b10, 0, none⟩)), (23, .bool ((((a1.Source.Network == b5.Source.Network) && ((a1.Source.Station == b5.Source.Station) && ((a1.Source.Location == b5.Source.Location) && ((a1.Source.Channel == b5.Source.Channel) && true)))) && (a1.Start == b5.Start)) && (a1.First == b5.First)))] a) ?_ ?_
 ·rcases Bool.eq_false_or_eq_true (((a1.Source.Network == b5.Source.Network) && ((a1.Source.Station == b5.Source.Station) && ((a1.Source.Location == b5.Source.Location) && ((a1.Source.Channel == b5.Source.Channel) && true)))) && (a1.Start == b5.Start)) with h12 | h12
  ·have hs := hs.fix 17 (.bool true) rfl (vb h12)
   refine st_val hs (y_fieldAddr (o' := 5) Tryz.runUnderlying35 rfl Tryz.sizeOf3 rfl rfl rfl) ⟨_, rfl, rfl⟩ rfl rfl fun a hs => ?_
   refine st_val hs (y_loadB1 (hw.ownAt 1 rfl) rfl Tryz.isAgg3 rfl) ⟨_, rfl, rfl⟩ rfl rfl fun a hs => ?_
   refine st_val hs (y_fieldAddr (o' := 5) Tryz.runUnderlying35 rfl Tryz.sizeOf3 rfl rfl rfl) ⟨_, rfl, rfl⟩ rfl rfl fun a hs => ?_
   refine st_val hs (y_loadB1 (hw.ownAt 0 rfl) rfl Tryz.isAgg3 rfl) ⟨_, rfl, rfl⟩ rfl rfl fun a hs => ?_
   refine st_val hs (y_eql rfl rfl) ⟨_, rfl, rfl⟩ rfl rfl fun a hs => ?_
   refine sv hs (y_pickT rfl rfl) rfl fun a hs => ?_
   refine nl ?_
   exact ⟨rfl, (hs.fix 23 (.bool ((((a1.Source.Network == b5.Source.Network) && ((a1.Source.Station == b5.Source.Station) && ((a1.Source.Location == b5.Source.Location) && ((a1.Source.Channel == b5.Source.Channel) && true)))) && (a1.Start == b5.Start)) && (a1.First == b5.First))) rfl (and_t h12)).weaken _ ⟨rfl, rfl, rfl, trivial⟩⟩
  have hs := hs.fix 17 (.bool false) rfl (vb h12)
  refine st_skip hs rfl rfl rfl rfl rfl fun a hs => ?_
  refine st_skip hs rfl rfl rfl rfl rfl fun a hs => ?_
  refine st_skip hs rfl rfl rfl rfl rfl fun a hs => ?_
  refine st_skip hs rfl rfl rfl rfl rfl fun a hs => ?_
  refine st_skip hs rfl rfl rfl rfl rfl fun a hs => ?_
  refine sv hs (y_pickF rfl rfl) rfl fun a hs => ?_
  refine nl ?_
  exact ⟨rfl, (hs.fix 23 (.bool ((((a1.Source.Network == b5.Source.Network) && ((a1.Source.Station == b5.Source.Station) && ((a1.Source.Location == b5.Source.Location) && ((a1.Source.Channel == b5.Source.Channel) && true)))) && (a1.Start == b5.Start)) && (a1.First == b5.First))) rfl (and_f h12)).weaken _ ⟨rfl, rfl, rfl, trivial⟩⟩
 rintro a w1 ⟨h38, hs⟩
 subst h38
 refine mv hs rfl rfl fun a hs => ?_
 refine wpl_join 6 (fun a w1 => w = w1 ∧ Sl 59 [(2, .pointer (some ⟨b9, 0, none⟩)), (3, .pointer (some ⟨b10, 0, none⟩)), (30, .bool (((((a1.Source.Network == b5.Source.Network) && ((a1.Source.Station == b5.Source.Station) && ((a1.Source.Location == b5.Source.Location) && ((a1.Source.Channel == b5.Source.Channel) && true)))) && (a1.Start == b5.Start)) && (a1.First == b5.First)) && ((a1.Rate.Num == b5.Rate.Num) && ((a1.Rate.Den == b5.Rate.Den) && true))))] a) ?_ ?_
 ·rcases Bool.eq_false_or_eq_true ((((a1.Source.Network == b5.Source.Network) && ((a1.Source.Station == b5.Source.Station) && ((a1.Source.Location == b5.Source.Location) && ((a1.Source.Channel == b5.Source.Channel) && true)))) && (a1.Start == b5.Start)) && (a1.First == b5.First)) with h13 | h13
  ·have hs := hs.fix 24 (.bool true) rfl (vb h13)
   refine st_val hs (y_fieldAddr (o' := 6) Tryz.runUnderlying35 rfl Tryz.sizeOf33 rfl rfl rfl) ⟨_, rfl, rfl⟩ rfl rfl fun a hs => ?_
   refine st_val hs (y_loadBA (hw.ownAt 1 rfl) rfl Tryz.isAgg33 Tryz.sizeOf33 rfl rfl) ⟨_, rfl, rfl⟩ rfl rfl fun a hs => ?_
   refine st_val hs (y_fieldAddr (o' := 6) Tryz.runUnderlying35 rfl Tryz.sizeOf33 rfl rfl rfl) ⟨_, rfl, rfl⟩ rfl rfl fun a hs => ?_
   refine st_val hs (y_loadBA (hw.ownAt 0 rfl) rfl Tryz.isAgg33 Tryz.sizeOf33 rfl rfl) ⟨_, rfl, rfl⟩ rfl rfl fun a hs => ?_
   refine st_val hs (y_eqlA (by kernel_rfl) rfl rfl (eqv_struct Tryz.runUnderlying33 (by kernel_rfl) (EqF.cons1 rfl Tryz.isAgg3 rfl rfl (eqv_int Tryz.runUnderlying3) (EqF.cons1 rfl Tryz.isAgg3 rfl rfl (eqv_int Tryz.runUnderlying3) EqF.nil)))) ⟨_, rfl, rfl⟩ rfl rfl fun a hs => ?_
   refine sv hs (y_pickT rfl rfl) rfl fun a hs => ?_
   refine nl ?_
   exact ⟨rfl, (hs.fix 30 (.bool (((((a1.Source.Network == b5.Source.Network) && ((a1.Source.Station == b5.Source.Station) && ((a1.Source.Location == b5.Source.Location) && ((a1.Source.Channel == b5.Source.Channel) && true)))) && (a1.Start == b5.Start)) && (a1.First == b5.First)) && ((a1.Rate.Num == b5.Rate.Num) && ((a1.Rate.Den == b5.Rate.Den) && true)))) rfl (and_t h13)).weaken _ ⟨rfl, rfl, rfl, trivial⟩⟩
  have hs := hs.fix 24 (.bool false) rfl (vb h13)
  refine st_skip hs rfl rfl rfl rfl rfl fun a hs => ?_
  refine st_skip hs rfl rfl rfl rfl rfl fun a hs => ?_
  refine st_skip hs rfl rfl rfl rfl rfl fun a hs => ?_
  refine st_skip hs rfl rfl rfl rfl rfl fun a hs => ?_
  refine st_skip hs rfl rfl rfl rfl rfl fun a hs => ?_
  refine sv hs (y_pickF rfl rfl) rfl fun a hs => ?_
  refine nl ?_
  exact ⟨rfl, (hs.fix 30 (.bool (((((a1.Source.Network == b5.Source.Network) && ((a1.Source.Station == b5.Source.Station) && ((a1.Source.Location == b5.Source.Location) && ((a1.Source.Channel == b5.Source.Channel) && true)))) && (a1.Start == b5.Start)) && (a1.First == b5.First)) && ((a1.Rate.Num == b5.Rate.Num) && ((a1.Rate.Den == b5.Rate.Den) && true)))) rfl (and_f h13)).weaken _ ⟨rfl, rfl, rfl, trivial⟩⟩
 rintro a w1 ⟨h37, hs⟩
 subst h37
 refine mv hs rfl rfl fun a hs => ?_
 refine wpl_join 6 (fun a w1 => w = w1 ∧ Sl 59 [(2, .pointer (some ⟨b9, 0, none⟩)), (3, .pointer (some ⟨b10, 0, none⟩)), (37, .bool ((((((a1.Source.Network == b5.Source.Network) && ((a1.Source.Station == b5.Source.Station) && ((a1.Source.Location == b5.Source.Location) && ((a1.Source.Channel == b5.Source.Channel) && true)))) && (a1.Start == b5.Start)) && (a1.First == b5.First)) && ((a1.Rate.Num == b5.Rate.Num) && ((a1.Rate.Den == b5.Rate.Den) && true))) && (a1.Error == b5.Error)))] a) ?_ ?_
 ·rcases Bool.eq_false_or_eq_true (((((a1.Source.Network == b5.Source.Network) && ((a1.Source.Station == b5.Source.Station) && ((a1.Source.Location == b5.Source.Location) && ((a1.Source.Channel == b5.Source.Channel) && true)))) && (a1.Start == b5.Start)) && (a1.First == b5.First)) && ((a1.Rate.Num == b5.Rate.Num) && ((a1.Rate.Den == b5.Rate.Den) && true))) with h14 | h14
  ·have hs := hs.fix 31 (.bool true) rfl (vb h14)
   refine st_val hs (y_fieldAddr (o' := 8) Tryz.runUnderlying35 rfl Tryz.sizeOf3 rfl rfl rfl) ⟨_, rfl, rfl⟩ rfl rfl fun a hs => ?_
   refine st_val hs (y_loadB1 (hw.ownAt 1 rfl) rfl Tryz.isAgg3 rfl) ⟨_, rfl, rfl⟩ rfl rfl fun a hs => ?_
   refine st_val hs (y_fieldAddr (o' := 8) Tryz.runUnderlying35 rfl Tryz.sizeOf3 rfl rfl rfl) ⟨_, rfl, rfl⟩ rfl rfl fun a hs => ?_
   refine st_val hs (y_loadB1 (hw.ownAt 0 rfl) rfl Tryz.isAgg3 rfl) ⟨_, rfl, rfl⟩ rfl rfl fun a hs => ?_
   refine st_val hs (y_eql rfl rfl) ⟨_, rfl, rfl⟩ rfl rfl fun a hs => ?_
   refine sv hs (y_pickT rfl rfl) rfl fun a hs => ?_
   refine nl ?_
   exact ⟨rfl, (hs.fix 37 (.bool ((((((a1.Source.Network == b5.Source.Network) && ((a1.Source.Station == b5.Source.Station) && ((a1.Source.Location == b5.Source.Location) && ((a1.Source.Channel == b5.Source.Channel) && true)))) && (a1.Start == b5.Start)) && (a1.First == b5.First)) && ((a1.Rate.Num == b5.Rate.Num) && ((a1.Rate.Den == b5.Rate.Den) && true))) && (a1.Error == b5.Error))) rfl (and_t h14)).weaken _ ⟨rfl, rfl, rfl, trivial⟩⟩
  have hs := hs.fix 31 (.bool false) rfl (vb h14)
  refine st_skip hs rfl rfl rfl rfl rfl fun a hs => ?_
  refine st_skip hs rfl rfl rfl rfl rfl fun a hs => ?_
  refine st_skip hs rfl rfl rfl rfl rfl fun a hs => ?_
  refine st_skip hs rfl rfl rfl rfl rfl fun a hs => ?_
  refine st_skip hs rfl rfl rfl rfl rfl fun a hs => ?_
  refine sv hs (y_pickF rfl rfl) rfl fun a hs => ?_
  refine nl ?_
  exact ⟨rfl, (hs.fix 37 (.bool ((((((a1.Source.Network == b5.Source.Network) && ((a1.Source.Station == b5.Source.Station) && ((a1.Source.Location == b5.Source.Location) && ((a1.Source.Channel == b5.Source.Channel) && true)))) && (a1.Start == b5.Start)) && (a1.First == b5.First)) && ((a1.Rate.Num == b5.Rate.Num) && ((a1.Rate.Den == b5.Rate.Den) && true))) && (a1.Error == b5.Error))) rfl (and_f h14)).weaken _ ⟨rfl, rfl, rfl, trivial⟩⟩
 rintro a w1 ⟨h36, hs⟩
 subst h36
 refine mv hs rfl rfl fun a hs => ?_
 refine wpl_join 6 (fun a w1 => w = w1 ∧ Sl 59 [(2, .pointer (some ⟨b9, 0, none⟩)), (3, .pointer (some ⟨b10, 0, none⟩)), (44, .bool (((((((a1.Source.Network == b5.Source.Network) && ((a1.Source.Station == b5.Source.Station) && ((a1.Source.Location == b5.Source.Location) && ((a1.Source.Channel == b5.Source.Channel) && true)))) && (a1.Start == b5.Start)) && (a1.First == b5.First)) && ((a1.Rate.Num == b5.Rate.Num) && ((a1.Rate.Den == b5.Rate.Den) && true))) && (a1.Error == b5.Error)) && (a1.Run == b5.Run)))] a) ?_ ?_
 ·rcases Bool.eq_false_or_eq_true ((((((a1.Source.Network == b5.Source.Network) && ((a1.Source.Station == b5.Source.Station) && ((a1.Source.Location == b5.Source.Location) && ((a1.Source.Channel == b5.Source.Channel) && true)))) && (a1.Start == b5.Start)) && (a1.First == b5.First)) && ((a1.Rate.Num == b5.Rate.Num) && ((a1.Rate.Den == b5.Rate.Den) && true))) && (a1.Error == b5.Error)) with h15 | h15
  ·have hs := hs.fix 38 (.bool true) rfl (vb h15)
   refine st_val hs (y_fieldAddr (o' := 9) Tryz.runUnderlying35 rfl Tryz.sizeOf3 rfl rfl rfl) ⟨_, rfl, rfl⟩ rfl rfl fun a hs => ?_
   refine st_val hs (y_loadB1 (hw.ownAt 1 rfl) rfl Tryz.isAgg3 rfl) ⟨_, rfl, rfl⟩ rfl rfl fun a hs => ?_
   refine st_val hs (y_fieldAddr (o' := 9) Tryz.runUnderlying35 rfl Tryz.sizeOf3 rfl rfl rfl) ⟨_, rfl, rfl⟩ rfl rfl fun a hs => ?_
   refine st_val hs (y_loadB1 (hw.ownAt 0 rfl) rfl Tryz.isAgg3 rfl) ⟨_, rfl, rfl⟩ rfl rfl fun a hs => ?_
   refine st_val hs (y_eql rfl rfl) ⟨_, rfl, rfl⟩ rfl rfl fun a hs => ?_
   refine sv hs (y_pickT rfl rfl) rfl fun a hs => ?_
   refine nl ?_
   exact ⟨rfl, (hs.fix 44 (.bool (((((((a1.Source.Network == b5.Source.Network) && ((a1.Source.Station == b5.Source.Station) && ((a1.Source.Location == b5.Source.Location) && ((a1.Source.Channel == b5.Source.Channel) && true)))) && (a1.Start == b5.Start)) && (a1.First == b5.First)) && ((a1.Rate.Num == b5.Rate.Num) && ((a1.Rate.Den == b5.Rate.Den) && true))) && (a1.Error == b5.Error)) && (a1.Run == b5.Run))) rfl (and_t h15)).weaken _ ⟨rfl, rfl, rfl, trivial⟩⟩
  have hs := hs.fix 38 (.bool false) rfl (vb h15)
  refine st_skip hs rfl rfl rfl rfl rfl fun a hs => ?_
  refine st_skip hs rfl rfl rfl rfl rfl fun a hs => ?_
  refine st_skip hs rfl rfl rfl rfl rfl fun a hs => ?_
  refine st_skip hs rfl rfl rfl rfl rfl fun a hs => ?_
  refine st_skip hs rfl rfl rfl rfl rfl fun a hs => ?_
  refine sv hs (y_pickF rfl rfl) rfl fun a hs => ?_
  refine nl ?_
  exact ⟨rfl, (hs.fix 44 (.bool (((((((a1.Source.Network == b5.Source.Network) && ((a1.Source.Station == b5.Source.Station) && ((a1.Source.Location == b5.Source.Location) && ((a1.Source.Channel == b5.Source.Channel) && true)))) && (a1.Start == b5.Start)) && (a1.First == b5.First)) && ((a1.Rate.Num == b5.Rate.Num) && ((a1.Rate.Den == b5.Rate.Den) && true))) && (a1.Error == b5.Error)) && (a1.Run == b5.Run))) rfl (and_f h15)).weaken _ ⟨rfl, rfl, rfl, trivial⟩⟩
 rintro a w1 ⟨h35, hs⟩
 subst h35
 refine mv hs rfl rfl fun a hs => ?_
 refine wpl_join 6 (fun a w1 => w = w1 ∧ Sl 59 [(2, .pointer (some ⟨b9, 0, none⟩)), (3, .pointer (some ⟨b10, 0, none⟩)), (51, .bool ((((((((a1.Source.Network == b5.Source.Network) && ((a1.Source.Station == b5.Source.Station) && ((a1.Source.Location == b5.Source.Location) && ((a1.Source.Channel == b5.Source.Channel) && true)))) && (a1.Start == b5.Start)) && (a1.First == b5.First)) && ((a1.Rate.Num == b5.Rate.Num) && ((a1.Rate.Den == b5.Rate.Den) && true))) && (a1.Error == b5.Error)) && (a1.Run == b5.Run)) && (a1.Seq == b5.Seq)))] a) ?_ ?_
 ·rcases Bool.eq_false_or_eq_true (((((((a1.Source.Network == b5.Source.Network) && ((a1.Source.Station == b5.Source.Station) && ((a1.Source.Location == b5.Source.Location) && ((a1.Source.Channel == b5.Source.Channel) && true)))) && (a1.Start == b5.Start)) && (a1.First == b5.First)) && ((a1.Rate.Num == b5.Rate.Num) && ((a1.Rate.Den == b5.Rate.Den) && true))) && (a1.Error == b5.Error)) && (a1.Run == b5.Run)) with h16 | h16
  ·have hs := hs.fix 45 (.bool true) rfl (vb h16)
   refine st_val hs (y_fieldAddr (o' := 10) Tryz.runUnderlying35 rfl Tryz.sizeOf3 rfl rfl rfl) ⟨_, rfl, rfl⟩ rfl rfl fun a hs => ?_
   refine st_val hs (y_loadB1 (hw.ownAt 1 rfl) rfl Tryz.isAgg3 rfl) ⟨_, rfl, rfl⟩ rfl rfl fun a hs => ?_
   refine st_val hs (y_fieldAddr (o' := 10) Tryz.runUnderlying35 rfl Tryz.sizeOf3 rfl rfl rfl) ⟨_, rfl, rfl⟩ rfl rfl fun a hs => ?_
   refine st_val hs (y_loadB1 (hw.ownAt 0 rfl) rfl Tryz.isAgg3 rfl) ⟨_, rfl, rfl⟩ rfl rfl fun a hs => ?_
   refine st_val hs (y_eql rfl rfl) ⟨_, rfl, rfl⟩ rfl rfl fun a hs => ?_
   refine sv hs (y_pickT rfl rfl) rfl fun a hs => ?_
   refine nl ?_
   exact ⟨rfl, (hs.fix 51 (.bool ((((((((a1.Source.Network == b5.Source.Network) && ((a1.Source.Station == b5.Source.Station) && ((a1.Source.Location == b5.Source.Location) && ((a1.Source.Channel == b5.Source.Channel) && true)))) && (a1.Start == b5.Start)) && (a1.First == b5.First)) && ((a1.Rate.Num == b5.Rate.Num) && ((a1.Rate.Den == b5.Rate.Den) && true))) && (a1.Error == b5.Error)) && (a1.Run == b5.Run)) && (a1.Seq == b5.Seq))) rfl (and_t h16)).weaken _ ⟨rfl, rfl, rfl, trivial⟩⟩
  have hs := hs.fix 45 (.bool false) rfl (vb h16)
  refine st_skip hs rfl rfl rfl rfl rfl fun a hs => ?_
  refine st_skip hs rfl rfl rfl rfl rfl fun a hs => ?_
  refine st_skip hs rfl rfl rfl rfl rfl fun a hs => ?_
  refine st_skip hs rfl rfl rfl rfl rfl fun a hs => ?_
  refine st_skip hs rfl rfl rfl rfl rfl fun a hs => ?_
  refine sv hs (y_pickF rfl rfl) rfl fun a hs => ?_
  refine nl ?_
  exact ⟨rfl, (hs.fix 51 (.bool ((((((((a1.Source.Network == b5.Source.Network) && ((a1.Source.Station == b5.Source.Station) && ((a1.Source.Location == b5.Source.Location) && ((a1.Source.Channel == b5.Source.Channel) && true)))) && (a1.Start == b5.Start)) && (a1.First == b5.First)) && ((a1.Rate.Num == b5.Rate.Num) && ((a1.Rate.Den == b5.Rate.Den) && true))) && (a1.Error == b5.Error)) && (a1.Run == b5.Run)) && (a1.Seq == b5.Seq))) rfl (and_f h16)).weaken _ ⟨rfl, rfl, rfl, trivial⟩⟩
 rintro a w1 ⟨h34, hs⟩
 subst h34
 refine mv hs rfl rfl fun a hs => ?_
 obtain ⟨c25, hc25, hsh⟩ := bind_t hsh
 refine wpl_join 6 (fun a w => ∃ (Sv26 : Nat → Prop), Sl 59 [(58, .bool c25)] a ∧ Wd ⟨w0, S0, []⟩ Sv26 [] [] w) ?_ ?_
 ·rcases Bool.eq_false_or_eq_true ((((((((a1.Source.Network == b5.Source.Network) && ((a1.Source.Station == b5.Source.Station) && ((a1.Source.Location == b5.Source.Location) && ((a1.Source.Channel == b5.Source.Channel) && true)))) && (a1.Start == b5.Start)) && (a1.First == b5.First)) && ((a1.Rate.Num == b5.Rate.Num) && ((a1.Rate.Den == b5.Rate.Den) && true))) && (a1.Error == b5.Error)) && (a1.Run == b5.Run)) && (a1.Seq == b5.Seq)) with h24 | h24
  ·have hs := hs.fix 52 (.bool true) rfl (vb h24)
   have hsh := ite_t hc25 h24
   refine st_val hs (y_fieldAddr (o' := 11) Tryz.runUnderlying35 rfl Tryz.sizeOf22 rfl rfl rfl) ⟨_, rfl, rfl⟩ rfl rfl fun a hs => ?_
   refine st_val hs (y_loadB1 (hw.ownAt 1 rfl) rfl Tryz.isAgg22 rfl) ⟨_, rfl, rfl⟩ rfl rfl fun a hs => ?_
   refine st_val hs (y_fieldAddr (o' := 11) Tryz.runUnderlying35 rfl Tryz.sizeOf22 rfl rfl rfl) ⟨_, rfl, rfl⟩ rfl rfl fun a hs => ?_
   refine st_val hs (y_loadB1 (hw.ownAt 0 rfl) rfl Tryz.isAgg22 rfl) ⟨_, rfl, rfl⟩ rfl rfl fun a hs => ?_
   obtain ⟨rv28, h27, hsh⟩ := bind_t hsh
   refine st_callR hs (ref05_Same_ok h27 hw.bdom (hw.bE 1 rfl) (hw.bE 0 rfl)) (do_call Tryz.call50 rfl) ⟨_, rfl, rfl⟩ rfl rfl ?_
   intro v32 Sv29 w a h30 h31 hs
   subst h31
   have hw := hw.callB h30
   refine sv hs (y_pickT rfl rfl) rfl fun a hs => ?_
   refine wpList_nil ?_
   have hsh := oi hsh
   subst hsh
   refine then_normal ?_
   exact ⟨S0, (hs.wk rfl), (hw.ft [] [] (by decide) rfl rfl)⟩
  have hs := hs.fix 52 (.bool false) rfl (vb h24)
  have hsh := ite_f hc25 h24
  refine st_skip hs rfl rfl rfl rfl rfl fun a hs => ?_
  refine st_skip hs rfl rfl rfl rfl rfl fun a hs => ?_
  refine st_skip hs rfl rfl rfl rfl rfl fun a hs => ?_
  refine st_skip hs rfl rfl rfl rfl rfl fun a hs => ?_
  refine st_skip hs rfl rfl rfl rfl rfl fun a hs => ?_
  refine sv hs (y_pickF rfl rfl) rfl fun a hs => ?_
  refine wpList_nil ?_
  have hsh := oi hsh
  subst hsh
  refine then_normal ?_
  exact ⟨S0, (hs.wk rfl), (hw.ft [] [] (by decide) rfl rfl)⟩
 rintro a w ⟨Sv26, hs, hw⟩
 refine av hs rfl rfl fun a hs => ?_
 refine nl ?_
 have hsh := oi hsh
 subst hsh
 refine wp_ret ?_
 exact ret1 hs rfl (rv_tmp rfl) (hw.ret rfl)

abbrev ref14_Better_rd (w0 : World) (X : List Nat) (r : Bool) : (Nat → Prop) → World → Value → Prop := fun S w v => v = .bool r
set_option maxHeartbeats 4000000 in
set_option maxRecDepth 100000 in
theorem ref14_Better_ok {w0 : World} {S0 : Nat → Prop} {p2 : Option Addr} {k3 : Nat} {p6 : Option Addr} {k7 : Nat} {a1 : Record} {b5 : Record} {r : Bool} (hsh : ref14_Better a1 b5 = some r) (hS : ∀ b, S0 b → b < w0.heap.size) (h4 : (SlA p2 a1.Samples.length k3 a1.Samples).p S0 w0) (h8 : (SlA p6 b5.Samples.length k7 b5.Samples).p S0 w0) : Calls Tryz.prog 29 #[.agg #[.string a1.Source.Network, .string a1.Source.Station, .string a1.Source.Location, .string a1.Source.Channel, .int .i64 a1.Start, .int .i64 a1.First, .int .i64 a1.Rate.Num, .int .i64 a1.Rate.Den, .int .i64 a1.Error, .int .i64 a1.Run, .int .i64 a1.Seq, .slice p2 a1.Samples.length k3], .agg #[.string b5.Source.Network, .string b5.Source.Station, .string b5.Source.Location, .string b5.Source.Channel, .int .i64 b5.Start, .int .i64 b5.First, .int .i64 b5.Rate.Num, .int .i64 b5.Rate.Den, .int .i64 b5.Error, .int .i64 b5.Run, .int .i64 b5.Seq, .slice p6 b5.Samples.length k7]] w0 (Ret ([]) w0 S0 (ref14_Better_rd w0 ([]) r)) := by
 refine calls_of_wp Tryz.func29 rfl ?_
 have hs := Sl.enter #[.agg #[.string a1.Source.Network, .string a1.Source.Station, .string a1.Source.Location, .string a1.Source.Channel, .int .i64 a1.Start, .int .i64 a1.First, .int .i64 a1.Rate.Num, .int .i64 a1.Rate.Den, .int .i64 a1.Error, .int .i64 a1.Run, .int .i64 a1.Seq, .slice p2 a1.Samples.length k3], .agg #[.string b5.Source.Network, .string b5.Source.Station, .string b5.Source.Location, .string b5.Source.Channel, .int .i64 b5.Start, .int .i64 b5.First, .int .i64 b5.Rate.Num, .int .i64 b5.Rate.Den, .int .i64 b5.Error, .int .i64 b5.Run, .int .i64 b5.Seq, .slice p6 b5.Samples.length k7]] 35 [(0, .agg #[.string a1.Source.Network, .string a1.Source.Station, .string a1.Source.Location, .string a1.Source.Channel, .int .i64 a1.Start, .int .i64 a1.First, .int .i64 a1.Rate.Num, .int .i64 a1.Rate.Den, .int .i64 a1.Error, .int .i64 a1.Run, .int .i64 a1.Seq, .slice p2 a1.Samples.length k3]), (1, .agg #[.string b5.Source.Network, .string b5.Source.Station, .string b5.Source.Location, .string b5.Source.Channel, .int .i64 b5.Start, .int .i64 b5.First, .int .i64 b5.Rate.Num, .int .i64 b5.Rate.Den, .int .i64 b5.Error, .int .i64 b5.Run, .int .i64 b5.Seq, .slice p6 b5.Samples.length k7])] rfl ⟨rfl, rfl, trivial⟩
 have hw := Wd.enter (E := []) hS (fun _ h => (by cases h))
 have hw := hw.addE h4
 have hw := hw.addE h8
 delta ref14_Better at hsh
 refine sr ?_
 refine w_box (cs := [.string a1.Source.Network, .string a1.Source.Station, .string a1.Source.Location, .string a1.Source.Channel, .int .i64 a1.Start, .int .i64 a1.First, .int .i64 a1.Rate.Num, .int .i64 a1.Rate.Den, .int .i64 a1.Error, .int .i64 a1.Run, .int .i64 a1.Seq, .slice p2 a1.Samples.length k3]) hs hw rfl rfl rfl trivial ?_
 intro b9 a w hs hw
 refine w_box (cs := [.string b5.Source.Network, .string b5.Source.Station, .string b5.Source.Location, .string b5.Source.Channel, .int .i64 b5.Start, .int .i64 b5.First, .int .i64 b5.Rate.Num, .int .i64 b5.Rate.Den, .int .i64 b5.Error, .int .i64 b5.Run, .int .i64 b5.Seq, .slice p6 b5.Samples.length k7]) hs hw rfl rfl rfl trivial ?_
 intro b10 a w hs hw
 refine av hs rfl rfl fun a hs => ?_
 refine nl ?_
 refine wp_seq ?_
 refine wp_seq ?_
 obtain ⟨rv12, h11, hsh⟩ := bind_t hsh
 obtain ⟨rv14, h13, hsh⟩ := bind_t hsh
 obtain ⟨rv16, h15, hsh⟩ := bind_t hsh
 refine wp_only (fun a w => ∃ (Sv17 : Nat → Prop), Sl 35 [(2, .pointer (some ⟨b9, 0, none⟩)), (3, .pointer (some ⟨b10, 0, none⟩)), (22, .agg #[.int .i64 rv12, .int .i64 rv14, .int .i64 rv16]), (23, .int .i64 0)] a ∧ Wd ⟨w0, S0, []⟩ Sv17 [.box b9 [.string a1.Source.Network, .string a1.Source.Station, .string a1.Source.Location, .string a1.Source.Channel, .int .i64 a1.Start, .int .i64 a1.First, .int .i64 a1.Rate.Num, .int .i64 a1.Rate.Den, .int .i64 a1.Error, .int .i64 a1.Run, .int .i64 a1.Seq, .slice p2 a1.Samples.length k3] 35, .box b10 [.string b5.Source.Network, .string b5.Source.Station, .string b5.Source.Location, .string b5.Source.Channel, .int .i64 b5.Start, .int .i64 b5.First, .int .i64 b5.Rate.Num, .int .i64 b5.Rate.Den, .int .i64 b5.Error, .int .i64 b5.Run, .int .i64 b5.Seq, .slice p6 b5.Samples.length k7] 35] [SlA p2 a1.Samples.length k3 a1.Samples, SlA p6 b5.Samples.length k7 b5.Samples] w) ?_ ?_
 ·refine h_b (C := Cls [.box b10 [.string b5.Source.Network, .string b5.Source.Station, .string b5.Source.Location, .string b5.Source.Channel, .int .i64 b5.Start, .int .i64 b5.First, .int .i64 b5.Rate.Num, .int .i64 b5.Rate.Den, .int .i64 b5.Error, .int .i64 b5.Run, .int .i64 b5.Seq, .slice p6 b5.Samples.length k7] 35, .box b9 [.string a1.Source.Network, .string a1.Source.Station, .string a1.Source.Location, .string a1.Source.Channel, .int .i64 a1.Start, .int .i64 a1.First, .int .i64 a1.Rate.Num, .int .i64 a1.Rate.Den, .int .i64 a1.Error, .int .i64 a1.Run, .int .i64 a1.Seq, .slice p2 a1.Samples.length k3] 35] []) (by kernel_rfl) rfl (hw.drew.cs [0, 1] [] rfl rfl) fun hC => ?_
  have hw := hw.drew
  refine gv hs 0 rfl rfl hC (fun w hC => y_fieldAddr (o' := 8) Tryz.runUnderlying35 rfl Tryz.sizeOf3 rfl rfl rfl) fun a hs => ?_
  refine gv hs 1 rfl rfl hC (fun w hC => y_loadB1 (hC.ownAt 1 rfl) rfl Tryz.isAgg3 rfl) fun a hs => ?_
  refine gv hs 2 rfl rfl hC (fun w hC => y_fieldAddr (o' := 8) Tryz.runUnderlying35 rfl Tryz.sizeOf3 rfl rfl rfl) fun a hs => ?_
  refine gv hs 3 rfl rfl hC (fun w hC => y_loadB1 (hC.ownAt 0 rfl) rfl Tryz.isAgg3 rfl) fun a hs => ?_
  refine gv hs 5 rfl rfl hC (fun w hC => y_fieldAddr (o' := 9) Tryz.runUnderlying35 rfl Tryz.sizeOf3 rfl rfl rfl) fun a hs => ?_
  refine gv hs 6 rfl rfl hC (fun w hC => y_loadB1 (hC.ownAt 0 rfl) rfl Tryz.isAgg3 rfl) fun a hs => ?_
  refine gv hs 7 rfl rfl hC (fun w hC => y_fieldAddr (o' := 9) Tryz.runUnderlying35 rfl Tryz.sizeOf3 rfl rfl rfl) fun a hs => ?_
  refine gv hs 8 rfl rfl hC (fun w hC => y_loadB1 (hC.ownAt 1 rfl) rfl Tryz.isAgg3 rfl) fun a hs => ?_
  refine gv hs 10 rfl rfl hC (fun w hC => y_fieldAddr (o' := 10) Tryz.runUnderlying35 rfl Tryz.sizeOf3 rfl rfl rfl) fun a hs => ?_
  refine gv hs 11 rfl rfl hC (fun w hC => y_loadB1 (hC.ownAt 0 rfl) rfl Tryz.isAgg3 rfl) fun a hs => ?_
  refine gv hs 12 rfl rfl hC (fun w hC => y_fieldAddr (o' := 10) Tryz.runUnderlying35 rfl Tryz.sizeOf3 rfl rfl rfl) fun a hs => ?_
  refine gv hs 13 rfl rfl hC (fun w hC => y_loadB1 (hC.ownAt 1 rfl) rfl Tryz.isAgg3 rfl) fun a hs => ?_
  refine gm hs 16 rfl rfl rfl hC fun a hs => ?_
  refine ho 4 rfl ?_
  refine st_callR hs (ref14_number_ok h11 hw.bdom) (do_call Tryz.call54 rfl) trivial rfl rfl ?_
  intro v21 Sv18 w a h19 h20 hs
  subst h20
  have hw := hw.callB h19
  refine h_nx (hw.cs [0, 1] [] rfl rfl) fun hC => ?_
  refine ho 9 rfl ?_
  refine st_callR hs (ref14_number_ok h13 hw.bdom) (do_call Tryz.call54 rfl) trivial rfl rfl ?_
  intro v26 Sv23 w a h24 h25 hs
  subst h25
  have hw := hw.callB h24
  refine h_nx (hw.cs [0, 1] [] rfl rfl) fun hC => ?_
  refine ho 14 rfl ?_
  refine st_callR hs (ref14_number_ok h15 hw.bdom) (do_call Tryz.call54 rfl) trivial rfl rfl ?_
  intro v31 Sv28 w a h29 h30 hs
  subst h30
  have hw := hw.callB h29
  refine h_nx (hw.cs [0, 1] [] rfl rfl) fun hC => ?_
  refine gv hs 15 rfl rfl hC (fun w hC => y_build (vs := [(0, .int .i64 rv12), (1, .int .i64 rv14), (2, .int .i64 rv16)]) Bld89 rfl rfl) fun a hs => ?_
  refine h_done (by kernel_rfl) ?_
  exact ⟨S0, (hs.wk rfl), (hw.ft [1, 0] [1, 0] (by decide) rfl rfl)⟩
 rintro a w ⟨Sv17, hs, hw⟩
 refine then_normal ?_
 refine wp_block ?_
 refine wp_while (fun sv50 a w => ∃ (Sv60 : Nat → Prop), Sl 35 [(2, .pointer (some ⟨b9, 0, none⟩)), (3, .pointer (some ⟨b10, 0, none⟩)), (22, .agg #[.int .i64 rv12, .int .i64 rv14, .int .i64 rv16]), (23, .int .i64 sv50)] a ∧ Wd ⟨w0, S0, []⟩ Sv60 [.box b9 [.string a1.Source.Network, .string a1.Source.Station, .string a1.Source.Location, .string a1.Source.Channel, .int .i64 a1.Start, .int .i64 a1.First, .int .i64 a1.Rate.Num, .int .i64 a1.Rate.Den, .int .i64 a1.Error, .int .i64 a1.Run, .int .i64 a1.Seq, .slice p2 a1.Samples.length k3] 35, .box b10 [.string b5.Source.Network, .string b5.Source.Station, .string b5.Source.Location, .string b5.Source.Channel, .int .i64 b5.Start, .int .i64 b5.First, .int .i64 b5.Rate.Num, .int .i64 b5.Rate.Den, .int .i64 b5.Error, .int .i64 b5.Run, .int .i64 b5.Seq, .slice p6 b5.Samples.length k7] 35] [SlA p2 a1.Samples.length k3 a1.Samples, SlA p6 b5.Samples.length k7 b5.Samples] w) 0 hsh ⟨Sv17, (hs.wk rfl), (hw.ft [0, 1] [0, 1] (by decide) rfl rfl)⟩ ?_
 repeat clear hsh
 rintro sv50 a w tv66 ⟨Sv60, hs, hw⟩ hsh hd65
 delta ref14_Better_l2 at hsh
 refine sr ?_
 refine sv hs (y_lss rfl rfl) rfl fun a hs => ?_
 refine nl ?_
 refine wp_seq ?_
 refine wp_cond_split (hs.ev rfl) (fun h70 => ?_) (fun h70 => ?_)
 ·have hsh := ite_t hsh h70
  refine wp_skip ?_
  refine then_normal ?_
  refine wp_seq ?_
  refine wp_block ?_
  refine sr ?_
  obtain ⟨x75, h74, hsh⟩ := bind_t hsh
  refine sv hs (y_idxA (α := Int) (xs := [rv12, rv14, rv16]) (cs := [.int .i64 rv12, .int .i64 rv14, .int .i64 rv16]) (es := [.int .i64 x75]) (v := .int .i64 x75) Tryz.runUnderlying89 Tryz.sizeOf3 (.inl ⟨Tryz.isAgg3, rfl⟩) rfl rfl rfl (fun _ _ => ⟨⟨_, rfl, rfl⟩, ⟨⟨_, rfl, rfl⟩, ⟨⟨_, rfl, rfl⟩, rfl⟩⟩⟩) h74 (fun _ _ _ he => by obtain ⟨_, rfl, rfl⟩ := he; rfl)) rfl fun a hs => ?_
  refine av hs rfl rfl fun a hs => ?_
  refine nl ?_
  refine sr ?_
  refine mv hs rfl rfl fun a hs => ?_
  refine sv hs (y_neq rfl rfl) rfl fun a hs => ?_
  refine nl ?_
  refine wp_cond_split (hs.ev rfl) (fun h77 => ?_) (fun h77 => ?_)
  ·have hsh := ite_t hsh h77
   refine sr ?_
   refine mv hs rfl rfl fun a hs => ?_
   refine sv hs (y_lss rfl rfl) rfl fun a hs => ?_
   refine av hs rfl rfl fun a hs => ?_
   refine nl ?_
   have hsh := oi hsh
   subst hsh
   have h78 := hd65 _ rfl
   subst h78
   refine wp_ret ?_
   refine blk_ret ?_
   refine then_ret ?_
   refine then_ret ?_
   refine blk_ret ?_
   refine then_ret ?_
   exact ret1 hs rfl (rv_tmp rfl) (hw.ret rfl)
  have hsh := ite_f hsh h77
  refine wp_skip ?_
  refine blk_normal ?_
  refine then_normal ?_
  refine wp_region_lit ?_
  refine sv hs (y_add rfl rfl) rfl fun a hs => ?_
  refine mv hs rfl rfl fun a hs => ?_
  refine nl ?_
  exact ⟨_, (Option.some.inj hsh).symm, Sv60, (hs.wk rfl), (hw.ft [0, 1] [0, 1] (by decide) rfl rfl)⟩
 have hsh := ite_f hsh h70
 obtain ⟨rv86, hsh, h87⟩ := map_t hsh
 have h87 := (hd65 _ h87.symm).symm
 subst h87
 refine wp_exit ?_
 refine then_exit ?_
 refine then_exit ?_
 refine blk_exit ?_
 refine then_normal ?_
 refine sr ?_
 refine sv hs (y_loadBA (hw.ownAt 0 rfl) rfl Tryz.isAgg35 Tryz.sizeOf35 rfl rfl) rfl fun a hs => ?_
 refine sv hs (y_loadBA (hw.ownAt 1 rfl) rfl Tryz.isAgg35 Tryz.sizeOf35 rfl rfl) rfl fun a hs => ?_
 obtain ⟨rv80, h79, hsh⟩ := bind_t hsh
 refine st_callR hs (ref14_Compare_ok h79 hw.bdom (hw.bE 0 rfl) (hw.bE 1 rfl)) (do_call Tryz.call21 rfl) trivial rfl rfl ?_
 intro v84 Sv81 w a h82 h83 hs
 subst h83
 have hw := hw.callB h82
 refine sv hs (y_lss rfl rfl) rfl fun a hs => ?_
 refine av hs rfl rfl fun a hs => ?_
 refine nl ?_
 have hsh := oi hsh
 subst hsh
 refine wp_ret ?_
 exact ret1 hs rfl (rv_tmp rfl) (hw.ret rfl)

abbrev ref08_Has_rd (w0 : World) (X : List Nat) (r : Bool) : (Nat → Prop) → World → Value → Prop := fun S w v => v = .bool r
set_option maxHeartbeats 4000000 in
set_option maxRecDepth 100000 in
theorem ref08_Has_ok {w0 : World} {S0 : Nat → Prop} {p2 : Option Addr} {k3 : Nat} {l1 : (List Span)} {x5 : Int} {r : Bool} (hsh : ref08_Has l1 x5 = some r) (hS : ∀ b, S0 b → b < w0.heap.size) (h4 : (SlA p2 l1.length k3 l1).p S0 w0) : Calls Tryz.prog 26 #[.slice p2 l1.length k3, .int .i64 x5] w0 (Ret ([]) w0 S0 (ref08_Has_rd w0 ([]) r)) := by
 refine calls_of_wp Tryz.func26 rfl ?_
 have hs := Sl.enter #[.slice p2 l1.length k3, .int .i64 x5] 28 [(0, .slice p2 l1.length k3), (1, .int .i64 x5)] rfl ⟨rfl, rfl, trivial⟩
 have hw := Wd.enter (E := []) hS (fun _ h => (by cases h))
 have hw := hw.addE h4
 delta ref08_Has at hsh
 refine sr ?_
 refine av hs rfl rfl fun a hs => ?_
 refine nl ?_
 refine wp_seq ?_
 refine sr ?_
 refine av hs rfl rfl fun a hs => ?_
 refine nl ?_
 refine wp_block ?_
 refine wp_while (fun sv119 a w => ∃ (Sv193 : Nat → Prop), Sl 28 [(0, .slice p2 l1.length k3), (1, .int .i64 x5), (5, .int .i64 sv119)] a ∧ Wd ⟨w0, S0, []⟩ Sv193 [] [SlA p2 l1.length k3 l1] w) 0 hsh ⟨S0, (hs.wk rfl), (hw.ft [] [0] (by decide) rfl rfl)⟩ ?_
 repeat clear hsh
 rintro sv119 a w tv231 ⟨Sv193, hs, hw⟩ hsh hd230
 delta ref08_Has_l2 at hsh
 refine wp_seq ?_
 refine sr ?_
 refine mv hs rfl rfl fun a hs => ?_
 refine mv hs rfl rfl fun a hs => ?_
 refine sv hs (y_len Tryz.runUnderlying52 rfl) rfl fun a hs => ?_
 refine sv hs (y_lss rfl rfl) rfl fun a hs => ?_
 refine nl ?_
 refine wp_cond_split (hs.ev rfl) (fun h235 => ?_) (fun h235 => ?_)
 ·have hsh := ite_t hsh h235
  refine wp_skip ?_
  refine then_normal ?_
  refine wp_seq ?_
  refine wp_block ?_
  refine sr ?_
  refine mv hs rfl rfl fun a hs => ?_
  refine mv hs rfl rfl fun a hs => ?_
  obtain ⟨x271, h269, hsh⟩ := bind_t hsh
  obtain ⟨b277, o278, q275, c276, h279, h272, h273, h274, h270⟩ := hw.elemV 0 rfl h269
  have hsv280 := hs
  have hwv281 := hw
  subst h279
  have hs := hsv280
  have hw := hwv281
  obtain ⟨_, _, rfl, rfl, rfl⟩ := h270
  have hw := hw.addE h274
  refine sv hs (y_indexAt Tryz.runUnderlying52 Tryz.sizeOf45 rfl rfl h272.1 h272.2 h273) rfl fun a hs => ?_
  refine sv hs (y_fieldAddr (o' := q275 + 0) Tryz.runUnderlying45 rfl Tryz.sizeOf3 rfl rfl rfl) rfl fun a hs => ?_
  refine sv hs (y_loadE1 (j := 0) (hw.ceAt 0 rfl) rfl Tryz.isAgg3 rfl) rfl fun a hs => ?_
  refine mv hs rfl rfl fun a hs => ?_
  refine sv hs (y_leq rfl rfl) rfl fun a hs => ?_
  refine mv hs rfl rfl fun a hs => ?_
  obtain ⟨c291, hc291, hsh⟩ := bind_t hsh
  refine wpl_join 8 (fun a w => ∃ (Sv292 : Nat → Prop), Sl 28 [(0, .slice (some ⟨b277, o278, none⟩) l1.length k3), (1, .int .i64 x5), (5, .int .i64 sv119), (27, .bool c291)] a ∧ Wd ⟨w0, S0, []⟩ Sv292 [] [SlA (some ⟨b277, o278, none⟩) l1.length k3 l1] w) ?_ ?_
  ·rcases Bool.eq_false_or_eq_true (decide (x271.From ≤ x5)) with h290 | h290
   ·have hs := hs.fix 19 (.bool true) rfl (vb h290)
    have hsh := ite_t hc291 h290
    refine st_val hs (y_move rfl) ⟨_, rfl, rfl⟩ rfl rfl fun a hs => ?_
    refine st_val hs (y_move rfl) ⟨_, rfl, rfl⟩ rfl rfl fun a hs => ?_
    refine st_val hs (y_move rfl) ⟨_, rfl, rfl⟩ rfl rfl fun a hs => ?_
    obtain ⟨x295, h293, hsh⟩ := bind_t hsh
    obtain ⟨q299, c300, h296, h297, h298, h294⟩ := hw.elemK 1 rfl h293
    obtain ⟨_, _, rfl, rfl, rfl⟩ := h294
    have hw := hw.addE h298
    refine st_val hs (y_indexAt Tryz.runUnderlying52 Tryz.sizeOf45 rfl rfl h296.1 h296.2 h297) ⟨_, rfl, rfl⟩ rfl rfl fun a hs => ?_
    refine st_val hs (y_fieldAddr (o' := q299 + 1) Tryz.runUnderlying45 rfl Tryz.sizeOf3 rfl rfl rfl) ⟨_, rfl, rfl⟩ rfl rfl fun a hs => ?_
    refine st_val hs (y_loadE1 (j := 1) (hw.ceAt 0 rfl) rfl Tryz.isAgg3 rfl) ⟨_, rfl, rfl⟩ rfl rfl fun a hs => ?_
    refine st_val hs (y_lss rfl rfl) ⟨_, rfl, rfl⟩ rfl rfl fun a hs => ?_
    refine sv hs (y_pickT rfl rfl) rfl fun a hs => ?_
    refine wpList_nil ?_
    have hsh := oi hsh
    subst hsh
    refine then_normal ?_
    exact ⟨Sv193, (hs.wk rfl), (hw.ft [] [2] (by decide) rfl rfl)⟩
   have hs := hs.fix 19 (.bool false) rfl (vb h290)
   have hsh := ite_f hc291 h290
   refine st_skip hs rfl rfl rfl rfl rfl fun a hs => ?_
   refine st_skip hs rfl rfl rfl rfl rfl fun a hs => ?_
   refine st_skip hs rfl rfl rfl rfl rfl fun a hs => ?_
   refine st_skip hs rfl rfl rfl rfl rfl fun a hs => ?_
   refine st_skip hs rfl rfl rfl rfl rfl fun a hs => ?_
   refine st_skip hs rfl rfl rfl rfl rfl fun a hs => ?_
   refine st_skip hs rfl rfl rfl rfl rfl fun a hs => ?_
   refine sv hs (y_pickF rfl rfl) rfl fun a hs => ?_
   refine wpList_nil ?_
   have hsh := oi hsh
   subst hsh
   refine then_normal ?_
   exact ⟨Sv193, (hs.wk rfl), (hw.ft [] [1] (by decide) rfl rfl)⟩
  rintro a w ⟨Sv292, hs, hw⟩
  refine nl ?_
  refine wp_cond_split (hs.ev rfl) (fun h302 => ?_) (fun h302 => ?_)
  ·have hsh := ite_t hsh h302
   refine sr ?_
   refine av hs rfl rfl fun a hs => ?_
   refine nl ?_
   have hsh := oi hsh
   subst hsh
   have h303 := hd230 _ rfl
   subst h303
   refine wp_ret ?_
   refine blk_ret ?_
   refine then_ret ?_
   refine then_ret ?_
   refine blk_ret ?_
   refine then_ret ?_
   exact ret1 hs rfl (rv_tmp rfl) (hw.ret rfl)
  have hsh := ite_f hsh h302
  refine wp_skip ?_
  refine blk_normal ?_
  refine then_normal ?_
  refine wp_region_lit ?_
  refine mv hs rfl rfl fun a hs => ?_
  refine sv hs (y_add rfl rfl) rfl fun a hs => ?_
  obtain ⟨i305, h304, hsh⟩ := bind_t hsh
  refine sv hs (y_assignI rfl h304) rfl fun a hs => ?_
  refine nl ?_
  exact ⟨_, (Option.some.inj hsh).symm, Sv292, (hs.wk rfl), (hw.ft [] [0] (by decide) rfl rfl)⟩
 have hsh := ite_f hsh h235
 obtain ⟨rv306, hsh, h307⟩ := map_t hsh
 have h307 := (hd230 _ h307.symm).symm
 subst h307
 refine wp_exit ?_
 refine then_exit ?_
 refine then_exit ?_
 refine blk_exit ?_
 refine then_normal ?_
 refine sr ?_
 refine av hs rfl rfl fun a hs => ?_
 refine nl ?_
 have hsh := oi hsh
 subst hsh
 refine wp_ret ?_
 exact ret1 hs rfl (rv_tmp rfl) (hw.ret rfl)

abbrev law15_ComposeOnce_rd (w0 : World) (X : List Nat) (r : Bool) : (Nat → Prop) → World → Value → Prop := fun S w v => v = .bool r
set_option maxHeartbeats 4000000 in
set_option maxRecDepth 100000 in
theorem law15_ComposeOnce_ok {w0 : World} {S0 : Nat → Prop} {p2 : Option Addr} {k3 : Nat} {t1 : (List Int)} {n5 : Int} {r : Bool} (hsh : law15_ComposeOnce t1 n5 = some r) (hS : ∀ b, S0 b → b < w0.heap.size) (h4 : (SlA p2 t1.length k3 t1).p S0 w0) : Calls Tryz.prog 5 #[.slice p2 t1.length k3, .int .u16 n5] w0 (Ret ([]) w0 S0 (law15_ComposeOnce_rd w0 ([]) r)) := by
 refine calls_of_wp Tryz.func5 rfl ?_
 have hs := Sl.enter #[.slice p2 t1.length k3, .int .u16 n5] 191 [(0, .slice p2 t1.length k3), (1, .int .u16 n5)] rfl ⟨rfl, rfl, trivial⟩
 have hw := Wd.enter (E := []) hS (fun _ h => (by cases h))
 have hw := hw.addE h4
 delta law15_ComposeOnce at hsh
 refine sr ?_
 refine av hs rfl rfl fun a hs => ?_
 refine nl ?_
 refine wp_seq ?_
 refine sr ?_
 refine mv hs rfl rfl fun a hs => ?_
 obtain ⟨rv7, h6, hsh⟩ := bind_t hsh
 refine st_callR hs (made_Light_ok h6 hw.bdom (hw.bE 0 rfl)) (do_call Tryz.call11 rfl) trivial rfl rfl ?_
 intro v11 Sv8 w a h9 h10 hs
 subst h10
 have hw := hw.callB h9
 refine sv hs (y_not rfl) rfl fun a hs => ?_
 refine nl ?_
 refine wp_cond_split (hs.ev rfl) (fun h21 => ?_) (fun h21 => ?_)
 ·have hsh := ite_t hsh h21
  refine sr ?_
  obtain ⟨rv23, h22, hsh⟩ := bind_t hsh
  refine st_callR hs (law15_sane_ok h22 hw.bdom) (do_call Tryz.call12 rfl) trivial rfl rfl ?_
  intro v27 Sv24 w a h25 h26 hs
  subst h26
  have hw := hw.callB h25
  refine av hs rfl rfl fun a hs => ?_
  refine nl ?_
  have hsh := oi hsh
  subst hsh
  refine wp_ret ?_
  refine then_ret ?_
  exact ret1 hs rfl (rv_tmp rfl) (hw.ret rfl)
 have hsh := ite_f hsh h21
 refine wp_skip ?_
 refine then_normal ?_
 refine sr ?_
 refine mv hs rfl rfl fun a hs => ?_
 obtain ⟨rv30, h29, hsh⟩ := bind_t hsh
 refine st_callR hs (made_Roll_ok h29 hw.dom (hw.envAt 0 rfl)) (do_call Tryz.call13 rfl) trivial rfl rfl ?_
 intro v38 Sv35 w a h36 h37 hs
 obtain ⟨b31, p32, k33, rfl, h39, h34⟩ := h37
 have hw := hw.callN h36 h39
 have hw := hw.addE (e := SlA p32 rv30.L.length k33 rv30.L) h34
 refine av hs rfl rfl fun a hs => ?_
 refine nl ?_
 refine sr ?_
 refine mv hs rfl rfl fun a hs => ?_
 obtain ⟨rv41, h40, hsh⟩ := bind_t hsh
 refine st_callR hs (made_Dice_Records_ok h40 hw.dom (hw.ins [0] (by decide) rfl) (hw.envAt 0 rfl)) (do_call Tryz.call14 rfl) trivial rfl rfl ?_
 intro v52 Sv49 w a h50 h51 hs
 obtain ⟨p42, k43, c45, p46, k47, rfl, h53, h44, h48⟩ := h51
 have hw := hw.callO [0] [] (by decide) rfl h50 h53
 have hw := hw.addE (e := RowA c45 rv41.1) h44
 have hw := hw.addE (e := SlA p46 rv41.2.L.length k47 rv41.2.L) h48
 refine av hs rfl rfl fun a hs => ?_
 refine nl ?_
 refine sr ?_
 refine mv hs rfl rfl fun a hs => ?_
 obtain ⟨rv55, h54, hsh⟩ := bind_t hsh
 obtain ⟨Sv60, hw⟩ := w_share (α := Record) hw 0 rfl 1 rfl
 refine st_callR hs (compose_Compose_ok h54 hw.dom (hw.envAt 0 rfl)) (do_call Tryz.call17 rfl) trivial rfl rfl ?_
 intro v64 Sv61 w a h62 h63 hs
 obtain ⟨p56, k57, c59, rfl, h65, h58⟩ := h63
 have hw := hw.callN h62 h65
 have hw := hw.addE (e := RowA c59 rv55.1) h58
 refine mv hs rfl rfl fun a hs => ?_
 refine sv hs (y_extract rfl rfl) rfl fun a hs => ?_
 refine sv hs (y_extract rfl rfl) rfl fun a hs => ?_
 refine av hs rfl rfl fun a hs => ?_
 refine av hs rfl rfl fun a hs => ?_
 refine nl ?_
 refine wp_seq ?_
 refine sr ?_
 refine mv hs rfl rfl fun a hs => ?_
 refine sv hs (y_neq rfl rfl) rfl fun a hs => ?_
 refine nl ?_
 refine wp_cond_split (hs.ev rfl) (fun h67 => ?_) (fun h67 => ?_)
 ·have hsh := ite_t hsh h67
  refine sr ?_
  refine av hs rfl rfl fun a hs => ?_
  refine nl ?_
  have hsh := oi hsh
  subst hsh
  refine wp_ret ?_
  refine then_ret ?_
  exact ret1 hs rfl (rv_tmp rfl) (hw.ret rfl)
 have hsh := ite_f hsh h67
 refine wp_skip ?_
 refine then_normal ?_
 refine sr ?_
 refine av hs rfl rfl fun a hs => ?_
 refine nl ?_
 refine sr ?_
 refine av hs rfl rfl fun a hs => ?_
 refine nl ?_
 refine wp_seq ?_
 refine sr ?_
 refine mv hs rfl rfl fun a hs => ?_
 refine sv hs (y_len Tryz.runUnderlying27 rfl) rfl fun a hs => ?_
 refine mv hs rfl rfl fun a hs => ?_
 refine nl ?_
 refine wp_block ?_
 have hw := hw.nilRow Span 45
 refine wp_while (fun sv1878 a w => ∃ (c3082 : List Value) (p3083 : Option Addr) (k3084 : Nat) (Sv3085 : Nat → Prop), Sl 191 [(1, .int .u16 n5), (6, .slice p42 rv41.1.length k43), (7, .slice p56 rv55.1.length k57), (9, .slice p3083 sv1878.1.length k3084), (10, .int .i64 sv1878.2.1), (44, .slice p56 rv55.1.length k57), (45, .int .i64 (rv55.1.length : Int)), (46, .int .i64 sv1878.2.2)] a ∧ Wd ⟨w0, S0, []⟩ Sv3085 [.row p56 rv55.1.length k57 c59 35 12, .row p3083 sv1878.1.length k3084 c3082 45 2] [SlA p42 rv41.1.length k43 rv41.1, RowA c59 rv55.1, RowA c3082 sv1878.1] w) (([] : List Span), 0, 0) hsh ⟨[], none, 0, Sv61, (hs.wk rfl), (hw.ft [1, 0] [2, 1, 0] (by decide) rfl rfl)⟩ ?_
 repeat clear hsh
 rintro sv1878 a w tv3687 ⟨c3082, p3083, k3084, Sv3085, hs, hw⟩ hsh hd3686
 delta law15_ComposeOnce_l22 at hsh
 refine sr ?_
 refine sv hs (y_lss rfl rfl) rfl fun a hs => ?_
 refine nl ?_
 refine wp_seq ?_
 refine wp_cond_split (hs.ev rfl) (fun h3691 => ?_) (fun h3691 => ?_)
 ·have hsh := ite_t hsh h3691
  refine wp_skip ?_
  refine then_normal ?_
  refine wp_seq ?_
  refine wp_block ?_
  refine sr ?_
  refine mv hs rfl rfl fun a hs => ?_
  obtain ⟨x4293, h4291, hsh⟩ := bind_t hsh
  obtain ⟨b4300, q4297, c4298, h4301, h4294, h4295, h4299, h4292⟩ := hw.elemRV (α := Record) 0 rfl 1 rfl h4291
  have hsv4302 := hs
  have hwv4303 := hw
  subst h4301
  have hs := hsv4302
  have hw := hwv4303
  obtain ⟨_, _, _, _, _, _, _, _, _, _, _, _, rfl, rfl, rfl, rfl, rfl, rfl, rfl, rfl, rfl, rfl, rfl, rfl, ⟨p4304, n4305, k4306, rfl, h4307⟩⟩ := h4292
  obtain rfl := h4307.1
  have hw := hw.addE (e := SlA p4304 _ k4306 x4293.Samples) h4307
  refine sv hs (y_indexAt Tryz.runUnderlying27 Tryz.sizeOf35 rfl rfl h4294.1 h4294.2 h4295) rfl fun a hs => ?_
  refine sv hs (y_loadQA (j := 0) (hw.ownAt 0 rfl) rfl Tryz.isAgg35 Tryz.sizeOf35 h4299 rfl rfl) rfl fun a hs => ?_
  refine w_alloc (cs := [.string ByteArray.empty, .string ByteArray.empty, .string ByteArray.empty, .string ByteArray.empty, .int .i64 0, .int .i64 0, .int .i64 0, .int .i64 0, .int .i64 0, .int .i64 0, .int .i64 0, .slice none ([] : List Int).length 0]) hs hw Tryz.zeroValue35 rfl rfl trivial ?_
  intro b4308 a w hs hw
  refine av hs rfl rfl fun a hs => ?_
  refine w_store (m := 12) (cs' := [.string x4293.Source.Network, .string x4293.Source.Station, .string x4293.Source.Location, .string x4293.Source.Channel, .int .i64 x4293.Start, .int .i64 x4293.First, .int .i64 x4293.Rate.Num, .int .i64 x4293.Rate.Den, .int .i64 x4293.Error, .int .i64 x4293.Run, .int .i64 x4293.Seq, .slice p4304 x4293.Samples.length k4306]) hs hw 0 rfl rfl rfl Tryz.sizeOf35 rfl rfl rfl rfl trivial ?_
  intro a w hs hw
  refine nl ?_
  refine sr ?_
  refine sv hs (y_loadBA (hw.ownAt 0 rfl) rfl Tryz.isAgg35 Tryz.sizeOf35 rfl rfl) rfl fun a hs => ?_
  obtain ⟨rv4310, h4309, hsh⟩ := bind_t hsh
  refine st_callR hs (ref14_Span_ok h4309 hw.bdom (hw.bE 0 rfl)) (do_call Tryz.call22 rfl) trivial rfl rfl ?_
  intro v4314 Sv4311 w a h4312 h4313 hs
  subst h4313
  have hw := hw.callB h4312
  refine mv hs rfl rfl fun a hs => ?_
  refine sv hs (y_extract rfl rfl) rfl fun a hs => ?_
  refine sv hs (y_extract rfl rfl) rfl fun a hs => ?_
  refine w_alloc (cs := [.int .i64 0, .int .i64 0]) hs hw Tryz.zeroValue45 rfl rfl trivial ?_
  intro b4316 a w hs hw
  refine w_store (m := 2) (cs' := [.int .i64 rv4310.1.From, .int .i64 rv4310.1.To]) hs hw 0 rfl rfl rfl Tryz.sizeOf45 rfl rfl rfl rfl trivial ?_
  intro a w hs hw
  refine av hs rfl rfl fun a hs => ?_
  refine nl ?_
  refine wp_seq ?_
  refine wp_seq ?_
  obtain ⟨Sv4317, hw⟩ := w_share (α := Span) hw 3 rfl 3 rfl
  obtain ⟨c4324, hc4324, hsh⟩ := bind_t hsh
  obtain ⟨c4341, hc4341, hsh⟩ := bind_t hsh
  refine wp_only (fun a w => ∃ (Sv4342 : Nat → Prop), Sl 191 [(1, .int .u16 n5), (6, .slice p42 rv41.1.length k43), (7, .slice (some ⟨b4300, 0, none⟩) rv55.1.length k57), (9, .slice p3083 sv1878.1.length k3084), (10, .int .i64 sv1878.2.1), (12, .pointer (some ⟨b4308, 0, none⟩)), (13, .pointer (some ⟨b4316, 0, none⟩)), (44, .slice (some ⟨b4300, 0, none⟩) rv55.1.length k57), (45, .int .i64 (rv55.1.length : Int)), (46, .int .i64 sv1878.2.2), (81, .bool c4341)] a ∧ Wd ⟨w0, S0, []⟩ Sv4342 [.box b4308 [.string x4293.Source.Network, .string x4293.Source.Station, .string x4293.Source.Location, .string x4293.Source.Channel, .int .i64 x4293.Start, .int .i64 x4293.First, .int .i64 x4293.Rate.Num, .int .i64 x4293.Rate.Den, .int .i64 x4293.Error, .int .i64 x4293.Run, .int .i64 x4293.Seq, .slice p4304 x4293.Samples.length k4306] 35, .box b4316 [.int .i64 rv4310.1.From, .int .i64 rv4310.1.To] 45, .row (some ⟨b4300, 0, none⟩) rv55.1.length k57 c59 35 12] [SlA p42 rv41.1.length k43 rv41.1, SlA p3083 sv1878.1.length k3084 sv1878.1, SlA p4304 x4293.Samples.length k4306 x4293.Samples, RowA c59 rv55.1] w) ?_ ?_
  ·rcases Bool.eq_false_or_eq_true (rv4310.2 != 0) with h4343 | h4343
   ·have h4344 := ite_t hc4324 h4343
    have h4345 : c4324 = true := (Option.some.inj h4344).symm
    have h4346 := ite_t hc4341 h4345
    refine h_b (C := Cls [.box b4316 [.int .i64 rv4310.1.From, .int .i64 rv4310.1.To] 45, .box b4308 [.string x4293.Source.Network, .string x4293.Source.Station, .string x4293.Source.Location, .string x4293.Source.Channel, .int .i64 x4293.Start, .int .i64 x4293.First, .int .i64 x4293.Rate.Num, .int .i64 x4293.Rate.Den, .int .i64 x4293.Error, .int .i64 x4293.Run, .int .i64 x4293.Seq, .slice p4304 x4293.Samples.length k4306] 35, .row (some ⟨b4300, 0, none⟩) rv55.1.length k57 c59 35 12] []) (by kernel_rfl) rfl (hw.drew.cs [0, 1, 2] [] rfl rfl) fun hC => ?_
    have hw := hw.drew
    refine gm hs 0 rfl rfl rfl hC fun a hs => ?_
    refine gv hs 1 rfl rfl hC (fun w hC => y_neq rfl rfl) fun a hs => ?_
    refine gm hs 2 rfl rfl rfl hC fun a hs => ?_
    have hs := hs.fix 58 (.bool true) rfl (vb h4343)
    refine gs hs 3 rfl rfl rfl rfl hC fun a hs => ?_
    refine gs hs 4 rfl rfl rfl rfl hC fun a hs => ?_
    refine gs hs 5 rfl rfl rfl rfl hC fun a hs => ?_
    refine gs hs 6 rfl rfl rfl rfl hC fun a hs => ?_
    refine gs hs 7 rfl rfl rfl rfl hC fun a hs => ?_
    refine gs hs 8 rfl rfl rfl rfl hC fun a hs => ?_
    refine gs hs 9 rfl rfl rfl rfl hC fun a hs => ?_
    refine gs hs 10 rfl rfl rfl rfl hC fun a hs => ?_
    refine gv hs 11 rfl rfl hC (fun w hC => y_pickTE (v := .bool c4324) rfl rfl (vbs h4344)) fun a hs => ?_
    refine gm hs 12 rfl rfl rfl hC fun a hs => ?_
    have hs := hs.fix 68 (.bool true) rfl (vb h4345)
    refine gs hs 13 rfl rfl rfl rfl hC fun a hs => ?_
    refine gs hs 14 rfl rfl rfl rfl hC fun a hs => ?_
    refine gs hs 15 rfl rfl rfl rfl hC fun a hs => ?_
    refine h_s hs 16 rfl (by kernel_rfl) rfl rfl rfl (.inr rfl) rfl rfl hC fun a hs => ?_
    refine h_s hs 17 rfl (by kernel_rfl) rfl rfl rfl (.inr rfl) rfl rfl hC fun a hs => ?_
    refine h_s hs 18 rfl (by kernel_rfl) rfl rfl rfl (.inr rfl) rfl rfl hC fun a hs => ?_
    refine h_s hs 19 rfl (by kernel_rfl) rfl rfl rfl (.inr rfl) rfl rfl hC fun a hs => ?_
    refine h_s hs 20 rfl (by kernel_rfl) rfl rfl rfl (.inr rfl) rfl rfl hC fun a hs => ?_
    refine h_s hs 21 rfl (by kernel_rfl) rfl rfl rfl (.inr rfl) rfl rfl hC fun a hs => ?_
    refine h_s hs 22 rfl (by kernel_rfl) rfl rfl rfl (.inr rfl) rfl rfl hC fun a hs => ?_
    refine h_s hs 23 rfl (by kernel_rfl) rfl rfl rfl (.inr rfl) rfl rfl hC fun a hs => ?_
    refine gs hs 24 rfl rfl rfl rfl hC fun a hs => ?_
    refine gv hs 25 rfl rfl hC (fun w hC => y_pickTE (v := .bool c4341) rfl rfl (vbs h4346)) fun a hs => ?_
    refine h_done (by kernel_rfl) ?_
    exact ⟨Sv4317, (hs.wk rfl), (hw.ft [1, 0, 2] [2, 0, 1, 3] (by decide) rfl rfl)⟩
   have h4347 := ite_f hc4324 h4343
   obtain ⟨rv4349, h4348, h4347⟩ := bind_t h4347
   rcases Bool.eq_false_or_eq_true c4324 with h4354 | h4354
   ·have h4355 := ite_t hc4341 h4354
    refine h_b (C := Cls [.box b4316 [.int .i64 rv4310.1.From, .int .i64 rv4310.1.To] 45, .box b4308 [.string x4293.Source.Network, .string x4293.Source.Station, .string x4293.Source.Location, .string x4293.Source.Channel, .int .i64 x4293.Start, .int .i64 x4293.First, .int .i64 x4293.Rate.Num, .int .i64 x4293.Rate.Den, .int .i64 x4293.Error, .int .i64 x4293.Run, .int .i64 x4293.Seq, .slice p4304 x4293.Samples.length k4306] 35, .row (some ⟨b4300, 0, none⟩) rv55.1.length k57 c59 35 12] []) (by kernel_rfl) rfl (hw.drew.cs [0, 1, 2] [] rfl rfl) fun hC => ?_
    have hw := hw.drew
    refine gm hs 0 rfl rfl rfl hC fun a hs => ?_
    refine gv hs 1 rfl rfl hC (fun w hC => y_neq rfl rfl) fun a hs => ?_
    refine gm hs 2 rfl rfl rfl hC fun a hs => ?_
    have hs := hs.fix 58 (.bool false) rfl (vb h4343)
    refine gt hs 3 rfl ⟨_, rfl, rfl⟩ rfl hC (fun w hC => y_move rfl) fun a hs => ?_
    refine gt hs 4 rfl ⟨_, rfl, rfl⟩ rfl hC (fun w hC => y_fieldAddr (o' := 0) Tryz.runUnderlying45 rfl Tryz.sizeOf3 rfl rfl rfl) fun a hs => ?_
    refine gt hs 5 rfl ⟨_, rfl, rfl⟩ rfl hC (fun w hC => y_loadB1 (hC.ownAt 0 rfl) rfl Tryz.isAgg3 rfl) fun a hs => ?_
    refine gt hs 6 rfl ⟨_, rfl, rfl⟩ rfl hC (fun w hC => y_fieldAddr (o' := 1) Tryz.runUnderlying45 rfl Tryz.sizeOf3 rfl rfl rfl) fun a hs => ?_
    refine gt hs 7 rfl ⟨_, rfl, rfl⟩ rfl hC (fun w hC => y_loadB1 (hC.ownAt 0 rfl) rfl Tryz.isAgg3 rfl) fun a hs => ?_
    refine ho 8 rfl ?_
    refine st_callR hs (ref08_Cut_ok h4348 hw.dom (hw.envAt 0 rfl)) (do_call Tryz.call25 rfl) ⟨_, rfl, rfl⟩ rfl rfl ?_
    intro v4359 Sv4356 w a h4357 h4358 hs
    obtain ⟨p4350, k4351, c4353, rfl, h4360, h4352⟩ := h4358
    have hw := hw.callN h4357 h4360
    have hw := hw.addE (e := RowA c4353 rv4349) h4352
    refine h_nx (hw.cs [1, 2, 3] [] rfl rfl) fun hC => ?_
    refine h_st (C' := Cls [.box b4316 [.int .i64 rv4310.1.From, .int .i64 rv4310.1.To] 45, .box b4308 [.string x4293.Source.Network, .string x4293.Source.Station, .string x4293.Source.Location, .string x4293.Source.Channel, .int .i64 x4293.Start, .int .i64 x4293.First, .int .i64 x4293.Rate.Num, .int .i64 x4293.Rate.Den, .int .i64 x4293.Error, .int .i64 x4293.Run, .int .i64 x4293.Seq, .slice p4304 x4293.Samples.length k4306] 35, .row (some ⟨b4300, 0, none⟩) rv55.1.length k57 c59 35 12, .row p4350 rv4349.length k4351 c4353 45 2] []) (fun _ h => by exact h.sub [0, 1, 2] (Sel.of rfl) (AllIn.of [] rfl)) (hw.cs [1, 2, 3, 0] [] rfl rfl) fun hC => ?_
    refine gt hs 9 rfl ⟨_, rfl, rfl⟩ rfl hC (fun w hC => y_len Tryz.runUnderlying52 rfl) fun a hs => ?_
    refine gt hs 10 rfl ⟨_, rfl, rfl⟩ rfl hC (fun w hC => y_gtr rfl rfl) fun a hs => ?_
    refine gv hs 11 rfl rfl hC (fun w hC => y_pickFE (v := .bool c4324) rfl rfl (vbs h4347)) fun a hs => ?_
    refine gm hs 12 rfl rfl rfl hC fun a hs => ?_
    have hs := hs.fix 68 (.bool true) rfl (vb h4354)
    refine gs hs 13 rfl rfl rfl rfl hC fun a hs => ?_
    refine gs hs 14 rfl rfl rfl rfl hC fun a hs => ?_
    refine gs hs 15 rfl rfl rfl rfl hC fun a hs => ?_
    refine h_s hs 16 rfl (by kernel_rfl) rfl rfl rfl (.inr rfl) rfl rfl hC fun a hs => ?_
    refine h_s hs 17 rfl (by kernel_rfl) rfl rfl rfl (.inr rfl) rfl rfl hC fun a hs => ?_
    refine h_s hs 18 rfl (by kernel_rfl) rfl rfl rfl (.inr rfl) rfl rfl hC fun a hs => ?_
    refine h_s hs 19 rfl (by kernel_rfl) rfl rfl rfl (.inr rfl) rfl rfl hC fun a hs => ?_
    refine h_s hs 20 rfl (by kernel_rfl) rfl rfl rfl (.inr rfl) rfl rfl hC fun a hs => ?_
    refine h_s hs 21 rfl (by kernel_rfl) rfl rfl rfl (.inr rfl) rfl rfl hC fun a hs => ?_
    refine h_s hs 22 rfl (by kernel_rfl) rfl rfl rfl (.inr rfl) rfl rfl hC fun a hs => ?_
    refine h_s hs 23 rfl (by kernel_rfl) rfl rfl rfl (.inr rfl) rfl rfl hC fun a hs => ?_
    refine gs hs 24 rfl rfl rfl rfl hC fun a hs => ?_
    refine gv hs 25 rfl rfl hC (fun w hC => y_pickTE (v := .bool c4341) rfl rfl (vbs h4355)) fun a hs => ?_
    refine h_done (by kernel_rfl) ?_
    exact ⟨Sv4356, (hs.wk rfl), (hw.ft [2, 1, 3] [3, 1, 2, 4] (by decide) rfl rfl)⟩
   have h4361 := ite_f hc4341 h4354
   obtain ⟨c4377, hc4377, h4361⟩ := bind_t h4361
   rcases Bool.eq_false_or_eq_true (decide (0 < sv1878.2.2)) with h4378 | h4378
   ·have h4379 := ite_t hc4377 h4378
    obtain ⟨x4382, h4380, h4379⟩ := bind_t h4379
    obtain ⟨q4386, c4387, h4383, h4384, h4388, h4381⟩ := hw.elemRK (α := Record) 2 rfl 3 rfl h4380
    obtain ⟨_, _, _, _, _, _, _, _, _, _, _, _, rfl, rfl, rfl, rfl, rfl, rfl, rfl, rfl, rfl, rfl, rfl, rfl, ⟨p4389, n4390, k4391, rfl, h4392⟩⟩ := h4381
    obtain rfl := h4392.1
    have hw := hw.addE (e := SlA p4389 _ k4391 x4382.Samples) h4392
    obtain ⟨rv4394, h4393, h4379⟩ := bind_t h4379
    refine h_b (C := Cls [.box b4316 [.int .i64 rv4310.1.From, .int .i64 rv4310.1.To] 45, .box b4308 [.string x4293.Source.Network, .string x4293.Source.Station, .string x4293.Source.Location, .string x4293.Source.Channel, .int .i64 x4293.Start, .int .i64 x4293.First, .int .i64 x4293.Rate.Num, .int .i64 x4293.Rate.Den, .int .i64 x4293.Error, .int .i64 x4293.Run, .int .i64 x4293.Seq, .slice p4304 x4293.Samples.length k4306] 35, .row (some ⟨b4300, 0, none⟩) rv55.1.length k57 c59 35 12] []) (by kernel_rfl) rfl (hw.drew.cs [0, 1, 2] [] rfl rfl) fun hC => ?_
    have hw := hw.drew
    refine gm hs 0 rfl rfl rfl hC fun a hs => ?_
    refine gv hs 1 rfl rfl hC (fun w hC => y_neq rfl rfl) fun a hs => ?_
    refine gm hs 2 rfl rfl rfl hC fun a hs => ?_
    have hs := hs.fix 58 (.bool false) rfl (vb h4343)
    refine gt hs 3 rfl ⟨_, rfl, rfl⟩ rfl hC (fun w hC => y_move rfl) fun a hs => ?_
    refine gt hs 4 rfl ⟨_, rfl, rfl⟩ rfl hC (fun w hC => y_fieldAddr (o' := 0) Tryz.runUnderlying45 rfl Tryz.sizeOf3 rfl rfl rfl) fun a hs => ?_
    refine gt hs 5 rfl ⟨_, rfl, rfl⟩ rfl hC (fun w hC => y_loadB1 (hC.ownAt 0 rfl) rfl Tryz.isAgg3 rfl) fun a hs => ?_
    refine gt hs 6 rfl ⟨_, rfl, rfl⟩ rfl hC (fun w hC => y_fieldAddr (o' := 1) Tryz.runUnderlying45 rfl Tryz.sizeOf3 rfl rfl rfl) fun a hs => ?_
    refine gt hs 7 rfl ⟨_, rfl, rfl⟩ rfl hC (fun w hC => y_loadB1 (hC.ownAt 0 rfl) rfl Tryz.isAgg3 rfl) fun a hs => ?_
    refine ho 8 rfl ?_
    refine st_callR hs (ref08_Cut_ok h4348 hw.dom (hw.envAt 1 rfl)) (do_call Tryz.call25 rfl) ⟨_, rfl, rfl⟩ rfl rfl ?_
    intro v4398 Sv4395 w a h4396 h4397 hs
    obtain ⟨p4350, k4351, c4353, rfl, h4399, h4352⟩ := h4397
    have hw := hw.callN h4396 h4399
    have hw := hw.addE (e := RowA c4353 rv4349) h4352
    refine h_nx (hw.cs [1, 2, 3] [] rfl rfl) fun hC => ?_
    refine h_st (C' := Cls [.box b4316 [.int .i64 rv4310.1.From, .int .i64 rv4310.1.To] 45, .box b4308 [.string x4293.Source.Network, .string x4293.Source.Station, .string x4293.Source.Location, .string x4293.Source.Channel, .int .i64 x4293.Start, .int .i64 x4293.First, .int .i64 x4293.Rate.Num, .int .i64 x4293.Rate.Den, .int .i64 x4293.Error, .int .i64 x4293.Run, .int .i64 x4293.Seq, .slice p4304 x4293.Samples.length k4306] 35, .row (some ⟨b4300, 0, none⟩) rv55.1.length k57 c59 35 12, .row p4350 rv4349.length k4351 c4353 45 2] []) (fun _ h => by exact h.sub [0, 1, 2] (Sel.of rfl) (AllIn.of [] rfl)) (hw.cs [1, 2, 3, 0] [] rfl rfl) fun hC => ?_
    refine gt hs 9 rfl ⟨_, rfl, rfl⟩ rfl hC (fun w hC => y_len Tryz.runUnderlying52 rfl) fun a hs => ?_
    refine gt hs 10 rfl ⟨_, rfl, rfl⟩ rfl hC (fun w hC => y_gtr rfl rfl) fun a hs => ?_
    refine gv hs 11 rfl rfl hC (fun w hC => y_pickFE (v := .bool c4324) rfl rfl (vbs h4347)) fun a hs => ?_
    refine gm hs 12 rfl rfl rfl hC fun a hs => ?_
    have hs := hs.fix 68 (.bool false) rfl (vb h4354)
    refine gt hs 13 rfl ⟨_, rfl, rfl⟩ rfl hC (fun w hC => y_move rfl) fun a hs => ?_
    refine gt hs 14 rfl ⟨_, rfl, rfl⟩ rfl hC (fun w hC => y_gtr rfl rfl) fun a hs => ?_
    refine gt hs 15 rfl ⟨_, rfl, rfl⟩ rfl hC (fun w hC => y_move rfl) fun a hs => ?_
    have hs := hs.fix 71 (.bool true) rfl (vb h4378)
    refine gt hs 16 rfl ⟨_, rfl, rfl⟩ rfl hC (fun w hC => y_move rfl) fun a hs => ?_
    refine gt hs 17 rfl ⟨_, rfl, rfl⟩ rfl hC (fun w hC => y_move rfl) fun a hs => ?_
    refine gt hs 18 rfl ⟨_, rfl, rfl⟩ rfl hC (fun w hC => y_sub rfl rfl) fun a hs => ?_
    refine gt hs 19 rfl ⟨_, rfl, rfl⟩ rfl hC (fun w hC => y_indexAt Tryz.runUnderlying27 Tryz.sizeOf35 rfl rfl h4383.1 h4383.2 h4384) fun a hs => ?_
    refine gt hs 20 rfl ⟨_, rfl, rfl⟩ rfl hC (fun w hC => y_loadQA (j := 0) (hC.ownAt 2 rfl) rfl Tryz.isAgg35 Tryz.sizeOf35 h4388 rfl rfl) fun a hs => ?_
    refine gt hs 21 rfl ⟨_, rfl, rfl⟩ rfl hC (fun w hC => y_loadBA (hC.ownAt 1 rfl) rfl Tryz.isAgg35 Tryz.sizeOf35 rfl rfl) fun a hs => ?_
    refine ho 22 rfl ?_
    refine st_callR hs (ref14_Compare_ok h4393 hw.bdom (hw.bE 1 rfl) (hw.bE 3 rfl)) (do_call Tryz.call21 rfl) ⟨_, rfl, rfl⟩ rfl rfl ?_
    intro v4403 Sv4400 w a h4401 h4402 hs
    subst h4402
    have hw := hw.callB h4401
    refine h_nx (hw.cs [1, 2, 3, 0] [] rfl rfl) fun hC => ?_
    refine gt hs 23 rfl ⟨_, rfl, rfl⟩ rfl hC (fun w hC => y_geq rfl rfl) fun a hs => ?_
    refine gt hs 24 rfl ⟨_, rfl, rfl⟩ rfl hC (fun w hC => y_pickTE (v := .bool c4377) rfl rfl (vbs h4379)) fun a hs => ?_
    refine gv hs 25 rfl rfl hC (fun w hC => y_pickFE (v := .bool c4341) rfl rfl (vbs h4361)) fun a hs => ?_
    refine h_done (by kernel_rfl) ?_
    exact ⟨Sv4395, (hs.wk rfl), (hw.ft [2, 1, 3] [4, 2, 3, 5] (by decide) rfl rfl)⟩
   have h4405 := ite_f hc4377 h4378
   refine h_b (C := Cls [.box b4316 [.int .i64 rv4310.1.From, .int .i64 rv4310.1.To] 45, .box b4308 [.string x4293.Source.Network, .string x4293.Source.Station, .string x4293.Source.Location, .string x4293.Source.Channel, .int .i64 x4293.Start, .int .i64 x4293.First, .int .i64 x4293.Rate.Num, .int .i64 x4293.Rate.Den, .int .i64 x4293.Error, .int .i64 x4293.Run, .int .i64 x4293.Seq, .slice p4304 x4293.Samples.length k4306] 35, .row (some ⟨b4300, 0, none⟩) rv55.1.length k57 c59 35 12] []) (by kernel_rfl) rfl (hw.drew.cs [0, 1, 2] [] rfl rfl) fun hC => ?_
   have hw := hw.drew
   refine gm hs 0 rfl rfl rfl hC fun a hs => ?_
   refine gv hs 1 rfl rfl hC (fun w hC => y_neq rfl rfl) fun a hs => ?_
   refine gm hs 2 rfl rfl rfl hC fun a hs => ?_
   have hs := hs.fix 58 (.bool false) rfl (vb h4343)
   refine gt hs 3 rfl ⟨_, rfl, rfl⟩ rfl hC (fun w hC => y_move rfl) fun a hs => ?_
   refine gt hs 4 rfl ⟨_, rfl, rfl⟩ rfl hC (fun w hC => y_fieldAddr (o' := 0) Tryz.runUnderlying45 rfl Tryz.sizeOf3 rfl rfl rfl) fun a hs => ?_
   refine gt hs 5 rfl ⟨_, rfl, rfl⟩ rfl hC (fun w hC => y_loadB1 (hC.ownAt 0 rfl) rfl Tryz.isAgg3 rfl) fun a hs => ?_
   refine gt hs 6 rfl ⟨_, rfl, rfl⟩ rfl hC (fun w hC => y_fieldAddr (o' := 1) Tryz.runUnderlying45 rfl Tryz.sizeOf3 rfl rfl rfl) fun a hs => ?_
   refine gt hs 7 rfl ⟨_, rfl, rfl⟩ rfl hC (fun w hC => y_loadB1 (hC.ownAt 0 rfl) rfl Tryz.isAgg3 rfl) fun a hs => ?_
   refine ho 8 rfl ?_
   refine st_callR hs (ref08_Cut_ok h4348 hw.dom (hw.envAt 0 rfl)) (do_call Tryz.call25 rfl) ⟨_, rfl, rfl⟩ rfl rfl ?_
   intro v4409 Sv4406 w a h4407 h4408 hs
   obtain ⟨p4350, k4351, c4353, rfl, h4410, h4352⟩ := h4408
   have hw := hw.callN h4407 h4410
   have hw := hw.addE (e := RowA c4353 rv4349) h4352
   refine h_nx (hw.cs [1, 2, 3] [] rfl rfl) fun hC => ?_
   refine h_st (C' := Cls [.box b4316 [.int .i64 rv4310.1.From, .int .i64 rv4310.1.To] 45, .box b4308 [.string x4293.Source.Network, .string x4293.Source.Station, .string x4293.Source.Location, .string x4293.Source.Channel, .int .i64 x4293.Start, .int .i64 x4293.First, .int .i64 x4293.Rate.Num, .int .i64 x4293.Rate.Den, .int .i64 x4293.Error, .int .i64 x4293.Run, .int .i64 x4293.Seq, .slice p4304 x4293.Samples.length k4306] 35, .row (some ⟨b4300, 0, none⟩) rv55.1.length k57 c59 35 12, .row p4350 rv4349.length k4351 c4353 45 2] []) (fun _ h => by exact h.sub [0, 1, 2] (Sel.of rfl) (AllIn.of [] rfl)) (hw.cs [1, 2, 3, 0] [] rfl rfl) fun hC => ?_
   refine gt hs 9 rfl ⟨_, rfl, rfl⟩ rfl hC (fun w hC => y_len Tryz.runUnderlying52 rfl) fun a hs => ?_
   refine gt hs 10 rfl ⟨_, rfl, rfl⟩ rfl hC (fun w hC => y_gtr rfl rfl) fun a hs => ?_
   refine gv hs 11 rfl rfl hC (fun w hC => y_pickFE (v := .bool c4324) rfl rfl (vbs h4347)) fun a hs => ?_
   refine gm hs 12 rfl rfl rfl hC fun a hs => ?_
   have hs := hs.fix 68 (.bool false) rfl (vb h4354)
   refine gt hs 13 rfl ⟨_, rfl, rfl⟩ rfl hC (fun w hC => y_move rfl) fun a hs => ?_
   refine gt hs 14 rfl ⟨_, rfl, rfl⟩ rfl hC (fun w hC => y_gtr rfl rfl) fun a hs => ?_
   refine gt hs 15 rfl ⟨_, rfl, rfl⟩ rfl hC (fun w hC => y_move rfl) fun a hs => ?_
   have hs := hs.fix 71 (.bool false) rfl (vb h4378)
   refine gs hs 16 rfl rfl rfl rfl hC fun a hs => ?_
   refine gs hs 17 rfl rfl rfl rfl hC fun a hs => ?_
   refine gs hs 18 rfl rfl rfl rfl hC fun a hs => ?_
   refine gs hs 19 rfl rfl rfl rfl hC fun a hs => ?_
   refine gs hs 20 rfl rfl rfl rfl hC fun a hs => ?_
   refine gs hs 21 rfl rfl rfl rfl hC fun a hs => ?_
   refine gs hs 22 rfl rfl rfl rfl hC fun a hs => ?_
   refine gs hs 23 rfl rfl rfl rfl hC fun a hs => ?_
   refine gt hs 24 rfl ⟨_, rfl, rfl⟩ rfl hC (fun w hC => y_pickFE (v := .bool c4377) rfl rfl (vbs h4405)) fun a hs => ?_
   refine gv hs 25 rfl rfl hC (fun w hC => y_pickFE (v := .bool c4341) rfl rfl (vbs h4361)) fun a hs => ?_
   refine h_done (by kernel_rfl) ?_
   exact ⟨Sv4406, (hs.wk rfl), (hw.ft [2, 1, 3] [3, 1, 2, 4] (by decide) rfl rfl)⟩
  rintro a w ⟨Sv4342, hs, hw⟩
  refine then_normal ?_
  refine wp_cond_split (hs.ev rfl) (fun h4412 => ?_) (fun h4412 => ?_)
  ·have hsh := ite_t hsh h4412
   refine sr ?_
   refine av hs rfl rfl fun a hs => ?_
   refine nl ?_
   have hsh := oi hsh
   subst hsh
   have h4413 := hd3686 _ rfl
   subst h4413
   refine wp_ret ?_
   refine then_ret ?_
   refine blk_ret ?_
   refine then_ret ?_
   refine then_ret ?_
   refine blk_ret ?_
   refine then_ret ?_
   exact ret1 hs rfl (rv_tmp rfl) (hw.ret rfl)
  have hsh := ite_f hsh h4412
  refine wp_skip ?_
  refine then_normal ?_
  refine wp_seq ?_
  obtain ⟨rv4417, h4416, hsh⟩ := bind_t hsh
  obtain ⟨length4423, h4422, hsh⟩ := bind_t hsh
  refine wp_only (fun a w => ∃ (Sv4424 : Nat → Prop) (c4421 : List Value) (k4419 : Nat) (p4418 : Option Addr), Sl 191 [(1, .int .u16 n5), (6, .slice p42 rv41.1.length k43), (7, .slice (some ⟨b4300, 0, none⟩) rv55.1.length k57), (9, .slice p4418 rv4417.length k4419), (10, .int .i64 length4423), (12, .pointer (some ⟨b4308, 0, none⟩)), (13, .pointer (some ⟨b4316, 0, none⟩)), (44, .slice (some ⟨b4300, 0, none⟩) rv55.1.length k57), (45, .int .i64 (rv55.1.length : Int)), (46, .int .i64 sv1878.2.2)] a ∧ Wd ⟨w0, S0, []⟩ Sv4424 [.box b4308 [.string x4293.Source.Network, .string x4293.Source.Station, .string x4293.Source.Location, .string x4293.Source.Channel, .int .i64 x4293.Start, .int .i64 x4293.First, .int .i64 x4293.Rate.Num, .int .i64 x4293.Rate.Den, .int .i64 x4293.Error, .int .i64 x4293.Run, .int .i64 x4293.Seq, .slice p4304 x4293.Samples.length k4306] 35, .box b4316 [.int .i64 rv4310.1.From, .int .i64 rv4310.1.To] 45, .row (some ⟨b4300, 0, none⟩) rv55.1.length k57 c59 35 12, .row p4418 rv4417.length k4419 c4421 45 2] [SlA p42 rv41.1.length k43 rv41.1, SlA p4304 x4293.Samples.length k4306 x4293.Samples, RowA c59 rv55.1, RowA c4421 rv4417] w) ?_ ?_
  ·refine h_b (C := Cls [.box b4308 [.string x4293.Source.Network, .string x4293.Source.Station, .string x4293.Source.Location, .string x4293.Source.Channel, .int .i64 x4293.Start, .int .i64 x4293.First, .int .i64 x4293.Rate.Num, .int .i64 x4293.Rate.Den, .int .i64 x4293.Error, .int .i64 x4293.Run, .int .i64 x4293.Seq, .slice p4304 x4293.Samples.length k4306] 35, .box b4316 [.int .i64 rv4310.1.From, .int .i64 rv4310.1.To] 45, .row (some ⟨b4300, 0, none⟩) rv55.1.length k57 c59 35 12] []) (by kernel_rfl) rfl (hw.drew.cs [0, 1, 2] [] rfl rfl) fun hC => ?_
   have hw := hw.drew
   refine gm hs 0 rfl rfl rfl hC fun a hs => ?_
   refine gv hs 1 rfl rfl hC (fun w hC => y_loadBA (hC.ownAt 1 rfl) rfl Tryz.isAgg45 Tryz.sizeOf45 rfl rfl) fun a hs => ?_
   refine gm hs 4 rfl rfl rfl hC fun a hs => ?_
   refine gv hs 5 rfl rfl hC (fun w hC => y_fieldAddr (o' := 1) Tryz.runUnderlying45 rfl Tryz.sizeOf3 rfl rfl rfl) fun a hs => ?_
   refine gv hs 6 rfl rfl hC (fun w hC => y_loadB1 (hC.ownAt 1 rfl) rfl Tryz.isAgg3 rfl) fun a hs => ?_
   refine gv hs 7 rfl rfl hC (fun w hC => y_add rfl rfl) fun a hs => ?_
   refine gv hs 8 rfl rfl hC (fun w hC => y_fieldAddr (o' := 0) Tryz.runUnderlying45 rfl Tryz.sizeOf3 rfl rfl rfl) fun a hs => ?_
   refine gv hs 9 rfl rfl hC (fun w hC => y_loadB1 (hC.ownAt 1 rfl) rfl Tryz.isAgg3 rfl) fun a hs => ?_
   refine gv hs 10 rfl rfl hC (fun w hC => y_sub rfl rfl) fun a hs => ?_
   refine ho 2 rfl ?_
   refine w_litSlice (α := Span) (vs := [.agg #[.int .i64 rv4310.1.From, .int .i64 rv4310.1.To]]) (cs := [.int .i64 rv4310.1.From, .int .i64 rv4310.1.To]) (xs := ([rv4310.1] : List Span)) hs hw El52 rfl rfl rfl rfl rfl rfl ⟨⟨_, _, rfl, rfl, rfl⟩, rfl⟩ rfl trivial rfl fun b4415 a w hs hw => ?_
   refine h_nx (hw.cs [1, 2, 3] [] rfl rfl) fun hC => ?_
   refine ho 3 rfl ?_
   obtain ⟨Sv4425, hw⟩ := w_share (α := Span) hw 0 rfl 0 rfl
   refine st_callR hs (ref08_Union_ok h4416 hw.dom (hw.envAt 3 rfl) (hw.envAt 0 rfl)) (do_call Tryz.call27 rfl) trivial rfl rfl ?_
   intro v4429 Sv4426 w a h4427 h4428 hs
   obtain ⟨p4418, k4419, c4421, rfl, h4430, h4420⟩ := h4428
   have hw := hw.callN h4427 h4430
   have hw := hw.addE (e := RowA c4421 rv4417) h4420
   refine h_nx (hw.cs [1, 2, 3] [] rfl rfl) fun hC => ?_
   refine h_st (C' := Cls [.box b4308 [.string x4293.Source.Network, .string x4293.Source.Station, .string x4293.Source.Location, .string x4293.Source.Channel, .int .i64 x4293.Start, .int .i64 x4293.First, .int .i64 x4293.Rate.Num, .int .i64 x4293.Rate.Den, .int .i64 x4293.Error, .int .i64 x4293.Run, .int .i64 x4293.Seq, .slice p4304 x4293.Samples.length k4306] 35, .box b4316 [.int .i64 rv4310.1.From, .int .i64 rv4310.1.To] 45, .row (some ⟨b4300, 0, none⟩) rv55.1.length k57 c59 35 12, .row p4418 rv4417.length k4419 c4421 45 2] []) (fun _ h => by exact h.sub [0, 1, 2] (Sel.of rfl) (AllIn.of [] rfl)) (hw.cs [1, 2, 3, 0] [] rfl rfl) fun hC => ?_
   refine gv hs 11 rfl rfl hC (fun w hC => y_assign rfl) fun a hs => ?_
   refine gv hs 12 rfl rfl hC (fun w hC => y_assignI rfl h4422) fun a hs => ?_
   refine h_done (by kernel_rfl) ?_
   exact ⟨Sv4426, c4421, k4419, p4418, (hs.wk rfl), (hw.ft [1, 2, 3, 0] [3, 5, 6, 0] (by decide) rfl rfl)⟩
  rintro a w ⟨Sv4424, c4421, k4419, p4418, hs, hw⟩
  refine then_normal ?_
  refine sr ?_
  refine av hs rfl rfl fun a hs => ?_
  refine nl ?_
  refine wp_seq ?_
  refine sr ?_
  refine mv hs rfl rfl fun a hs => ?_
  refine sv hs (y_len Tryz.runUnderlying27 rfl) rfl fun a hs => ?_
  refine mv hs rfl rfl fun a hs => ?_
  refine nl ?_
  obtain ⟨e4963, h5514, hsh⟩ := bind_t hsh
  refine wp_join (fun a w => ∃ (Sv4964 : Nat → Prop), Sl 191 [(1, .int .u16 n5), (6, .slice p42 rv41.1.length k43), (7, .slice (some ⟨b4300, 0, none⟩) rv55.1.length k57), (9, .slice p4418 rv4417.length k4419), (10, .int .i64 length4423), (15, .bool e4963), (44, .slice (some ⟨b4300, 0, none⟩) rv55.1.length k57), (45, .int .i64 (rv55.1.length : Int)), (46, .int .i64 sv1878.2.2)] a ∧ Wd ⟨w0, S0, []⟩ Sv4964 [.row (some ⟨b4300, 0, none⟩) rv55.1.length k57 c59 35 12, .row p4418 rv4417.length k4419 c4421 45 2] [SlA p42 rv41.1.length k43 rv41.1, RowA c59 rv55.1, RowA c4421 rv4417] w) ?_ ?_
  ·refine wp_block ?_
   refine wp_while (fun sv4431 a w => ∃ (Sv4783 : Nat → Prop), Sl 191 [(1, .int .u16 n5), (6, .slice p42 rv41.1.length k43), (7, .slice (some ⟨b4300, 0, none⟩) rv55.1.length k57), (9, .slice p4418 rv4417.length k4419), (10, .int .i64 length4423), (12, .pointer (some ⟨b4308, 0, none⟩)), (13, .pointer (some ⟨b4316, 0, none⟩)), (15, .bool sv4431.1), (44, .slice (some ⟨b4300, 0, none⟩) rv55.1.length k57), (45, .int .i64 (rv55.1.length : Int)), (46, .int .i64 sv1878.2.2), (93, .slice p42 rv41.1.length k43), (94, .int .i64 (rv41.1.length : Int)), (95, .int .i64 sv4431.2)] a ∧ Wd ⟨w0, S0, []⟩ Sv4783 [.box b4308 [.string x4293.Source.Network, .string x4293.Source.Station, .string x4293.Source.Location, .string x4293.Source.Channel, .int .i64 x4293.Start, .int .i64 x4293.First, .int .i64 x4293.Rate.Num, .int .i64 x4293.Rate.Den, .int .i64 x4293.Error, .int .i64 x4293.Run, .int .i64 x4293.Seq, .slice p4304 x4293.Samples.length k4306] 35, .box b4316 [.int .i64 rv4310.1.From, .int .i64 rv4310.1.To] 45, .row (some ⟨b4300, 0, none⟩) rv55.1.length k57 c59 35 12, .row p4418 rv4417.length k4419 c4421 45 2] [SlA p42 rv41.1.length k43 rv41.1, SlA p4304 x4293.Samples.length k4306 x4293.Samples, RowA c59 rv55.1, RowA c4421 rv4417] w) (false, 0) h5514 ⟨Sv4424, (hs.wk rfl), (hw.ft [0, 1, 2, 3] [0, 1, 2, 3] (by decide) rfl rfl)⟩ ?_
   clear h5514
   repeat clear hsh
   rintro sv4431 a w tv4961 ⟨Sv4783, hs, hw⟩ hsh hd4960
   delta law15_ComposeOnce_l33 at hsh
   refine sr ?_
   refine sv hs (y_lss rfl rfl) rfl fun a hs => ?_
   refine nl ?_
   refine wp_seq ?_
   refine wp_cond_split (hs.ev rfl) (fun h4966 => ?_) (fun h4966 => ?_)
   ·have hsh := ite_t hsh h4966
    refine wp_skip ?_
    refine then_normal ?_
    refine wp_seq ?_
    refine wp_join (fun a w => ∃ (found5141 : Bool) (Sv5140 : Nat → Prop), law15_ComposeOnce_j1 sv4431 found5141 = some tv4961 ∧ Sl 191 [(1, .int .u16 n5), (6, .slice p42 rv41.1.length k43), (7, .slice (some ⟨b4300, 0, none⟩) rv55.1.length k57), (9, .slice p4418 rv4417.length k4419), (10, .int .i64 length4423), (12, .pointer (some ⟨b4308, 0, none⟩)), (13, .pointer (some ⟨b4316, 0, none⟩)), (15, .bool found5141), (44, .slice (some ⟨b4300, 0, none⟩) rv55.1.length k57), (45, .int .i64 (rv55.1.length : Int)), (46, .int .i64 sv1878.2.2), (93, .slice p42 rv41.1.length k43), (94, .int .i64 (rv41.1.length : Int)), (95, .int .i64 sv4431.2)] a ∧ Wd ⟨w0, S0, []⟩ Sv5140 [.box b4308 [.string x4293.Source.Network, .string x4293.Source.Station, .string x4293.Source.Location, .string x4293.Source.Channel, .int .i64 x4293.Start, .int .i64 x4293.First, .int .i64 x4293.Rate.Num, .int .i64 x4293.Rate.Den, .int .i64 x4293.Error, .int .i64 x4293.Run, .int .i64 x4293.Seq, .slice p4304 x4293.Samples.length k4306] 35, .box b4316 [.int .i64 rv4310.1.From, .int .i64 rv4310.1.To] 45, .row (some ⟨b4300, 0, none⟩) rv55.1.length k57 c59 35 12, .row p4418 rv4417.length k4419 c4421 45 2] [SlA p42 rv41.1.length k43 rv41.1, SlA p4304 x4293.Samples.length k4306 x4293.Samples, RowA c59 rv55.1, RowA c4421 rv4417] w) ?_ ?_
    ·refine wp_block ?_
     refine sr ?_
     obtain ⟨x5144, h5142, hsh⟩ := bind_t hsh
     obtain ⟨b5150, o5151, q5148, c5149, h5152, h5145, h5146, h5147, h5143⟩ := hw.elemV 0 rfl h5142
     have hsv5153 := hs
     have hwv5154 := hw
     subst h5152
     have hs := hsv5153
     have hw := hwv5154
     obtain ⟨_, _, _, _, _, _, _, _, _, _, _, _, rfl, rfl, rfl, rfl, rfl, rfl, rfl, rfl, rfl, rfl, rfl, rfl, ⟨p5155, n5156, k5157, rfl, h5158⟩⟩ := h5143
     obtain rfl := h5158.1
     have hw := hw.addE (e := SlA p5155 _ k5157 x5144.Samples) h5158
     have hw := hw.addE h5147
     refine sv hs (y_indexAt Tryz.runUnderlying27 Tryz.sizeOf35 rfl rfl h5145.1 h5145.2 h5146) rfl fun a hs => ?_
     refine sv hs (y_loadEA (j := 0) (hw.ceAt 0 rfl) rfl Tryz.isAgg35 Tryz.sizeOf35 rfl rfl) rfl fun a hs => ?_
     refine w_alloc (cs := [.string ByteArray.empty, .string ByteArray.empty, .string ByteArray.empty, .string ByteArray.empty, .int .i64 0, .int .i64 0, .int .i64 0, .int .i64 0, .int .i64 0, .int .i64 0, .int .i64 0, .slice none ([] : List Int).length 0]) hs hw Tryz.zeroValue35 rfl rfl trivial ?_
     intro b5159 a w hs hw
     refine w_store (m := 12) (cs' := [.string x5144.Source.Network, .string x5144.Source.Station, .string x5144.Source.Location, .string x5144.Source.Channel, .int .i64 x5144.Start, .int .i64 x5144.First, .int .i64 x5144.Rate.Num, .int .i64 x5144.Rate.Den, .int .i64 x5144.Error, .int .i64 x5144.Run, .int .i64 x5144.Seq, .slice p5155 x5144.Samples.length k5157]) hs hw 0 rfl rfl rfl Tryz.sizeOf35 rfl rfl rfl rfl trivial ?_
     intro a w hs hw
     refine nl ?_
     refine sr ?_
     refine sv hs (y_fieldAddr (o' := 5) Tryz.runUnderlying35 rfl Tryz.sizeOf3 rfl rfl rfl) rfl fun a hs => ?_
     refine sv hs (y_loadB1 (hw.ownAt 1 rfl) rfl Tryz.isAgg3 rfl) rfl fun a hs => ?_
     refine sv hs (y_fieldAddr (o' := 5) Tryz.runUnderlying35 rfl Tryz.sizeOf3 rfl rfl rfl) rfl fun a hs => ?_
     refine sv hs (y_loadB1 (hw.ownAt 0 rfl) rfl Tryz.isAgg3 rfl) rfl fun a hs => ?_
     refine sv hs (y_sub rfl rfl) rfl fun a hs => ?_
     obtain ⟨k5161, h5160, hsh⟩ := bind_t hsh
     refine sv hs (y_assignI rfl h5160) rfl fun a hs => ?_
     refine nl ?_
     refine wp_seq ?_
     refine sr ?_
     refine mv hs rfl rfl fun a hs => ?_
     refine sv hs (y_lss rfl rfl) rfl fun a hs => ?_
     refine mv hs rfl rfl fun a hs => ?_
     refine wpl_join 10 (fun a w1 => w = w1 ∧ Sl 191 [(1, .int .u16 n5), (6, .slice (some ⟨b5150, o5151, none⟩) rv41.1.length k43), (7, .slice (some ⟨b4300, 0, none⟩) rv55.1.length k57), (9, .slice p4418 rv4417.length k4419), (10, .int .i64 length4423), (12, .pointer (some ⟨b4308, 0, none⟩)), (13, .pointer (some ⟨b4316, 0, none⟩)), (15, .bool sv4431.1), (17, .pointer (some ⟨b5159, 0, none⟩)), (18, .int .i64 k5161), (44, .slice (some ⟨b4300, 0, none⟩) rv55.1.length k57), (45, .int .i64 (rv55.1.length : Int)), (46, .int .i64 sv1878.2.2), (93, .slice (some ⟨b5150, o5151, none⟩) rv41.1.length k43), (94, .int .i64 (rv41.1.length : Int)), (95, .int .i64 sv4431.2), (116, .bool ((decide (k5161 < 0)) || (decide ((x5144.Samples.length : Int) < (w64 (k5161 + (x4293.Samples.length : Int)))))))] a) ?_ ?_
     ·rcases Bool.eq_false_or_eq_true (decide (k5161 < 0)) with h5162 | h5162
      ·have hs := hs.fix 106 (.bool true) rfl (vb h5162)
       refine st_skip hs rfl rfl rfl rfl rfl fun a hs => ?_
       refine st_skip hs rfl rfl rfl rfl rfl fun a hs => ?_
       refine st_skip hs rfl rfl rfl rfl rfl fun a hs => ?_
       refine st_skip hs rfl rfl rfl rfl rfl fun a hs => ?_
       refine st_skip hs rfl rfl rfl rfl rfl fun a hs => ?_
       refine st_skip hs rfl rfl rfl rfl rfl fun a hs => ?_
       refine st_skip hs rfl rfl rfl rfl rfl fun a hs => ?_
       refine st_skip hs rfl rfl rfl rfl rfl fun a hs => ?_
       refine st_skip hs rfl rfl rfl rfl rfl fun a hs => ?_
       refine sv hs (y_pickT rfl rfl) rfl fun a hs => ?_
       refine nl ?_
       exact ⟨rfl, (hs.fix 116 (.bool ((decide (k5161 < 0)) || (decide ((x5144.Samples.length : Int) < (w64 (k5161 + (x4293.Samples.length : Int))))))) rfl (or_t h5162)).weaken _ ⟨rfl, rfl, rfl, rfl, rfl, rfl, rfl, rfl, rfl, rfl, rfl, rfl, rfl, rfl, rfl, rfl, rfl, trivial⟩⟩
      have hs := hs.fix 106 (.bool false) rfl (vb h5162)
      refine st_val hs (y_move rfl) ⟨_, rfl, rfl⟩ rfl rfl fun a hs => ?_
      refine st_val hs (y_fieldAddr (o' := 11) Tryz.runUnderlying35 rfl Tryz.sizeOf22 rfl rfl rfl) ⟨_, rfl, rfl⟩ rfl rfl fun a hs => ?_
      refine st_val hs (y_loadB1 (hw.ownAt 1 rfl) rfl Tryz.isAgg22 rfl) ⟨_, rfl, rfl⟩ rfl rfl fun a hs => ?_
      refine st_val hs (y_len Tryz.runUnderlying22 rfl) ⟨_, rfl, rfl⟩ rfl rfl fun a hs => ?_
      refine st_val hs (y_add rfl rfl) ⟨_, rfl, rfl⟩ rfl rfl fun a hs => ?_
      refine st_val hs (y_fieldAddr (o' := 11) Tryz.runUnderlying35 rfl Tryz.sizeOf22 rfl rfl rfl) ⟨_, rfl, rfl⟩ rfl rfl fun a hs => ?_
      refine st_val hs (y_loadB1 (hw.ownAt 0 rfl) rfl Tryz.isAgg22 rfl) ⟨_, rfl, rfl⟩ rfl rfl fun a hs => ?_
      refine st_val hs (y_len Tryz.runUnderlying22 rfl) ⟨_, rfl, rfl⟩ rfl rfl fun a hs => ?_
      refine st_val hs (y_gtr rfl rfl) ⟨_, rfl, rfl⟩ rfl rfl fun a hs => ?_
      refine sv hs (y_pickF rfl rfl) rfl fun a hs => ?_
      refine nl ?_
      exact ⟨rfl, (hs.fix 116 (.bool ((decide (k5161 < 0)) || (decide ((x5144.Samples.length : Int) < (w64 (k5161 + (x4293.Samples.length : Int))))))) rfl (or_f h5162)).weaken _ ⟨rfl, rfl, rfl, rfl, rfl, rfl, rfl, rfl, rfl, rfl, rfl, rfl, rfl, rfl, rfl, rfl, rfl, trivial⟩⟩
     rintro a w1 ⟨h5509, hs⟩
     subst h5509
     refine nl ?_
     refine wp_cond_split (hs.ev rfl) (fun h5164 => ?_) (fun h5164 => ?_)
     ·have hsh := ite_t hsh h5164
      refine wp_exit ?_
      refine then_exit ?_
      refine blk_exit ?_
      refine then_normal ?_
      exact ⟨sv4431.1, Sv4783, hsh, (hs.wk rfl), (hw.ft [1, 2, 3, 4] [2, 3, 4, 5] (by decide) rfl rfl)⟩
     have hsh := ite_f hsh h5164
     refine wp_skip ?_
     refine then_normal ?_
     refine sr ?_
     refine sv hs (y_loadBA (hw.ownAt 0 rfl) rfl Tryz.isAgg35 Tryz.sizeOf35 rfl rfl) rfl fun a hs => ?_
     refine mv hs rfl rfl fun a hs => ?_
     refine mv hs rfl rfl fun a hs => ?_
     refine sv hs (y_fieldAddr (o' := 11) Tryz.runUnderlying35 rfl Tryz.sizeOf22 rfl rfl rfl) rfl fun a hs => ?_
     refine sv hs (y_loadB1 (hw.ownAt 1 rfl) rfl Tryz.isAgg22 rfl) rfl fun a hs => ?_
     refine sv hs (y_len Tryz.runUnderlying22 rfl) rfl fun a hs => ?_
     refine sv hs (y_add rfl rfl) rfl fun a hs => ?_
     obtain ⟨rv5166, h5165, hsh⟩ := bind_t hsh
     refine st_callR hs (ref14_Sub_ok h5165 hw.dom (hw.envAt 1 rfl)) (do_call Tryz.call28 rfl) trivial rfl rfl ?_
     intro v5174 Sv5171 w a h5172 h5173 hs
     obtain ⟨p5167, k5168, c5170, rfl, h5175, h5169⟩ := h5173
     have hw := hw.callN h5172 h5175
     have hw := hw.addE (e := RowA c5170 rv5166.1.Samples) h5169
     refine mv hs rfl rfl fun a hs => ?_
     refine sv hs (y_extract rfl rfl) rfl fun a hs => ?_
     refine sv hs (y_extract rfl rfl) rfl fun a hs => ?_
     refine w_alloc (cs := [.string ByteArray.empty, .string ByteArray.empty, .string ByteArray.empty, .string ByteArray.empty, .int .i64 0, .int .i64 0, .int .i64 0, .int .i64 0, .int .i64 0, .int .i64 0, .int .i64 0, .slice none ([] : List Int).length 0]) hs hw Tryz.zeroValue35 rfl rfl trivial ?_
     intro b5176 a w hs hw
     refine w_store (m := 12) (cs' := [.string rv5166.1.Source.Network, .string rv5166.1.Source.Station, .string rv5166.1.Source.Location, .string rv5166.1.Source.Channel, .int .i64 rv5166.1.Start, .int .i64 rv5166.1.First, .int .i64 rv5166.1.Rate.Num, .int .i64 rv5166.1.Rate.Den, .int .i64 rv5166.1.Error, .int .i64 rv5166.1.Run, .int .i64 rv5166.1.Seq, .slice p5167 rv5166.1.Samples.length k5168]) hs hw 0 rfl rfl rfl Tryz.sizeOf35 rfl rfl rfl rfl trivial ?_
     intro a w hs hw
     refine av hs rfl rfl fun a hs => ?_
     refine nl ?_
     refine sr ?_
     refine mv hs rfl rfl fun a hs => ?_
     refine sv hs (y_eql rfl rfl) rfl fun a hs => ?_
     refine mv hs rfl rfl fun a hs => ?_
     obtain ⟨c5185, hc5185, hsh⟩ := bind_t hsh
     refine wpl_join 4 (fun a w => ∃ (Sv5186 : Nat → Prop), Sl 191 [(1, .int .u16 n5), (6, .slice (some ⟨b5150, o5151, none⟩) rv41.1.length k43), (7, .slice (some ⟨b4300, 0, none⟩) rv55.1.length k57), (9, .slice p4418 rv4417.length k4419), (10, .int .i64 length4423), (12, .pointer (some ⟨b4308, 0, none⟩)), (13, .pointer (some ⟨b4316, 0, none⟩)), (15, .bool sv4431.1), (17, .pointer (some ⟨b5159, 0, none⟩)), (44, .slice (some ⟨b4300, 0, none⟩) rv55.1.length k57), (45, .int .i64 (rv55.1.length : Int)), (46, .int .i64 sv1878.2.2), (93, .slice (some ⟨b5150, o5151, none⟩) rv41.1.length k43), (94, .int .i64 (rv41.1.length : Int)), (95, .int .i64 sv4431.2), (134, .bool c5185)] a ∧ Wd ⟨w0, S0, []⟩ Sv5186 [.box b4308 [.string x4293.Source.Network, .string x4293.Source.Station, .string x4293.Source.Location, .string x4293.Source.Channel, .int .i64 x4293.Start, .int .i64 x4293.First, .int .i64 x4293.Rate.Num, .int .i64 x4293.Rate.Den, .int .i64 x4293.Error, .int .i64 x4293.Run, .int .i64 x4293.Seq, .slice p4304 x4293.Samples.length k4306] 35, .box b4316 [.int .i64 rv4310.1.From, .int .i64 rv4310.1.To] 45, .box b5159 [.string x5144.Source.Network, .string x5144.Source.Station, .string x5144.Source.Location, .string x5144.Source.Channel, .int .i64 x5144.Start, .int .i64 x5144.First, .int .i64 x5144.Rate.Num, .int .i64 x5144.Rate.Den, .int .i64 x5144.Error, .int .i64 x5144.Run, .int .i64 x5144.Seq, .slice p5155 x5144.Samples.length k5157] 35, .row (some ⟨b4300, 0, none⟩) rv55.1.length k57 c59 35 12, .row p4418 rv4417.length k4419 c4421 45 2] [SlA (some ⟨b5150, o5151, none⟩) rv41.1.length k43 rv41.1, SlA p4304 x4293.Samples.length k4306 x4293.Samples, SlA p5155 x5144.Samples.length k5157 x5144.Samples, RowA c59 rv55.1, RowA c4421 rv4417] w) ?_ ?_
     ·rcases Bool.eq_false_or_eq_true (rv5166.2 == 0) with h5184 | h5184
      ·have hs := hs.fix 130 (.bool true) rfl (vb h5184)
       have hsh := ite_t hc5185 h5184
       refine st_val hs (y_loadBA (hw.ownAt 0 rfl) rfl Tryz.isAgg35 Tryz.sizeOf35 rfl rfl) ⟨_, rfl, rfl⟩ rfl rfl fun a hs => ?_
       refine st_val hs (y_loadBA (hw.ownAt 3 rfl) rfl Tryz.isAgg35 Tryz.sizeOf35 rfl rfl) ⟨_, rfl, rfl⟩ rfl rfl fun a hs => ?_
       obtain ⟨rv5188, h5187, hsh⟩ := bind_t hsh
       refine st_callR hs (ref14_Same_ok h5187 hw.bdom (hw.bRow 1 rfl 0 rfl) (hw.bE 4 rfl)) (do_call Tryz.call20 rfl) ⟨_, rfl, rfl⟩ rfl rfl ?_
       intro v5192 Sv5189 w a h5190 h5191 hs
       subst h5191
       have hw := hw.callB h5190
       refine sv hs (y_pickT rfl rfl) rfl fun a hs => ?_
       refine wpList_nil ?_
       have hsh := oi hsh
       subst hsh
       refine then_normal ?_
       exact ⟨Sv5171, (hs.wk rfl), (hw.ft [3, 4, 2, 5, 6] [3, 4, 2, 5, 6] (by decide) rfl rfl)⟩
      have hs := hs.fix 130 (.bool false) rfl (vb h5184)
      have hsh := ite_f hc5185 h5184
      refine st_skip hs rfl rfl rfl rfl rfl fun a hs => ?_
      refine st_skip hs rfl rfl rfl rfl rfl fun a hs => ?_
      refine st_skip hs rfl rfl rfl rfl rfl fun a hs => ?_
      refine sv hs (y_pickF rfl rfl) rfl fun a hs => ?_
      refine wpList_nil ?_
      have hsh := oi hsh
      subst hsh
      refine then_normal ?_
      exact ⟨Sv5171, (hs.wk rfl), (hw.ft [3, 4, 2, 5, 6] [3, 4, 2, 5, 6] (by decide) rfl rfl)⟩
     rintro a w ⟨Sv5186, hs, hw⟩
     refine nl ?_
     refine wp_join (fun a w => ∃ (found5314 : Bool) (Sv5313 : Nat → Prop), law15_ComposeOnce_j2 sv4431 found5314 = some tv4961 ∧ Sl 191 [(1, .int .u16 n5), (6, .slice (some ⟨b5150, o5151, none⟩) rv41.1.length k43), (7, .slice (some ⟨b4300, 0, none⟩) rv55.1.length k57), (9, .slice p4418 rv4417.length k4419), (10, .int .i64 length4423), (12, .pointer (some ⟨b4308, 0, none⟩)), (13, .pointer (some ⟨b4316, 0, none⟩)), (15, .bool found5314), (44, .slice (some ⟨b4300, 0, none⟩) rv55.1.length k57), (45, .int .i64 (rv55.1.length : Int)), (46, .int .i64 sv1878.2.2), (93, .slice (some ⟨b5150, o5151, none⟩) rv41.1.length k43), (94, .int .i64 (rv41.1.length : Int)), (95, .int .i64 sv4431.2)] a ∧ Wd ⟨w0, S0, []⟩ Sv5313 [.box b4308 [.string x4293.Source.Network, .string x4293.Source.Station, .string x4293.Source.Location, .string x4293.Source.Channel, .int .i64 x4293.Start, .int .i64 x4293.First, .int .i64 x4293.Rate.Num, .int .i64 x4293.Rate.Den, .int .i64 x4293.Error, .int .i64 x4293.Run, .int .i64 x4293.Seq, .slice p4304 x4293.Samples.length k4306] 35, .box b4316 [.int .i64 rv4310.1.From, .int .i64 rv4310.1.To] 45, .row (some ⟨b4300, 0, none⟩) rv55.1.length k57 c59 35 12, .row p4418 rv4417.length k4419 c4421 45 2] [SlA (some ⟨b5150, o5151, none⟩) rv41.1.length k43 rv41.1, SlA p4304 x4293.Samples.length k4306 x4293.Samples, RowA c59 rv55.1, RowA c4421 rv4417] w) ?_ ?_
     ·refine wp_cond_split (hs.ev rfl) (fun h5315 => ?_) (fun h5315 => ?_)
      ·have hsh := ite_t hsh h5315
       refine sr ?_
       refine av hs rfl rfl fun a hs => ?_
       refine nl ?_
       refine wp_seq ?_
       refine sr ?_
       refine mv hs rfl rfl fun a hs => ?_
       refine sv hs (y_len Tryz.runUnderlying27 rfl) rfl fun a hs => ?_
       refine mv hs rfl rfl fun a hs => ?_
       refine nl ?_
       obtain ⟨e5430, h5508, hsh⟩ := bind_t hsh
       refine wp_join (fun a w => ∃ (Sv5431 : Nat → Prop), Sl 191 [(1, .int .u16 n5), (6, .slice (some ⟨b5150, o5151, none⟩) rv41.1.length k43), (7, .slice (some ⟨b4300, 0, none⟩) rv55.1.length k57), (9, .slice p4418 rv4417.length k4419), (10, .int .i64 length4423), (12, .pointer (some ⟨b4308, 0, none⟩)), (13, .pointer (some ⟨b4316, 0, none⟩)), (15, .bool sv4431.1), (21, .bool e5430), (44, .slice (some ⟨b4300, 0, none⟩) rv55.1.length k57), (45, .int .i64 (rv55.1.length : Int)), (46, .int .i64 sv1878.2.2), (93, .slice (some ⟨b5150, o5151, none⟩) rv41.1.length k43), (94, .int .i64 (rv41.1.length : Int)), (95, .int .i64 sv4431.2)] a ∧ Wd ⟨w0, S0, []⟩ Sv5431 [.box b4308 [.string x4293.Source.Network, .string x4293.Source.Station, .string x4293.Source.Location, .string x4293.Source.Channel, .int .i64 x4293.Start, .int .i64 x4293.First, .int .i64 x4293.Rate.Num, .int .i64 x4293.Rate.Den, .int .i64 x4293.Error, .int .i64 x4293.Run, .int .i64 x4293.Seq, .slice p4304 x4293.Samples.length k4306] 35, .box b4316 [.int .i64 rv4310.1.From, .int .i64 rv4310.1.To] 45, .row (some ⟨b4300, 0, none⟩) rv55.1.length k57 c59 35 12, .row p4418 rv4417.length k4419 c4421 45 2] [SlA (some ⟨b5150, o5151, none⟩) rv41.1.length k43 rv41.1, SlA p4304 x4293.Samples.length k4306 x4293.Samples, RowA c59 rv55.1, RowA c4421 rv4417] w) ?_ ?_
       ·refine wp_block ?_
        refine wp_while (fun sv5316 a w => ∃ (Sv5390 : Nat → Prop), Sl 191 [(1, .int .u16 n5), (6, .slice (some ⟨b5150, o5151, none⟩) rv41.1.length k43), (7, .slice (some ⟨b4300, 0, none⟩) rv55.1.length k57), (9, .slice p4418 rv4417.length k4419), (10, .int .i64 length4423), (12, .pointer (some ⟨b4308, 0, none⟩)), (13, .pointer (some ⟨b4316, 0, none⟩)), (15, .bool sv4431.1), (17, .pointer (some ⟨b5159, 0, none⟩)), (21, .bool sv5316.1), (44, .slice (some ⟨b4300, 0, none⟩) rv55.1.length k57), (45, .int .i64 (rv55.1.length : Int)), (46, .int .i64 sv1878.2.2), (93, .slice (some ⟨b5150, o5151, none⟩) rv41.1.length k43), (94, .int .i64 (rv41.1.length : Int)), (95, .int .i64 sv4431.2), (135, .slice (some ⟨b5150, o5151, none⟩) rv41.1.length k43), (136, .int .i64 (rv41.1.length : Int)), (137, .int .i64 sv5316.2)] a ∧ Wd ⟨w0, S0, []⟩ Sv5390 [.box b4308 [.string x4293.Source.Network, .string x4293.Source.Station, .string x4293.Source.Location, .string x4293.Source.Channel, .int .i64 x4293.Start, .int .i64 x4293.First, .int .i64 x4293.Rate.Num, .int .i64 x4293.Rate.Den, .int .i64 x4293.Error, .int .i64 x4293.Run, .int .i64 x4293.Seq, .slice p4304 x4293.Samples.length k4306] 35, .box b4316 [.int .i64 rv4310.1.From, .int .i64 rv4310.1.To] 45, .box b5159 [.string x5144.Source.Network, .string x5144.Source.Station, .string x5144.Source.Location, .string x5144.Source.Channel, .int .i64 x5144.Start, .int .i64 x5144.First, .int .i64 x5144.Rate.Num, .int .i64 x5144.Rate.Den, .int .i64 x5144.Error, .int .i64 x5144.Run, .int .i64 x5144.Seq, .slice p5155 x5144.Samples.length k5157] 35, .row (some ⟨b4300, 0, none⟩) rv55.1.length k57 c59 35 12, .row p4418 rv4417.length k4419 c4421 45 2] [SlA (some ⟨b5150, o5151, none⟩) rv41.1.length k43 rv41.1, SlA p4304 x4293.Samples.length k4306 x4293.Samples, SlA p5155 x5144.Samples.length k5157 x5144.Samples, RowA c59 rv55.1, RowA c4421 rv4417] w) (true, 0) h5508 ⟨Sv5186, (hs.wk rfl), (hw.ft [0, 1, 2, 3, 4] [0, 1, 2, 3, 4] (by decide) rfl rfl)⟩ ?_
        clear h5508
        repeat clear hsh
        rintro sv5316 a w tv5428 ⟨Sv5390, hs, hw⟩ hsh hd5427
        delta law15_ComposeOnce_l37 at hsh
        refine sr ?_
        refine sv hs (y_lss rfl rfl) rfl fun a hs => ?_
        refine nl ?_
        refine wp_seq ?_
        refine wp_cond_split (hs.ev rfl) (fun h5433 => ?_) (fun h5433 => ?_)
        ·have hsh := ite_t hsh h5433
         refine wp_skip ?_
         refine then_normal ?_
         refine wp_seq ?_
         refine wp_block ?_
         refine sr ?_
         obtain ⟨x5471, h5469, hsh⟩ := bind_t hsh
         obtain ⟨q5475, c5476, h5472, h5473, h5474, h5470⟩ := hw.elemK 0 rfl h5469
         obtain ⟨_, _, _, _, _, _, _, _, _, _, _, _, rfl, rfl, rfl, rfl, rfl, rfl, rfl, rfl, rfl, rfl, rfl, rfl, ⟨p5477, n5478, k5479, rfl, h5480⟩⟩ := h5470
         obtain rfl := h5480.1
         have hw := hw.addE (e := SlA p5477 _ k5479 x5471.Samples) h5480
         have hw := hw.addE h5474
         refine sv hs (y_indexAt Tryz.runUnderlying27 Tryz.sizeOf35 rfl rfl h5472.1 h5472.2 h5473) rfl fun a hs => ?_
         refine sv hs (y_loadEA (j := 0) (hw.ceAt 0 rfl) rfl Tryz.isAgg35 Tryz.sizeOf35 rfl rfl) rfl fun a hs => ?_
         refine w_alloc (cs := [.string ByteArray.empty, .string ByteArray.empty, .string ByteArray.empty, .string ByteArray.empty, .int .i64 0, .int .i64 0, .int .i64 0, .int .i64 0, .int .i64 0, .int .i64 0, .int .i64 0, .slice none ([] : List Int).length 0]) hs hw Tryz.zeroValue35 rfl rfl trivial ?_
         intro b5481 a w hs hw
         refine w_store (m := 12) (cs' := [.string x5471.Source.Network, .string x5471.Source.Station, .string x5471.Source.Location, .string x5471.Source.Channel, .int .i64 x5471.Start, .int .i64 x5471.First, .int .i64 x5471.Rate.Num, .int .i64 x5471.Rate.Den, .int .i64 x5471.Error, .int .i64 x5471.Run, .int .i64 x5471.Seq, .slice p5477 x5471.Samples.length k5479]) hs hw 0 rfl rfl rfl Tryz.sizeOf35 rfl rfl rfl rfl trivial ?_
         intro a w hs hw
         refine nl ?_
         refine sr ?_
         refine sv hs (y_loadBA (hw.ownAt 0 rfl) rfl Tryz.isAgg35 Tryz.sizeOf35 rfl rfl) rfl fun a hs => ?_
         obtain ⟨rv5483, h5482, hsh⟩ := bind_t hsh
         refine st_callR hs (ref14_Span_ok h5482 hw.bdom (hw.bE 1 rfl)) (do_call Tryz.call22 rfl) trivial rfl rfl ?_
         intro v5487 Sv5484 w a h5485 h5486 hs
         subst h5486
         have hw := hw.callB h5485
         refine mv hs rfl rfl fun a hs => ?_
         refine sv hs (y_extract rfl rfl) rfl fun a hs => ?_
         refine sv hs (y_extract rfl rfl) rfl fun a hs => ?_
         refine w_alloc (cs := [.int .i64 0, .int .i64 0]) hs hw Tryz.zeroValue45 rfl rfl trivial ?_
         intro b5489 a w hs hw
         refine w_store (m := 2) (cs' := [.int .i64 rv5483.1.From, .int .i64 rv5483.1.To]) hs hw 0 rfl rfl rfl Tryz.sizeOf45 rfl rfl rfl rfl trivial ?_
         intro a w hs hw
         refine av hs rfl rfl fun a hs => ?_
         refine nl ?_
         refine sr ?_
         refine sv hs (y_loadBA (hw.ownAt 1 rfl) rfl Tryz.isAgg35 Tryz.sizeOf35 rfl rfl) rfl fun a hs => ?_
         refine sv hs (y_loadBA (hw.ownAt 4 rfl) rfl Tryz.isAgg35 Tryz.sizeOf35 rfl rfl) rfl fun a hs => ?_
         obtain ⟨rv5491, h5490, hsh⟩ := bind_t hsh
         refine st_callR hs (ref14_Better_ok h5490 hw.bdom (hw.bE 1 rfl) (hw.bE 4 rfl)) (do_call Tryz.call29 rfl) trivial rfl rfl ?_
         intro v5495 Sv5492 w a h5493 h5494 hs
         subst h5494
         have hw := hw.callB h5493
         refine mv hs rfl rfl fun a hs => ?_
         refine wpl_join 6 (fun a w1 => w = w1 ∧ Sl 191 [(1, .int .u16 n5), (6, .slice (some ⟨b5150, o5151, none⟩) rv41.1.length k43), (7, .slice (some ⟨b4300, 0, none⟩) rv55.1.length k57), (9, .slice p4418 rv4417.length k4419), (10, .int .i64 length4423), (12, .pointer (some ⟨b4308, 0, none⟩)), (13, .pointer (some ⟨b4316, 0, none⟩)), (15, .bool sv4431.1), (17, .pointer (some ⟨b5159, 0, none⟩)), (21, .bool sv5316.1), (24, .pointer (some ⟨b5489, 0, none⟩)), (44, .slice (some ⟨b4300, 0, none⟩) rv55.1.length k57), (45, .int .i64 (rv55.1.length : Int)), (46, .int .i64 sv1878.2.2), (93, .slice (some ⟨b5150, o5151, none⟩) rv41.1.length k43), (94, .int .i64 (rv41.1.length : Int)), (95, .int .i64 sv4431.2), (135, .slice (some ⟨b5150, o5151, none⟩) rv41.1.length k43), (136, .int .i64 (rv41.1.length : Int)), (137, .int .i64 sv5316.2), (155, .bool (rv5491 && (decide (rv5483.1.From < rv4310.1.To))))] a) ?_ ?_
         ·rcases Bool.eq_false_or_eq_true rv5491 with h5497 | h5497
          ·have hs := hs.fix 149 (.bool true) rfl (vb h5497)
           refine st_val hs (y_fieldAddr (o' := 0) Tryz.runUnderlying45 rfl Tryz.sizeOf3 rfl rfl rfl) ⟨_, rfl, rfl⟩ rfl rfl fun a hs => ?_
           refine st_val hs (y_loadB1 (hw.ownAt 0 rfl) rfl Tryz.isAgg3 rfl) ⟨_, rfl, rfl⟩ rfl rfl fun a hs => ?_
           refine st_val hs (y_fieldAddr (o' := 1) Tryz.runUnderlying45 rfl Tryz.sizeOf3 rfl rfl rfl) ⟨_, rfl, rfl⟩ rfl rfl fun a hs => ?_
           refine st_val hs (y_loadB1 (hw.ownAt 3 rfl) rfl Tryz.isAgg3 rfl) ⟨_, rfl, rfl⟩ rfl rfl fun a hs => ?_
           refine st_val hs (y_lss rfl rfl) ⟨_, rfl, rfl⟩ rfl rfl fun a hs => ?_
           refine sv hs (y_pickT rfl rfl) rfl fun a hs => ?_
           refine nl ?_
           exact ⟨rfl, (hs.fix 155 (.bool (rv5491 && (decide (rv5483.1.From < rv4310.1.To)))) rfl (and_t h5497)).weaken _ ⟨rfl, rfl, rfl, rfl, rfl, rfl, rfl, rfl, rfl, rfl, rfl, rfl, rfl, rfl, rfl, rfl, rfl, rfl, rfl, rfl, rfl, trivial⟩⟩
          have hs := hs.fix 149 (.bool false) rfl (vb h5497)
          refine st_skip hs rfl rfl rfl rfl rfl fun a hs => ?_
          refine st_skip hs rfl rfl rfl rfl rfl fun a hs => ?_
          refine st_skip hs rfl rfl rfl rfl rfl fun a hs => ?_
          refine st_skip hs rfl rfl rfl rfl rfl fun a hs => ?_
          refine st_skip hs rfl rfl rfl rfl rfl fun a hs => ?_
          refine sv hs (y_pickF rfl rfl) rfl fun a hs => ?_
          refine nl ?_
          exact ⟨rfl, (hs.fix 155 (.bool (rv5491 && (decide (rv5483.1.From < rv4310.1.To)))) rfl (and_f h5497)).weaken _ ⟨rfl, rfl, rfl, rfl, rfl, rfl, rfl, rfl, rfl, rfl, rfl, rfl, rfl, rfl, rfl, rfl, rfl, rfl, rfl, rfl, rfl, trivial⟩⟩
         rintro a w1 ⟨h5504, hs⟩
         subst h5504
         refine mv hs rfl rfl fun a hs => ?_
         refine wpl_join 6 (fun a w1 => w = w1 ∧ Sl 191 [(1, .int .u16 n5), (6, .slice (some ⟨b5150, o5151, none⟩) rv41.1.length k43), (7, .slice (some ⟨b4300, 0, none⟩) rv55.1.length k57), (9, .slice p4418 rv4417.length k4419), (10, .int .i64 length4423), (12, .pointer (some ⟨b4308, 0, none⟩)), (13, .pointer (some ⟨b4316, 0, none⟩)), (15, .bool sv4431.1), (17, .pointer (some ⟨b5159, 0, none⟩)), (21, .bool sv5316.1), (44, .slice (some ⟨b4300, 0, none⟩) rv55.1.length k57), (45, .int .i64 (rv55.1.length : Int)), (46, .int .i64 sv1878.2.2), (93, .slice (some ⟨b5150, o5151, none⟩) rv41.1.length k43), (94, .int .i64 (rv41.1.length : Int)), (95, .int .i64 sv4431.2), (135, .slice (some ⟨b5150, o5151, none⟩) rv41.1.length k43), (136, .int .i64 (rv41.1.length : Int)), (137, .int .i64 sv5316.2), (162, .bool ((rv5491 && (decide (rv5483.1.From < rv4310.1.To))) && (decide (rv4310.1.From < rv5483.1.To))))] a) ?_ ?_
         ·rcases Bool.eq_false_or_eq_true (rv5491 && (decide (rv5483.1.From < rv4310.1.To))) with h5498 | h5498
          ·have hs := hs.fix 156 (.bool true) rfl (vb h5498)
           refine st_val hs (y_fieldAddr (o' := 0) Tryz.runUnderlying45 rfl Tryz.sizeOf3 rfl rfl rfl) ⟨_, rfl, rfl⟩ rfl rfl fun a hs => ?_
           refine st_val hs (y_loadB1 (hw.ownAt 3 rfl) rfl Tryz.isAgg3 rfl) ⟨_, rfl, rfl⟩ rfl rfl fun a hs => ?_
           refine st_val hs (y_fieldAddr (o' := 1) Tryz.runUnderlying45 rfl Tryz.sizeOf3 rfl rfl rfl) ⟨_, rfl, rfl⟩ rfl rfl fun a hs => ?_
           refine st_val hs (y_loadB1 (hw.ownAt 0 rfl) rfl Tryz.isAgg3 rfl) ⟨_, rfl, rfl⟩ rfl rfl fun a hs => ?_
           refine st_val hs (y_lss rfl rfl) ⟨_, rfl, rfl⟩ rfl rfl fun a hs => ?_
           refine sv hs (y_pickT rfl rfl) rfl fun a hs => ?_
           refine nl ?_
           exact ⟨rfl, (hs.fix 162 (.bool ((rv5491 && (decide (rv5483.1.From < rv4310.1.To))) && (decide (rv4310.1.From < rv5483.1.To)))) rfl (and_t h5498)).weaken _ ⟨rfl, rfl, rfl, rfl, rfl, rfl, rfl, rfl, rfl, rfl, rfl, rfl, rfl, rfl, rfl, rfl, rfl, rfl, rfl, rfl, trivial⟩⟩
          have hs := hs.fix 156 (.bool false) rfl (vb h5498)
          refine st_skip hs rfl rfl rfl rfl rfl fun a hs => ?_
          refine st_skip hs rfl rfl rfl rfl rfl fun a hs => ?_
          refine st_skip hs rfl rfl rfl rfl rfl fun a hs => ?_
          refine st_skip hs rfl rfl rfl rfl rfl fun a hs => ?_
          refine st_skip hs rfl rfl rfl rfl rfl fun a hs => ?_
          refine sv hs (y_pickF rfl rfl) rfl fun a hs => ?_
          refine nl ?_
          exact ⟨rfl, (hs.fix 162 (.bool ((rv5491 && (decide (rv5483.1.From < rv4310.1.To))) && (decide (rv4310.1.From < rv5483.1.To)))) rfl (and_f h5498)).weaken _ ⟨rfl, rfl, rfl, rfl, rfl, rfl, rfl, rfl, rfl, rfl, rfl, rfl, rfl, rfl, rfl, rfl, rfl, rfl, rfl, rfl, trivial⟩⟩
         rintro a w1 ⟨h5503, hs⟩
         subst h5503
         refine nl ?_
         refine wp_join (fun a w => ∃ (clear5501 : Bool) (Sv5500 : Nat → Prop), law15_ComposeOnce_j3 sv5316 clear5501 = some tv5428 ∧ Sl 191 [(1, .int .u16 n5), (6, .slice (some ⟨b5150, o5151, none⟩) rv41.1.length k43), (7, .slice (some ⟨b4300, 0, none⟩) rv55.1.length k57), (9, .slice p4418 rv4417.length k4419), (10, .int .i64 length4423), (12, .pointer (some ⟨b4308, 0, none⟩)), (13, .pointer (some ⟨b4316, 0, none⟩)), (15, .bool sv4431.1), (17, .pointer (some ⟨b5159, 0, none⟩)), (21, .bool clear5501), (44, .slice (some ⟨b4300, 0, none⟩) rv55.1.length k57), (45, .int .i64 (rv55.1.length : Int)), (46, .int .i64 sv1878.2.2), (93, .slice (some ⟨b5150, o5151, none⟩) rv41.1.length k43), (94, .int .i64 (rv41.1.length : Int)), (95, .int .i64 sv4431.2), (135, .slice (some ⟨b5150, o5151, none⟩) rv41.1.length k43), (136, .int .i64 (rv41.1.length : Int)), (137, .int .i64 sv5316.2)] a ∧ Wd ⟨w0, S0, []⟩ Sv5500 [.box b4308 [.string x4293.Source.Network, .string x4293.Source.Station, .string x4293.Source.Location, .string x4293.Source.Channel, .int .i64 x4293.Start, .int .i64 x4293.First, .int .i64 x4293.Rate.Num, .int .i64 x4293.Rate.Den, .int .i64 x4293.Error, .int .i64 x4293.Run, .int .i64 x4293.Seq, .slice p4304 x4293.Samples.length k4306] 35, .box b4316 [.int .i64 rv4310.1.From, .int .i64 rv4310.1.To] 45, .box b5159 [.string x5144.Source.Network, .string x5144.Source.Station, .string x5144.Source.Location, .string x5144.Source.Channel, .int .i64 x5144.Start, .int .i64 x5144.First, .int .i64 x5144.Rate.Num, .int .i64 x5144.Rate.Den, .int .i64 x5144.Error, .int .i64 x5144.Run, .int .i64 x5144.Seq, .slice p5155 x5144.Samples.length k5157] 35, .row (some ⟨b4300, 0, none⟩) rv55.1.length k57 c59 35 12, .row p4418 rv4417.length k4419 c4421 45 2] [SlA (some ⟨b5150, o5151, none⟩) rv41.1.length k43 rv41.1, SlA p4304 x4293.Samples.length k4306 x4293.Samples, SlA p5155 x5144.Samples.length k5157 x5144.Samples, RowA c59 rv55.1, RowA c4421 rv4417] w) ?_ ?_
         ·refine wp_cond_split (hs.ev rfl) (fun h5502 => ?_) (fun h5502 => ?_)
          ·have hsh := ite_t hsh h5502
           refine wp_region_lit ?_
           refine av hs rfl rfl fun a hs => ?_
           refine nl ?_
           exact ⟨false, Sv5390, hsh, (hs.wk rfl), (hw.ft [2, 3, 4, 5, 6] [2, 3, 4, 5, 6] (by decide) rfl rfl)⟩
          have hsh := ite_f hsh h5502
          refine wp_skip ?_
          refine then_normal ?_
          exact ⟨sv5316.1, Sv5390, hsh, (hs.wk rfl), (hw.ft [2, 3, 4, 5, 6] [2, 3, 4, 5, 6] (by decide) rfl rfl)⟩
         rintro a w ⟨clear5501, Sv5500, hsh, hs, hw⟩
         delta law15_ComposeOnce_j3 at hsh
         refine blk_normal ?_
         refine then_normal ?_
         refine wp_region_lit ?_
         refine sv hs (y_add rfl rfl) rfl fun a hs => ?_
         refine mv hs rfl rfl fun a hs => ?_
         refine nl ?_
         exact ⟨_, (Option.some.inj hsh).symm, Sv5500, (hs.wk rfl), (hw.ft [0, 1, 2, 3, 4] [0, 1, 2, 3, 4] (by decide) rfl rfl)⟩
        have hsh := ite_f hsh h5433
        refine wp_exit ?_
        refine then_exit ?_
        refine then_exit ?_
        refine blk_exit ?_
        have hsh := oi hsh
        subst hsh
        have h5505 := hd5427 _ rfl
        subst h5505
        refine then_normal ?_
        exact ⟨Sv5390, (hs.wk rfl), (hw.ft [0, 1, 3, 4] [0, 1, 3, 4] (by decide) rfl rfl)⟩
       rintro a w ⟨Sv5431, hs, hw⟩
       refine then_normal ?_
       refine wp_region_lit ?_
       refine mv hs rfl rfl fun a hs => ?_
       refine mv hs rfl rfl fun a hs => ?_
       refine wpl_join 2 (fun a w1 => w = w1 ∧ Sl 191 [(1, .int .u16 n5), (6, .slice (some ⟨b5150, o5151, none⟩) rv41.1.length k43), (7, .slice (some ⟨b4300, 0, none⟩) rv55.1.length k57), (9, .slice p4418 rv4417.length k4419), (10, .int .i64 length4423), (12, .pointer (some ⟨b4308, 0, none⟩)), (13, .pointer (some ⟨b4316, 0, none⟩)), (44, .slice (some ⟨b4300, 0, none⟩) rv55.1.length k57), (45, .int .i64 (rv55.1.length : Int)), (46, .int .i64 sv1878.2.2), (93, .slice (some ⟨b5150, o5151, none⟩) rv41.1.length k43), (94, .int .i64 (rv41.1.length : Int)), (95, .int .i64 sv4431.2), (167, .bool (sv4431.1 || e5430))] a) ?_ ?_
       ·rcases Bool.eq_false_or_eq_true sv4431.1 with h5506 | h5506
        ·have hs := hs.fix 165 (.bool true) rfl (vb h5506)
         refine st_skip hs rfl rfl rfl rfl rfl fun a hs => ?_
         refine sv hs (y_pickT rfl rfl) rfl fun a hs => ?_
         refine nl ?_
         exact ⟨rfl, (hs.fix 167 (.bool (sv4431.1 || e5430)) rfl (or_t h5506)).weaken _ ⟨rfl, rfl, rfl, rfl, rfl, rfl, rfl, rfl, rfl, rfl, rfl, rfl, rfl, rfl, trivial⟩⟩
        have hs := hs.fix 165 (.bool false) rfl (vb h5506)
        refine st_val hs (y_move rfl) ⟨_, rfl, rfl⟩ rfl rfl fun a hs => ?_
        refine sv hs (y_pickF rfl rfl) rfl fun a hs => ?_
        refine nl ?_
        exact ⟨rfl, (hs.fix 167 (.bool (sv4431.1 || e5430)) rfl (or_f h5506)).weaken _ ⟨rfl, rfl, rfl, rfl, rfl, rfl, rfl, rfl, rfl, rfl, rfl, rfl, rfl, rfl, trivial⟩⟩
       rintro a w1 ⟨h5507, hs⟩
       subst h5507
       refine av hs rfl rfl fun a hs => ?_
       refine nl ?_
       exact ⟨(sv4431.1 || e5430), Sv5431, hsh, (hs.wk rfl), (hw.ft [0, 1, 2, 3] [0, 1, 2, 3] (by decide) rfl rfl)⟩
      have hsh := ite_f hsh h5315
      refine wp_skip ?_
      refine then_normal ?_
      exact ⟨sv4431.1, Sv5186, hsh, (hs.wk rfl), (hw.ft [0, 1, 3, 4] [0, 1, 3, 4] (by decide) rfl rfl)⟩
     rintro a w ⟨found5314, Sv5313, hsh, hs, hw⟩
     delta law15_ComposeOnce_j2 at hsh
     refine blk_normal ?_
     refine then_normal ?_
     exact ⟨found5314, Sv5313, hsh, (hs.wk rfl), (hw.ft [0, 1, 2, 3] [0, 1, 2, 3] (by decide) rfl rfl)⟩
    rintro a w ⟨found5141, Sv5140, hsh, hs, hw⟩
    delta law15_ComposeOnce_j1 at hsh
    refine then_normal ?_
    refine wp_region_lit ?_
    refine sv hs (y_add rfl rfl) rfl fun a hs => ?_
    refine mv hs rfl rfl fun a hs => ?_
    refine nl ?_
    exact ⟨_, (Option.some.inj hsh).symm, Sv5140, (hs.wk rfl), (hw.ft [0, 1, 2, 3] [0, 1, 2, 3] (by decide) rfl rfl)⟩
   have hsh := ite_f hsh h4966
   refine wp_exit ?_
   refine then_exit ?_
   refine then_exit ?_
   refine blk_exit ?_
   have hsh := oi hsh
   subst hsh
   have h5510 := hd4960 _ rfl
   subst h5510
   refine then_normal ?_
   exact ⟨Sv4783, (hs.wk rfl), (hw.ft [2, 3] [0, 2, 3] (by decide) rfl rfl)⟩
  rintro a w ⟨Sv4964, hs, hw⟩
  refine then_normal ?_
  refine sr ?_
  refine mv hs rfl rfl fun a hs => ?_
  refine sv hs (y_not rfl) rfl fun a hs => ?_
  refine nl ?_
  refine wp_cond_split (hs.ev rfl) (fun h5512 => ?_) (fun h5512 => ?_)
  ·have hsh := ite_t hsh h5512
   refine sr ?_
   refine av hs rfl rfl fun a hs => ?_
   refine nl ?_
   have hsh := oi hsh
   subst hsh
   have h5513 := hd3686 _ rfl
   subst h5513
   refine wp_ret ?_
   refine blk_ret ?_
   refine then_ret ?_
   refine then_ret ?_
   refine blk_ret ?_
   refine then_ret ?_
   exact ret1 hs rfl (rv_tmp rfl) (hw.ret rfl)
  have hsh := ite_f hsh h5512
  refine wp_skip ?_
  refine blk_normal ?_
  refine then_normal ?_
  refine wp_region_lit ?_
  refine sv hs (y_add rfl rfl) rfl fun a hs => ?_
  refine mv hs rfl rfl fun a hs => ?_
  refine nl ?_
  exact ⟨_, (Option.some.inj hsh).symm, c4421, p4418, k4419, Sv4964, (hs.wk rfl), (hw.ft [0, 1] [0, 1, 2] (by decide) rfl rfl)⟩
 have hsh := ite_f hsh h3691
 obtain ⟨rv5548, hsh, h5549⟩ := map_t hsh
 have h5549 := (hd3686 _ h5549.symm).symm
 subst h5549
 refine wp_exit ?_
 refine then_exit ?_
 refine then_exit ?_
 refine blk_exit ?_
 refine then_normal ?_
 refine sr ?_
 refine mv hs rfl rfl fun a hs => ?_
 refine sv hs (y_convert Tryz.runUnderlying56 Tryz.runUnderlying3 rfl) rfl fun a hs => ?_
 refine sv hs (y_rem rfl rfl (by decide)) rfl fun a hs => ?_
 refine sv hs (y_mul rfl rfl) rfl fun a hs => ?_
 refine sv hs (y_add rfl rfl) rfl fun a hs => ?_
 obtain ⟨atv5516, h5515, hsh⟩ := bind_t hsh
 refine sv hs (y_assignI rfl h5515) rfl fun a hs => ?_
 refine nl ?_
 refine sr ?_
 refine mv hs rfl rfl fun a hs => ?_
 refine mv hs rfl rfl fun a hs => ?_
 obtain ⟨rv5518, h5517, hsh⟩ := bind_t hsh
 refine st_callR hs (compose_Value_ok h5517 hw.bdom (hw.bE 0 rfl)) (do_call Tryz.call24 rfl) trivial rfl rfl ?_
 intro v5522 Sv5519 w a h5520 h5521 hs
 subst h5521
 have hw := hw.callB h5520
 refine mv hs rfl rfl fun a hs => ?_
 refine sv hs (y_extract rfl rfl) rfl fun a hs => ?_
 refine sv hs (y_extract rfl rfl) rfl fun a hs => ?_
 refine av hs rfl rfl fun a hs => ?_
 refine av hs rfl rfl fun a hs => ?_
 refine nl ?_
 refine sr ?_
 refine mv hs rfl rfl fun a hs => ?_
 refine mv hs rfl rfl fun a hs => ?_
 refine mv hs rfl rfl fun a hs => ?_
 obtain ⟨rv5525, h5524, hsh⟩ := bind_t hsh
 refine st_callR hs (ref08_Has_ok h5524 hw.bdom (hw.bRow 1 rfl 2 rfl)) (do_call Tryz.call26 rfl) trivial rfl rfl ?_
 intro v5529 Sv5526 w a h5527 h5528 hs
 subst h5528
 have hw := hw.callB h5527
 refine sv hs (y_eqlB Tryz.runUnderlying4 rfl rfl) rfl fun a hs => ?_
 refine mv hs rfl rfl fun a hs => ?_
 obtain ⟨c5539, hc5539, hsh⟩ := bind_t hsh
 refine wpl_join 2 (fun a w => ∃ (Sv5540 : Nat → Prop), Sl 191 [(190, .bool c5539)] a ∧ Wd ⟨w0, S0, []⟩ Sv5540 [] [] w) ?_ ?_
 ·rcases Bool.eq_false_or_eq_true (rv5518.2 == rv5525) with h5538 | h5538
  ·have hs := hs.fix 188 (.bool true) rfl (vb h5538)
   have hsh := ite_t hc5539 h5538
   obtain ⟨rv5542, h5541, hsh⟩ := bind_t hsh
   refine st_callR hs (law15_sane_ok h5541 hw.bdom) (do_call Tryz.call12 rfl) ⟨_, rfl, rfl⟩ rfl rfl ?_
   intro v5546 Sv5543 w a h5544 h5545 hs
   subst h5545
   have hw := hw.callB h5544
   refine sv hs (y_pickT rfl rfl) rfl fun a hs => ?_
   refine wpList_nil ?_
   have hsh := oi hsh
   subst hsh
   refine then_normal ?_
   exact ⟨Sv3085, (hs.wk rfl), (hw.ft [] [] (by decide) rfl rfl)⟩
  have hs := hs.fix 188 (.bool false) rfl (vb h5538)
  have hsh := ite_f hc5539 h5538
  refine st_skip hs rfl rfl rfl rfl rfl fun a hs => ?_
  refine sv hs (y_pickF rfl rfl) rfl fun a hs => ?_
  refine wpList_nil ?_
  have hsh := oi hsh
  subst hsh
  refine then_normal ?_
  exact ⟨Sv3085, (hs.wk rfl), (hw.ft [] [] (by decide) rfl rfl)⟩
 rintro a w ⟨Sv5540, hs, hw⟩
 refine av hs rfl rfl fun a hs => ?_
 refine nl ?_
 have hsh := oi hsh
 subst hsh
 refine wp_ret ?_
 exact ret1 hs rfl (rv_tmp rfl) (hw.ret rfl)

end Go.Proofs.YthdimlepjpnncaaGreat.Wk

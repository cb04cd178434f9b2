/- The walks of ResponseExact, part 3: each Go function computes what its plain program computes. Printed by a program of ours. -/
import Derived.Test.YtoendkojgjobbaaProg
import Derived.Test.YtoendkojgjobbaaDat
import Derived.Test.YtoendkojgjobbaaSh
import Derived.Test.YtoendkojgjobbaaLibL
import Derived.Test.YtoendkojgjobbaaLibZ
import Derived.Test.YtoendkojgjobbaaLibQ
import Derived.KernelRfl
import Derived.Test.YtoendkojgjobbaaWResponseExact2
namespace Go.Proofs.Ytoendkojgjobbaa.Wk
open Go Go.RowKit Go.Proofs Go.Proofs.Ytoendkojgjobbaa.Sh
set_option linter.unusedVariables false
set_option linter.unusedSimpArgs false

abbrev ref18_ValidStage_rd (w0 : World) (X : List Nat) (r : Bool) : (Nat → Prop) → World → Value → Prop := fun S w v => v = .bool r
set_option maxHeartbeats 4000000 in
set_option maxRecDepth 100000 in
theorem ref18_ValidStage_ok {w0 : World} {S0 : Nat → Prop} {p2 : Option Addr} {k3 : Nat} {s1 : Stage} {r : Bool} (hsh : ref18_ValidStage s1 = some r) (hS : ∀ b, S0 b → b < w0.heap.size) (h4 : (SlA p2 s1.Taps.length k3 s1.Taps).p S0 w0) : Calls Try.prog 38 #[.agg #[.int .i64 s1.Kind, .int .i64 s1.Num.e0, .int .i64 s1.Num.e1, .int .i64 s1.Num.e2, .int .i64 s1.Den.e0, .int .i64 s1.Den.e1, .int .i64 s1.Den.e2, .slice p2 s1.Taps.length k3, .int .i64 s1.Factor, .int .i64 s1.Shift]] w0 (Ret ([]) w0 S0 (ref18_ValidStage_rd w0 ([]) r)) := by
 refine calls_of_wp Try.func38 rfl ?_
 have hs := Sl.enter #[.agg #[.int .i64 s1.Kind, .int .i64 s1.Num.e0, .int .i64 s1.Num.e1, .int .i64 s1.Num.e2, .int .i64 s1.Den.e0, .int .i64 s1.Den.e1, .int .i64 s1.Den.e2, .slice p2 s1.Taps.length k3, .int .i64 s1.Factor, .int .i64 s1.Shift]] 117 [(0, .agg #[.int .i64 s1.Kind, .int .i64 s1.Num.e0, .int .i64 s1.Num.e1, .int .i64 s1.Num.e2, .int .i64 s1.Den.e0, .int .i64 s1.Den.e1, .int .i64 s1.Den.e2, .slice p2 s1.Taps.length k3, .int .i64 s1.Factor, .int .i64 s1.Shift])] rfl ⟨rfl, trivial⟩
 have hw := Wd.enter (E := []) hS (fun _ h => (by cases h))
 have hw := hw.addE h4
 delta ref18_ValidStage at hsh
 refine sr ?_
 refine w_box (cs := [.int .i64 s1.Kind, .int .i64 s1.Num.e0, .int .i64 s1.Num.e1, .int .i64 s1.Num.e2, .int .i64 s1.Den.e0, .int .i64 s1.Den.e1, .int .i64 s1.Den.e2, .slice p2 s1.Taps.length k3, .int .i64 s1.Factor, .int .i64 s1.Shift]) hs hw rfl rfl rfl trivial ?_
 intro b5 a w hs hw
 refine av hs rfl rfl fun a hs => ?_
 refine nl ?_
 refine sr ?_
 refine sv hs (y_fieldAddr (o' := 7) Try.runUnderlying26 rfl Try.sizeOf24 rfl rfl rfl) rfl fun a hs => ?_
 refine sv hs (y_loadB1 (hw.ownAt 0 rfl) rfl Try.isAgg24 rfl) rfl fun a hs => ?_
 refine sv hs (y_len Try.runUnderlying24 rfl) rfl fun a hs => ?_
 refine sv hs (y_eql rfl rfl) rfl fun a hs => ?_
 refine mv hs rfl rfl fun a hs => ?_
 refine wpl_join 4 (fun a w1 => w = w1 ∧ Sl 117 [(1, .pointer (some ⟨b5, 0, none⟩)), (12, .bool (((s1.Taps.length : Int) == 0) && (s1.Factor == 0)))] a) ?_ ?_
 ·rcases Bool.eq_false_or_eq_true ((s1.Taps.length : Int) == 0) with h6 | h6
  ·have hs := hs.fix 8 (.bool true) rfl (vb h6)
   refine st_val hs (y_fieldAddr (o' := 8) Try.runUnderlying26 rfl Try.sizeOf3 rfl rfl rfl) ⟨_, rfl, rfl⟩ rfl rfl fun a hs => ?_
   refine st_val hs (y_loadB1 (hw.ownAt 0 rfl) rfl Try.isAgg3 rfl) ⟨_, rfl, rfl⟩ rfl rfl fun a hs => ?_
   refine st_val hs (y_eql rfl rfl) ⟨_, rfl, rfl⟩ rfl rfl fun a hs => ?_
   refine sv hs (y_pickT rfl rfl) rfl fun a hs => ?_
   refine nl ?_
   exact ⟨rfl, (hs.fix 12 (.bool (((s1.Taps.length : Int) == 0) && (s1.Factor == 0))) rfl (and_t h6)).weaken _ ⟨rfl, rfl, trivial⟩⟩
  have hs := hs.fix 8 (.bool false) rfl (vb h6)
  refine st_skip hs rfl rfl rfl rfl rfl fun a hs => ?_
  refine st_skip hs rfl rfl rfl rfl rfl fun a hs => ?_
  refine st_skip hs rfl rfl rfl rfl rfl fun a hs => ?_
  refine sv hs (y_pickF rfl rfl) rfl fun a hs => ?_
  refine nl ?_
  exact ⟨rfl, (hs.fix 12 (.bool (((s1.Taps.length : Int) == 0) && (s1.Factor == 0))) rfl (and_f h6)).weaken _ ⟨rfl, rfl, trivial⟩⟩
 rintro a w1 ⟨h738, hs⟩
 subst h738
 refine mv hs rfl rfl fun a hs => ?_
 refine wpl_join 4 (fun a w1 => w = w1 ∧ Sl 117 [(1, .pointer (some ⟨b5, 0, none⟩)), (17, .bool ((((s1.Taps.length : Int) == 0) && (s1.Factor == 0)) && (s1.Shift == 0)))] a) ?_ ?_
 ·rcases Bool.eq_false_or_eq_true (((s1.Taps.length : Int) == 0) && (s1.Factor == 0)) with h7 | h7
  ·have hs := hs.fix 13 (.bool true) rfl (vb h7)
   refine st_val hs (y_fieldAddr (o' := 9) Try.runUnderlying26 rfl Try.sizeOf3 rfl rfl rfl) ⟨_, rfl, rfl⟩ rfl rfl fun a hs => ?_
   refine st_val hs (y_loadB1 (hw.ownAt 0 rfl) rfl Try.isAgg3 rfl) ⟨_, rfl, rfl⟩ rfl rfl fun a hs => ?_
   refine st_val hs (y_eql rfl rfl) ⟨_, rfl, rfl⟩ rfl rfl fun a hs => ?_
   refine sv hs (y_pickT rfl rfl) rfl fun a hs => ?_
   refine nl ?_
   exact ⟨rfl, (hs.fix 17 (.bool ((((s1.Taps.length : Int) == 0) && (s1.Factor == 0)) && (s1.Shift == 0))) rfl (and_t h7)).weaken _ ⟨rfl, rfl, trivial⟩⟩
  have hs := hs.fix 13 (.bool false) rfl (vb h7)
  refine st_skip hs rfl rfl rfl rfl rfl fun a hs => ?_
  refine st_skip hs rfl rfl rfl rfl rfl fun a hs => ?_
  refine st_skip hs rfl rfl rfl rfl rfl fun a hs => ?_
  refine sv hs (y_pickF rfl rfl) rfl fun a hs => ?_
  refine nl ?_
  exact ⟨rfl, (hs.fix 17 (.bool ((((s1.Taps.length : Int) == 0) && (s1.Factor == 0)) && (s1.Shift == 0))) rfl (and_f h7)).weaken _ ⟨rfl, rfl, trivial⟩⟩
 rintro a w1 ⟨h737, hs⟩
 subst h737
 refine av hs rfl rfl fun a hs => ?_
 refine nl ?_
 refine wp_seq ?_
 refine sr ?_
 refine sv hs (y_fieldAddr (o' := 0) Try.runUnderlying26 rfl Try.sizeOf3 rfl rfl rfl) rfl fun a hs => ?_
 refine sv hs (y_loadB1 (hw.ownAt 0 rfl) rfl Try.isAgg3 rfl) rfl fun a hs => ?_
 refine nl ?_
 refine wp_block ?_
 refine sr ?_
 refine sv hs (y_eql rfl rfl) rfl fun a hs => ?_
 refine av hs rfl rfl fun a hs => ?_
 refine nl ?_
 refine wp_cond_split (hs.ev rfl) (fun h350 => ?_) (fun h350 => ?_)
 ·have hsh := ite_t hsh h350
  refine sr ?_
  refine mv hs rfl rfl fun a hs => ?_
  refine mv hs rfl rfl fun a hs => ?_
  obtain ⟨c359, hc359, hsh⟩ := bind_t hsh
  refine wpl_join 5 (fun a w => ∃ (Sv360 : Nat → Prop), Sl 117 [(1, .pointer (some ⟨b5, 0, none⟩)), (28, .bool c359)] a ∧ Wd ⟨w0, S0, []⟩ Sv360 [.box b5 [.int .i64 s1.Kind, .int .i64 s1.Num.e0, .int .i64 s1.Num.e1, .int .i64 s1.Num.e2, .int .i64 s1.Den.e0, .int .i64 s1.Den.e1, .int .i64 s1.Den.e2, .slice p2 s1.Taps.length k3, .int .i64 s1.Factor, .int .i64 s1.Shift] 26] [SlA p2 s1.Taps.length k3 s1.Taps] w) ?_ ?_
  ·rcases Bool.eq_false_or_eq_true ((((s1.Taps.length : Int) == 0) && (s1.Factor == 0)) && (s1.Shift == 0)) with h358 | h358
   ·have hs := hs.fix 23 (.bool true) rfl (vb h358)
    have hsh := ite_t hc359 h358
    refine st_val hs (y_fieldAddr (o' := 1) Try.runUnderlying26 rfl Try.sizeOf23 rfl rfl rfl) ⟨_, rfl, rfl⟩ rfl rfl fun a hs => ?_
    refine st_val hs (y_indexAtA (q := 1) Try.runUnderlying23 Try.sizeOf3 rfl rfl (by decide) (by decide) rfl) ⟨_, rfl, rfl⟩ rfl rfl fun a hs => ?_
    refine st_val hs (y_loadB1 (hw.ownAt 0 rfl) rfl Try.isAgg3 rfl) ⟨_, rfl, rfl⟩ rfl rfl fun a hs => ?_
    obtain ⟨rv362, h361, hsh⟩ := bind_t hsh
    refine st_callR hs (ref01_In_ok h361 hw.bdom) (do_call Try.call56 rfl) ⟨_, rfl, rfl⟩ rfl rfl ?_
    intro v366 Sv363 w a h364 h365 hs
    subst h365
    have hw := hw.callB h364
    refine sv hs (y_pickT rfl rfl) rfl fun a hs => ?_
    refine wpList_nil ?_
    have hsh := oi hsh
    subst hsh
    refine then_normal ?_
    exact ⟨S0, (hs.wk rfl), (hw.ft [0] [0] (by decide) rfl rfl)⟩
   have hs := hs.fix 23 (.bool false) rfl (vb h358)
   have hsh := ite_f hc359 h358
   refine st_skip hs rfl rfl rfl rfl rfl fun a hs => ?_
   refine st_skip hs rfl rfl rfl rfl rfl fun a hs => ?_
   refine st_skip hs rfl rfl rfl rfl rfl fun a hs => ?_
   refine st_skip hs rfl rfl rfl rfl rfl fun a hs => ?_
   refine sv hs (y_pickF rfl rfl) rfl fun a hs => ?_
   refine wpList_nil ?_
   have hsh := oi hsh
   subst hsh
   refine then_normal ?_
   exact ⟨S0, (hs.wk rfl), (hw.ft [0] [0] (by decide) rfl rfl)⟩
  rintro a w ⟨Sv360, hs, hw⟩
  refine mv hs rfl rfl fun a hs => ?_
  obtain ⟨c376, hc376, hsh⟩ := bind_t hsh
  refine wpl_join 5 (fun a w => ∃ (Sv377 : Nat → Prop), Sl 117 [(1, .pointer (some ⟨b5, 0, none⟩)), (34, .bool c376)] a ∧ Wd ⟨w0, S0, []⟩ Sv377 [.box b5 [.int .i64 s1.Kind, .int .i64 s1.Num.e0, .int .i64 s1.Num.e1, .int .i64 s1.Num.e2, .int .i64 s1.Den.e0, .int .i64 s1.Den.e1, .int .i64 s1.Den.e2, .slice p2 s1.Taps.length k3, .int .i64 s1.Factor, .int .i64 s1.Shift] 26] [SlA p2 s1.Taps.length k3 s1.Taps] w) ?_ ?_
  ·rcases Bool.eq_false_or_eq_true c359 with h375 | h375
   ·have hs := hs.fix 29 (.bool true) rfl (vb h375)
    have hsh := ite_t hc376 h375
    refine st_val hs (y_fieldAddr (o' := 4) Try.runUnderlying26 rfl Try.sizeOf23 rfl rfl rfl) ⟨_, rfl, rfl⟩ rfl rfl fun a hs => ?_
    refine st_val hs (y_indexAtA (q := 4) Try.runUnderlying23 Try.sizeOf3 rfl rfl (by decide) (by decide) rfl) ⟨_, rfl, rfl⟩ rfl rfl fun a hs => ?_
    refine st_val hs (y_loadB1 (hw.ownAt 0 rfl) rfl Try.isAgg3 rfl) ⟨_, rfl, rfl⟩ rfl rfl fun a hs => ?_
    obtain ⟨rv379, h378, hsh⟩ := bind_t hsh
    refine st_callR hs (ref01_In_ok h378 hw.bdom) (do_call Try.call56 rfl) ⟨_, rfl, rfl⟩ rfl rfl ?_
    intro v383 Sv380 w a h381 h382 hs
    subst h382
    have hw := hw.callB h381
    refine sv hs (y_pickT rfl rfl) rfl fun a hs => ?_
    refine wpList_nil ?_
    have hsh := oi hsh
    subst hsh
    refine then_normal ?_
    exact ⟨Sv360, (hs.wk rfl), (hw.ft [0] [0] (by decide) rfl rfl)⟩
   have hs := hs.fix 29 (.bool false) rfl (vb h375)
   have hsh := ite_f hc376 h375
   refine st_skip hs rfl rfl rfl rfl rfl fun a hs => ?_
   refine st_skip hs rfl rfl rfl rfl rfl fun a hs => ?_
   refine st_skip hs rfl rfl rfl rfl rfl fun a hs => ?_
   refine st_skip hs rfl rfl rfl rfl rfl fun a hs => ?_
   refine sv hs (y_pickF rfl rfl) rfl fun a hs => ?_
   refine wpList_nil ?_
   have hsh := oi hsh
   subst hsh
   refine then_normal ?_
   exact ⟨Sv360, (hs.wk rfl), (hw.ft [0] [0] (by decide) rfl rfl)⟩
  rintro a w ⟨Sv377, hs, hw⟩
  refine mv hs rfl rfl fun a hs => ?_
  refine wpl_join 5 (fun a w1 => w = w1 ∧ Sl 117 [(1, .pointer (some ⟨b5, 0, none⟩)), (40, .bool (c376 && (s1.Num.e1 == 0)))] a) ?_ ?_
  ·rcases Bool.eq_false_or_eq_true c376 with h385 | h385
   ·have hs := hs.fix 35 (.bool true) rfl (vb h385)
    refine st_val hs (y_fieldAddr (o' := 1) Try.runUnderlying26 rfl Try.sizeOf23 rfl rfl rfl) ⟨_, rfl, rfl⟩ rfl rfl fun a hs => ?_
    refine st_val hs (y_indexAtA (q := 2) Try.runUnderlying23 Try.sizeOf3 rfl rfl (by decide) (by decide) rfl) ⟨_, rfl, rfl⟩ rfl rfl fun a hs => ?_
    refine st_val hs (y_loadB1 (hw.ownAt 0 rfl) rfl Try.isAgg3 rfl) ⟨_, rfl, rfl⟩ rfl rfl fun a hs => ?_
    refine st_val hs (y_eql rfl rfl) ⟨_, rfl, rfl⟩ rfl rfl fun a hs => ?_
    refine sv hs (y_pickT rfl rfl) rfl fun a hs => ?_
    refine nl ?_
    exact ⟨rfl, (hs.fix 40 (.bool (c376 && (s1.Num.e1 == 0))) rfl (and_t h385)).weaken _ ⟨rfl, rfl, trivial⟩⟩
   have hs := hs.fix 35 (.bool false) rfl (vb h385)
   refine st_skip hs rfl rfl rfl rfl rfl fun a hs => ?_
   refine st_skip hs rfl rfl rfl rfl rfl fun a hs => ?_
   refine st_skip hs rfl rfl rfl rfl rfl fun a hs => ?_
   refine st_skip hs rfl rfl rfl rfl rfl fun a hs => ?_
   refine sv hs (y_pickF rfl rfl) rfl fun a hs => ?_
   refine nl ?_
   exact ⟨rfl, (hs.fix 40 (.bool (c376 && (s1.Num.e1 == 0))) rfl (and_f h385)).weaken _ ⟨rfl, rfl, trivial⟩⟩
  rintro a w1 ⟨h392, hs⟩
  subst h392
  refine mv hs rfl rfl fun a hs => ?_
  refine wpl_join 5 (fun a w1 => w = w1 ∧ Sl 117 [(1, .pointer (some ⟨b5, 0, none⟩)), (46, .bool ((c376 && (s1.Num.e1 == 0)) && (s1.Num.e2 == 0)))] a) ?_ ?_
  ·rcases Bool.eq_false_or_eq_true (c376 && (s1.Num.e1 == 0)) with h386 | h386
   ·have hs := hs.fix 41 (.bool true) rfl (vb h386)
    refine st_val hs (y_fieldAddr (o' := 1) Try.runUnderlying26 rfl Try.sizeOf23 rfl rfl rfl) ⟨_, rfl, rfl⟩ rfl rfl fun a hs => ?_
    refine st_val hs (y_indexAtA (q := 3) Try.runUnderlying23 Try.sizeOf3 rfl rfl (by decide) (by decide) rfl) ⟨_, rfl, rfl⟩ rfl rfl fun a hs => ?_
    refine st_val hs (y_loadB1 (hw.ownAt 0 rfl) rfl Try.isAgg3 rfl) ⟨_, rfl, rfl⟩ rfl rfl fun a hs => ?_
    refine st_val hs (y_eql rfl rfl) ⟨_, rfl, rfl⟩ rfl rfl fun a hs => ?_
    refine sv hs (y_pickT rfl rfl) rfl fun a hs => ?_
    refine nl ?_
    exact ⟨rfl, (hs.fix 46 (.bool ((c376 && (s1.Num.e1 == 0)) && (s1.Num.e2 == 0))) rfl (and_t h386)).weaken _ ⟨rfl, rfl, trivial⟩⟩
   have hs := hs.fix 41 (.bool false) rfl (vb h386)
   refine st_skip hs rfl rfl rfl rfl rfl fun a hs => ?_
   refine st_skip hs rfl rfl rfl rfl rfl fun a hs => ?_
   refine st_skip hs rfl rfl rfl rfl rfl fun a hs => ?_
   refine st_skip hs rfl rfl rfl rfl rfl fun a hs => ?_
   refine sv hs (y_pickF rfl rfl) rfl fun a hs => ?_
   refine nl ?_
   exact ⟨rfl, (hs.fix 46 (.bool ((c376 && (s1.Num.e1 == 0)) && (s1.Num.e2 == 0))) rfl (and_f h386)).weaken _ ⟨rfl, rfl, trivial⟩⟩
  rintro a w1 ⟨h391, hs⟩
  subst h391
  refine mv hs rfl rfl fun a hs => ?_
  refine wpl_join 5 (fun a w1 => w = w1 ∧ Sl 117 [(1, .pointer (some ⟨b5, 0, none⟩)), (52, .bool (((c376 && (s1.Num.e1 == 0)) && (s1.Num.e2 == 0)) && (s1.Den.e1 == 0)))] a) ?_ ?_
  ·rcases Bool.eq_false_or_eq_true ((c376 && (s1.Num.e1 == 0)) && (s1.Num.e2 == 0)) with h387 | h387
   ·have hs := hs.fix 47 (.bool true) rfl (vb h387)
    refine st_val hs (y_fieldAddr (o' := 4) Try.runUnderlying26 rfl Try.sizeOf23 rfl rfl rfl) ⟨_, rfl, rfl⟩ rfl rfl fun a hs => ?_
    refine st_val hs (y_indexAtA (q := 5) Try.runUnderlying23 Try.sizeOf3 rfl rfl (by decide) (by decide) rfl) ⟨_, rfl, rfl⟩ rfl rfl fun a hs => ?_
    refine st_val hs (y_loadB1 (hw.ownAt 0 rfl) rfl Try.isAgg3 rfl) ⟨_, rfl, rfl⟩ rfl rfl fun a hs => ?_
    refine st_val hs (y_eql rfl rfl) ⟨_, rfl, rfl⟩ rfl rfl fun a hs => ?_
    refine sv hs (y_pickT rfl rfl) rfl fun a hs => ?_
    refine nl ?_
    exact ⟨rfl, (hs.fix 52 (.bool (((c376 && (s1.Num.e1 == 0)) && (s1.Num.e2 == 0)) && (s1.Den.e1 == 0))) rfl (and_t h387)).weaken _ ⟨rfl, rfl, trivial⟩⟩
   have hs := hs.fix 47 (.bool false) rfl (vb h387)
   refine st_skip hs rfl rfl rfl rfl rfl fun a hs => ?_
   refine st_skip hs rfl rfl rfl rfl rfl fun a hs => ?_
   refine st_skip hs rfl rfl rfl rfl rfl fun a hs => ?_
   refine st_skip hs rfl rfl rfl rfl rfl fun a hs => ?_
   refine sv hs (y_pickF rfl rfl) rfl fun a hs => ?_
   refine nl ?_
   exact ⟨rfl, (hs.fix 52 (.bool (((c376 && (s1.Num.e1 == 0)) && (s1.Num.e2 == 0)) && (s1.Den.e1 == 0))) rfl (and_f h387)).weaken _ ⟨rfl, rfl, trivial⟩⟩
  rintro a w1 ⟨h390, hs⟩
  subst h390
  refine mv hs rfl rfl fun a hs => ?_
  refine wpl_join 5 (fun a w1 => w = w1 ∧ Sl 117 [(58, .bool ((((c376 && (s1.Num.e1 == 0)) && (s1.Num.e2 == 0)) && (s1.Den.e1 == 0)) && (s1.Den.e2 == 0)))] a) ?_ ?_
  ·rcases Bool.eq_false_or_eq_true (((c376 && (s1.Num.e1 == 0)) && (s1.Num.e2 == 0)) && (s1.Den.e1 == 0)) with h388 | h388
   ·have hs := hs.fix 53 (.bool true) rfl (vb h388)
    refine st_val hs (y_fieldAddr (o' := 4) Try.runUnderlying26 rfl Try.sizeOf23 rfl rfl rfl) ⟨_, rfl, rfl⟩ rfl rfl fun a hs => ?_
    refine st_val hs (y_indexAtA (q := 6) Try.runUnderlying23 Try.sizeOf3 rfl rfl (by decide) (by decide) rfl) ⟨_, rfl, rfl⟩ rfl rfl fun a hs => ?_
    refine st_val hs (y_loadB1 (hw.ownAt 0 rfl) rfl Try.isAgg3 rfl) ⟨_, rfl, rfl⟩ rfl rfl fun a hs => ?_
    refine st_val hs (y_eql rfl rfl) ⟨_, rfl, rfl⟩ rfl rfl fun a hs => ?_
    refine sv hs (y_pickT rfl rfl) rfl fun a hs => ?_
    refine nl ?_
    exact ⟨rfl, (hs.fix 58 (.bool ((((c376 && (s1.Num.e1 == 0)) && (s1.Num.e2 == 0)) && (s1.Den.e1 == 0)) && (s1.Den.e2 == 0))) rfl (and_t h388)).weaken _ ⟨rfl, trivial⟩⟩
   have hs := hs.fix 53 (.bool false) rfl (vb h388)
   refine st_skip hs rfl rfl rfl rfl rfl fun a hs => ?_
   refine st_skip hs rfl rfl rfl rfl rfl fun a hs => ?_
   refine st_skip hs rfl rfl rfl rfl rfl fun a hs => ?_
   refine st_skip hs rfl rfl rfl rfl rfl fun a hs => ?_
   refine sv hs (y_pickF rfl rfl) rfl fun a hs => ?_
   refine nl ?_
   exact ⟨rfl, (hs.fix 58 (.bool ((((c376 && (s1.Num.e1 == 0)) && (s1.Num.e2 == 0)) && (s1.Den.e1 == 0)) && (s1.Den.e2 == 0))) rfl (and_f h388)).weaken _ ⟨rfl, trivial⟩⟩
  rintro a w1 ⟨h389, hs⟩
  subst h389
  refine av hs rfl rfl fun a hs => ?_
  refine nl ?_
  have hsh := oi hsh
  subst hsh
  refine wp_ret ?_
  refine blk_ret ?_
  refine then_ret ?_
  exact ret1 hs rfl (rv_tmp rfl) (hw.ret rfl)
 have hsh := ite_f hsh h350
 refine sr ?_
 refine sv hs (y_eql rfl rfl) rfl fun a hs => ?_
 refine av hs rfl rfl fun a hs => ?_
 refine nl ?_
 refine wp_cond_split (hs.ev rfl) (fun h521 => ?_) (fun h521 => ?_)
 ·have hsh := ite_t hsh h521
  refine sr ?_
  refine mv hs rfl rfl fun a hs => ?_
  refine mv hs rfl rfl fun a hs => ?_
  obtain ⟨c531, hc531, hsh⟩ := bind_t hsh
  refine wpl_join 4 (fun a w => ∃ (Sv532 : Nat → Prop), Sl 117 [(1, .pointer (some ⟨b5, 0, none⟩)), (66, .bool c531)] a ∧ Wd ⟨w0, S0, []⟩ Sv532 [] [CeA b5 0 [.int .i64 s1.Kind, .int .i64 s1.Num.e0, .int .i64 s1.Num.e1, .int .i64 s1.Num.e2, .int .i64 s1.Den.e0, .int .i64 s1.Den.e1, .int .i64 s1.Den.e2, .slice p2 s1.Taps.length k3, .int .i64 s1.Factor, .int .i64 s1.Shift], SlA p2 s1.Taps.length k3 s1.Taps] w) ?_ ?_
  ·rcases Bool.eq_false_or_eq_true ((((s1.Taps.length : Int) == 0) && (s1.Factor == 0)) && (s1.Shift == 0)) with h530 | h530
   ·have hs := hs.fix 62 (.bool true) rfl (vb h530)
    have hsh := ite_t hc531 h530
    refine st_val hs (y_fieldAddr (o' := 1) Try.runUnderlying26 rfl Try.sizeOf23 rfl rfl rfl) ⟨_, rfl, rfl⟩ rfl rfl fun a hs => ?_
    obtain ⟨Sv533, hw⟩ := w_freeze hw 0 rfl
    have hw := hw.addE (e := SlA (α := Int) (some ⟨b5, 1, none⟩) ([s1.Num.e0, s1.Num.e1, s1.Num.e2] : List Int).length 3 ([s1.Num.e0, s1.Num.e1, s1.Num.e2] : List Int)) (arr_sl (o := 1) (hw.envAt 0 rfl) rfl ⟨⟨_, rfl, rfl⟩, ⟨⟨_, rfl, rfl⟩, ⟨⟨_, rfl, rfl⟩, rfl⟩⟩⟩)
    refine st_val hs (y_sliceArr Try.runUnderlying23 Try.sizeOf3 rfl rfl) ⟨_, rfl, rfl⟩ rfl rfl fun a hs => ?_
    obtain ⟨rv535, h534, hsh⟩ := bind_t hsh
    refine st_callR hs (ref18_terms_ok h534 hw.bdom (hw.bE 0 rfl)) (do_call Try.call70 rfl) ⟨_, rfl, rfl⟩ rfl rfl ?_
    intro v539 Sv536 w a h537 h538 hs
    subst h538
    have hw := hw.callB h537
    refine sv hs (y_pickT rfl rfl) rfl fun a hs => ?_
    refine wpList_nil ?_
    have hsh := oi hsh
    subst hsh
    refine then_normal ?_
    exact ⟨Sv533, (hs.wk rfl), (hw.ft [] [1, 2] (by decide) rfl rfl)⟩
   have hs := hs.fix 62 (.bool false) rfl (vb h530)
   have hsh := ite_f hc531 h530
   refine st_skip hs rfl rfl rfl rfl rfl fun a hs => ?_
   refine st_skip hs rfl rfl rfl rfl rfl fun a hs => ?_
   refine st_skip hs rfl rfl rfl rfl rfl fun a hs => ?_
   refine sv hs (y_pickF rfl rfl) rfl fun a hs => ?_
   refine wpList_nil ?_
   obtain ⟨Sv541, hw⟩ := w_freeze hw 0 rfl
   have hsh := oi hsh
   subst hsh
   refine then_normal ?_
   exact ⟨Sv541, (hs.wk rfl), (hw.ft [] [0, 1] (by decide) rfl rfl)⟩
  rintro a w ⟨Sv532, hs, hw⟩
  refine mv hs rfl rfl fun a hs => ?_
  obtain ⟨c550, hc550, hsh⟩ := bind_t hsh
  refine wpl_join 4 (fun a w => ∃ (Sv551 : Nat → Prop), Sl 117 [(1, .pointer (some ⟨b5, 0, none⟩)), (71, .bool c550)] a ∧ Wd ⟨w0, S0, []⟩ Sv551 [] [CeA b5 0 [.int .i64 s1.Kind, .int .i64 s1.Num.e0, .int .i64 s1.Num.e1, .int .i64 s1.Num.e2, .int .i64 s1.Den.e0, .int .i64 s1.Den.e1, .int .i64 s1.Den.e2, .slice p2 s1.Taps.length k3, .int .i64 s1.Factor, .int .i64 s1.Shift], SlA p2 s1.Taps.length k3 s1.Taps] w) ?_ ?_
  ·rcases Bool.eq_false_or_eq_true c531 with h549 | h549
   ·have hs := hs.fix 67 (.bool true) rfl (vb h549)
    have hsh := ite_t hc550 h549
    refine st_val hs (y_fieldAddr (o' := 4) Try.runUnderlying26 rfl Try.sizeOf23 rfl rfl rfl) ⟨_, rfl, rfl⟩ rfl rfl fun a hs => ?_
    have hw := hw.addE (e := SlA (α := Int) (some ⟨b5, 4, none⟩) ([s1.Den.e0, s1.Den.e1, s1.Den.e2] : List Int).length 3 ([s1.Den.e0, s1.Den.e1, s1.Den.e2] : List Int)) (arr_sl (o := 4) (hw.envAt 0 rfl) rfl ⟨⟨_, rfl, rfl⟩, ⟨⟨_, rfl, rfl⟩, ⟨⟨_, rfl, rfl⟩, rfl⟩⟩⟩)
    refine st_val hs (y_sliceArr Try.runUnderlying23 Try.sizeOf3 rfl rfl) ⟨_, rfl, rfl⟩ rfl rfl fun a hs => ?_
    obtain ⟨rv553, h552, hsh⟩ := bind_t hsh
    refine st_callR hs (ref18_terms_ok h552 hw.bdom (hw.bE 0 rfl)) (do_call Try.call70 rfl) ⟨_, rfl, rfl⟩ rfl rfl ?_
    intro v557 Sv554 w a h555 h556 hs
    subst h556
    have hw := hw.callB h555
    refine sv hs (y_pickT rfl rfl) rfl fun a hs => ?_
    refine wpList_nil ?_
    have hsh := oi hsh
    subst hsh
    refine then_normal ?_
    exact ⟨Sv532, (hs.wk rfl), (hw.ft [] [1, 2] (by decide) rfl rfl)⟩
   have hs := hs.fix 67 (.bool false) rfl (vb h549)
   have hsh := ite_f hc550 h549
   refine st_skip hs rfl rfl rfl rfl rfl fun a hs => ?_
   refine st_skip hs rfl rfl rfl rfl rfl fun a hs => ?_
   refine st_skip hs rfl rfl rfl rfl rfl fun a hs => ?_
   refine sv hs (y_pickF rfl rfl) rfl fun a hs => ?_
   refine wpList_nil ?_
   have hsh := oi hsh
   subst hsh
   refine then_normal ?_
   exact ⟨Sv532, (hs.wk rfl), (hw.ft [] [0, 1] (by decide) rfl rfl)⟩
  rintro a w ⟨Sv551, hs, hw⟩
  refine mv hs rfl rfl fun a hs => ?_
  refine wpl_join 5 (fun a w1 => w = w1 ∧ Sl 117 [(77, .bool (c550 && (s1.Den.e0 != 0)))] a) ?_ ?_
  ·rcases Bool.eq_false_or_eq_true c550 with h559 | h559
   ·have hs := hs.fix 72 (.bool true) rfl (vb h559)
    refine st_val hs (y_fieldAddr (o' := 4) Try.runUnderlying26 rfl Try.sizeOf23 rfl rfl rfl) ⟨_, rfl, rfl⟩ rfl rfl fun a hs => ?_
    refine st_val hs (y_indexAtA (q := 4) Try.runUnderlying23 Try.sizeOf3 rfl rfl (by decide) (by decide) rfl) ⟨_, rfl, rfl⟩ rfl rfl fun a hs => ?_
    refine st_val hs (y_loadE1 (j := 4) (hw.ceAt 0 rfl) rfl Try.isAgg3 rfl) ⟨_, rfl, rfl⟩ rfl rfl fun a hs => ?_
    refine st_val hs (y_neq rfl rfl) ⟨_, rfl, rfl⟩ rfl rfl fun a hs => ?_
    refine sv hs (y_pickT rfl rfl) rfl fun a hs => ?_
    refine nl ?_
    exact ⟨rfl, (hs.fix 77 (.bool (c550 && (s1.Den.e0 != 0))) rfl (and_t h559)).weaken _ ⟨rfl, trivial⟩⟩
   have hs := hs.fix 72 (.bool false) rfl (vb h559)
   refine st_skip hs rfl rfl rfl rfl rfl fun a hs => ?_
   refine st_skip hs rfl rfl rfl rfl rfl fun a hs => ?_
   refine st_skip hs rfl rfl rfl rfl rfl fun a hs => ?_
   refine st_skip hs rfl rfl rfl rfl rfl fun a hs => ?_
   refine sv hs (y_pickF rfl rfl) rfl fun a hs => ?_
   refine nl ?_
   exact ⟨rfl, (hs.fix 77 (.bool (c550 && (s1.Den.e0 != 0))) rfl (and_f h559)).weaken _ ⟨rfl, trivial⟩⟩
  rintro a w1 ⟨h560, hs⟩
  subst h560
  refine av hs rfl rfl fun a hs => ?_
  refine nl ?_
  have hsh := oi hsh
  subst hsh
  refine wp_ret ?_
  refine blk_ret ?_
  refine then_ret ?_
  exact ret1 hs rfl (rv_tmp rfl) (hw.ret rfl)
 have hsh := ite_f hsh h521
 refine sr ?_
 refine sv hs (y_eql rfl rfl) rfl fun a hs => ?_
 refine av hs rfl rfl fun a hs => ?_
 refine nl ?_
 refine wp_cond_split (hs.ev rfl) (fun h649 => ?_) (fun h649 => ?_)
 ·have hsh := ite_t hsh h649
  refine sr ?_
  refine sv hs (y_fieldAddr (o' := 1) Try.runUnderlying26 rfl Try.sizeOf23 rfl rfl rfl) rfl fun a hs => ?_
  refine sv hs (y_loadBA (hw.ownAt 0 rfl) rfl Try.isAgg23 Try.sizeOf23 rfl rfl) rfl fun a hs => ?_
  refine sv hs (y_build (vs := []) Bld23 rfl rfl) rfl fun a hs => ?_
  refine sv hs (y_eqlA (by kernel_rfl) rfl rfl (eqv_array Try.runUnderlying23 Try.sizeOf3 (EqA.cons1 Try.isAgg3 rfl rfl (eqv_int Try.runUnderlying3) (EqA.cons1 Try.isAgg3 rfl rfl (eqv_int Try.runUnderlying3) (EqA.cons1 Try.isAgg3 rfl rfl (eqv_int Try.runUnderlying3) EqA.nil))))) rfl fun a hs => ?_
  refine mv hs rfl rfl fun a hs => ?_
  refine wpl_join 5 (fun a w1 => w = w1 ∧ Sl 117 [(1, .pointer (some ⟨b5, 0, none⟩)), (89, .bool (((s1.Num.e0 == 0) && ((s1.Num.e1 == 0) && ((s1.Num.e2 == 0) && true))) && ((s1.Den.e0 == 0) && ((s1.Den.e1 == 0) && ((s1.Den.e2 == 0) && true)))))] a) ?_ ?_
  ·rcases Bool.eq_false_or_eq_true ((s1.Num.e0 == 0) && ((s1.Num.e1 == 0) && ((s1.Num.e2 == 0) && true))) with h650 | h650
   ·have hs := hs.fix 84 (.bool true) rfl (vb h650)
    refine st_val hs (y_fieldAddr (o' := 4) Try.runUnderlying26 rfl Try.sizeOf23 rfl rfl rfl) ⟨_, rfl, rfl⟩ rfl rfl fun a hs => ?_
    refine st_val hs (y_loadBA (hw.ownAt 0 rfl) rfl Try.isAgg23 Try.sizeOf23 rfl rfl) ⟨_, rfl, rfl⟩ rfl rfl fun a hs => ?_
    refine st_val hs (y_build (vs := []) Bld23 rfl rfl) ⟨_, rfl, rfl⟩ rfl rfl fun a hs => ?_
    refine st_val hs (y_eqlA (by kernel_rfl) rfl rfl (eqv_array Try.runUnderlying23 Try.sizeOf3 (EqA.cons1 Try.isAgg3 rfl rfl (eqv_int Try.runUnderlying3) (EqA.cons1 Try.isAgg3 rfl rfl (eqv_int Try.runUnderlying3) (EqA.cons1 Try.isAgg3 rfl rfl (eqv_int Try.runUnderlying3) EqA.nil))))) ⟨_, rfl, rfl⟩ rfl rfl fun a hs => ?_
    refine sv hs (y_pickT rfl rfl) rfl fun a hs => ?_
    refine nl ?_
    exact ⟨rfl, (hs.fix 89 (.bool (((s1.Num.e0 == 0) && ((s1.Num.e1 == 0) && ((s1.Num.e2 == 0) && true))) && ((s1.Den.e0 == 0) && ((s1.Den.e1 == 0) && ((s1.Den.e2 == 0) && true))))) rfl (and_t h650)).weaken _ ⟨rfl, rfl, trivial⟩⟩
   have hs := hs.fix 84 (.bool false) rfl (vb h650)
   refine st_skip hs rfl rfl rfl rfl rfl fun a hs => ?_
   refine st_skip hs rfl rfl rfl rfl rfl fun a hs => ?_
   refine st_skip hs rfl rfl rfl rfl rfl fun a hs => ?_
   refine st_skip hs rfl rfl rfl rfl rfl fun a hs => ?_
   refine sv hs (y_pickF rfl rfl) rfl fun a hs => ?_
   refine nl ?_
   exact ⟨rfl, (hs.fix 89 (.bool (((s1.Num.e0 == 0) && ((s1.Num.e1 == 0) && ((s1.Num.e2 == 0) && true))) && ((s1.Den.e0 == 0) && ((s1.Den.e1 == 0) && ((s1.Den.e2 == 0) && true))))) rfl (and_f h650)).weaken _ ⟨rfl, rfl, trivial⟩⟩
  rintro a w1 ⟨h736, hs⟩
  subst h736
  refine mv hs rfl rfl fun a hs => ?_
  obtain ⟨c659, hc659, hsh⟩ := bind_t hsh
  refine wpl_join 5 (fun a w => ∃ (Sv660 : Nat → Prop), Sl 117 [(1, .pointer (some ⟨b5, 0, none⟩)), (95, .bool c659)] a ∧ Wd ⟨w0, S0, []⟩ Sv660 [.box b5 [.int .i64 s1.Kind, .int .i64 s1.Num.e0, .int .i64 s1.Num.e1, .int .i64 s1.Num.e2, .int .i64 s1.Den.e0, .int .i64 s1.Den.e1, .int .i64 s1.Den.e2, .slice p2 s1.Taps.length k3, .int .i64 s1.Factor, .int .i64 s1.Shift] 26] [SlA p2 s1.Taps.length k3 s1.Taps] w) ?_ ?_
  ·rcases Bool.eq_false_or_eq_true (((s1.Num.e0 == 0) && ((s1.Num.e1 == 0) && ((s1.Num.e2 == 0) && true))) && ((s1.Den.e0 == 0) && ((s1.Den.e1 == 0) && ((s1.Den.e2 == 0) && true)))) with h658 | h658
   ·have hs := hs.fix 90 (.bool true) rfl (vb h658)
    have hsh := ite_t hc659 h658
    refine st_val hs (y_fieldAddr (o' := 7) Try.runUnderlying26 rfl Try.sizeOf24 rfl rfl rfl) ⟨_, rfl, rfl⟩ rfl rfl fun a hs => ?_
    refine st_val hs (y_loadB1 (hw.ownAt 0 rfl) rfl Try.isAgg24 rfl) ⟨_, rfl, rfl⟩ rfl rfl fun a hs => ?_
    refine st_val hs (y_len Try.runUnderlying24 rfl) ⟨_, rfl, rfl⟩ rfl rfl fun a hs => ?_
    obtain ⟨rv662, h661, hsh⟩ := bind_t hsh
    refine st_callR hs (ref01_In_ok h661 hw.bdom) (do_call Try.call56 rfl) ⟨_, rfl, rfl⟩ rfl rfl ?_
    intro v666 Sv663 w a h664 h665 hs
    subst h665
    have hw := hw.callB h664
    refine sv hs (y_pickT rfl rfl) rfl fun a hs => ?_
    refine wpList_nil ?_
    have hsh := oi hsh
    subst hsh
    refine then_normal ?_
    exact ⟨S0, (hs.wk rfl), (hw.ft [0] [0] (by decide) rfl rfl)⟩
   have hs := hs.fix 90 (.bool false) rfl (vb h658)
   have hsh := ite_f hc659 h658
   refine st_skip hs rfl rfl rfl rfl rfl fun a hs => ?_
   refine st_skip hs rfl rfl rfl rfl rfl fun a hs => ?_
   refine st_skip hs rfl rfl rfl rfl rfl fun a hs => ?_
   refine st_skip hs rfl rfl rfl rfl rfl fun a hs => ?_
   refine sv hs (y_pickF rfl rfl) rfl fun a hs => ?_
   refine wpList_nil ?_
   have hsh := oi hsh
   subst hsh
   refine then_normal ?_
   exact ⟨S0, (hs.wk rfl), (hw.ft [0] [0] (by decide) rfl rfl)⟩
  rintro a w ⟨Sv660, hs, hw⟩
  refine mv hs rfl rfl fun a hs => ?_
  obtain ⟨c676, hc676, hsh⟩ := bind_t hsh
  refine wpl_join 4 (fun a w => ∃ (Sv677 : Nat → Prop), Sl 117 [(1, .pointer (some ⟨b5, 0, none⟩)), (100, .bool c676)] a ∧ Wd ⟨w0, S0, []⟩ Sv677 [.box b5 [.int .i64 s1.Kind, .int .i64 s1.Num.e0, .int .i64 s1.Num.e1, .int .i64 s1.Num.e2, .int .i64 s1.Den.e0, .int .i64 s1.Den.e1, .int .i64 s1.Den.e2, .slice p2 s1.Taps.length k3, .int .i64 s1.Factor, .int .i64 s1.Shift] 26] [SlA p2 s1.Taps.length k3 s1.Taps] w) ?_ ?_
  ·rcases Bool.eq_false_or_eq_true c659 with h675 | h675
   ·have hs := hs.fix 96 (.bool true) rfl (vb h675)
    have hsh := ite_t hc676 h675
    refine st_val hs (y_fieldAddr (o' := 7) Try.runUnderlying26 rfl Try.sizeOf24 rfl rfl rfl) ⟨_, rfl, rfl⟩ rfl rfl fun a hs => ?_
    refine st_val hs (y_loadB1 (hw.ownAt 0 rfl) rfl Try.isAgg24 rfl) ⟨_, rfl, rfl⟩ rfl rfl fun a hs => ?_
    obtain ⟨rv679, h678, hsh⟩ := bind_t hsh
    refine st_callR hs (ref18_terms_ok h678 hw.bdom (hw.bE 0 rfl)) (do_call Try.call70 rfl) ⟨_, rfl, rfl⟩ rfl rfl ?_
    intro v683 Sv680 w a h681 h682 hs
    subst h682
    have hw := hw.callB h681
    refine sv hs (y_pickT rfl rfl) rfl fun a hs => ?_
    refine wpList_nil ?_
    have hsh := oi hsh
    subst hsh
    refine then_normal ?_
    exact ⟨Sv660, (hs.wk rfl), (hw.ft [0] [0] (by decide) rfl rfl)⟩
   have hs := hs.fix 96 (.bool false) rfl (vb h675)
   have hsh := ite_f hc676 h675
   refine st_skip hs rfl rfl rfl rfl rfl fun a hs => ?_
   refine st_skip hs rfl rfl rfl rfl rfl fun a hs => ?_
   refine st_skip hs rfl rfl rfl rfl rfl fun a hs => ?_
   refine sv hs (y_pickF rfl rfl) rfl fun a hs => ?_
   refine wpList_nil ?_
   have hsh := oi hsh
   subst hsh
   refine then_normal ?_
   exact ⟨Sv660, (hs.wk rfl), (hw.ft [0] [0] (by decide) rfl rfl)⟩
  rintro a w ⟨Sv677, hs, hw⟩
  refine mv hs rfl rfl fun a hs => ?_
  obtain ⟨c693, hc693, hsh⟩ := bind_t hsh
  refine wpl_join 5 (fun a w => ∃ (Sv694 : Nat → Prop), Sl 117 [(1, .pointer (some ⟨b5, 0, none⟩)), (106, .bool c693)] a ∧ Wd ⟨w0, S0, []⟩ Sv694 [.box b5 [.int .i64 s1.Kind, .int .i64 s1.Num.e0, .int .i64 s1.Num.e1, .int .i64 s1.Num.e2, .int .i64 s1.Den.e0, .int .i64 s1.Den.e1, .int .i64 s1.Den.e2, .slice p2 s1.Taps.length k3, .int .i64 s1.Factor, .int .i64 s1.Shift] 26] [SlA p2 s1.Taps.length k3 s1.Taps] w) ?_ ?_
  ·rcases Bool.eq_false_or_eq_true c676 with h692 | h692
   ·have hs := hs.fix 101 (.bool true) rfl (vb h692)
    have hsh := ite_t hc693 h692
    refine st_val hs (y_fieldAddr (o' := 7) Try.runUnderlying26 rfl Try.sizeOf24 rfl rfl rfl) ⟨_, rfl, rfl⟩ rfl rfl fun a hs => ?_
    refine st_val hs (y_loadB1 (hw.ownAt 0 rfl) rfl Try.isAgg24 rfl) ⟨_, rfl, rfl⟩ rfl rfl fun a hs => ?_
    obtain ⟨rv696, h695, hsh⟩ := bind_t hsh
    refine st_callR hs (ref18_total_ok h695 hw.bdom (hw.bE 0 rfl)) (do_call Try.call69 rfl) ⟨_, rfl, rfl⟩ rfl rfl ?_
    intro v700 Sv697 w a h698 h699 hs
    subst h699
    have hw := hw.callB h698
    refine st_val hs (y_neq rfl rfl) ⟨_, rfl, rfl⟩ rfl rfl fun a hs => ?_
    refine sv hs (y_pickT rfl rfl) rfl fun a hs => ?_
    refine wpList_nil ?_
    have hsh := oi hsh
    subst hsh
    refine then_normal ?_
    exact ⟨Sv677, (hs.wk rfl), (hw.ft [0] [0] (by decide) rfl rfl)⟩
   have hs := hs.fix 101 (.bool false) rfl (vb h692)
   have hsh := ite_f hc693 h692
   refine st_skip hs rfl rfl rfl rfl rfl fun a hs => ?_
   refine st_skip hs rfl rfl rfl rfl rfl fun a hs => ?_
   refine st_skip hs rfl rfl rfl rfl rfl fun a hs => ?_
   refine st_skip hs rfl rfl rfl rfl rfl fun a hs => ?_
   refine sv hs (y_pickF rfl rfl) rfl fun a hs => ?_
   refine wpList_nil ?_
   have hsh := oi hsh
   subst hsh
   refine then_normal ?_
   exact ⟨Sv677, (hs.wk rfl), (hw.ft [0] [0] (by decide) rfl rfl)⟩
  rintro a w ⟨Sv694, hs, hw⟩
  refine mv hs rfl rfl fun a hs => ?_
  obtain ⟨c710, hc710, hsh⟩ := bind_t hsh
  refine wpl_join 4 (fun a w => ∃ (Sv711 : Nat → Prop), Sl 117 [(1, .pointer (some ⟨b5, 0, none⟩)), (111, .bool c710)] a ∧ Wd ⟨w0, S0, []⟩ Sv711 [.box b5 [.int .i64 s1.Kind, .int .i64 s1.Num.e0, .int .i64 s1.Num.e1, .int .i64 s1.Num.e2, .int .i64 s1.Den.e0, .int .i64 s1.Den.e1, .int .i64 s1.Den.e2, .slice p2 s1.Taps.length k3, .int .i64 s1.Factor, .int .i64 s1.Shift] 26] [SlA p2 s1.Taps.length k3 s1.Taps] w) ?_ ?_
  ·rcases Bool.eq_false_or_eq_true c693 with h709 | h709
   ·have hs := hs.fix 107 (.bool true) rfl (vb h709)
    have hsh := ite_t hc710 h709
    refine st_val hs (y_fieldAddr (o' := 8) Try.runUnderlying26 rfl Try.sizeOf3 rfl rfl rfl) ⟨_, rfl, rfl⟩ rfl rfl fun a hs => ?_
    refine st_val hs (y_loadB1 (hw.ownAt 0 rfl) rfl Try.isAgg3 rfl) ⟨_, rfl, rfl⟩ rfl rfl fun a hs => ?_
    obtain ⟨rv713, h712, hsh⟩ := bind_t hsh
    refine st_callR hs (ref01_In_ok h712 hw.bdom) (do_call Try.call56 rfl) ⟨_, rfl, rfl⟩ rfl rfl ?_
    intro v717 Sv714 w a h715 h716 hs
    subst h716
    have hw := hw.callB h715
    refine sv hs (y_pickT rfl rfl) rfl fun a hs => ?_
    refine wpList_nil ?_
    have hsh := oi hsh
    subst hsh
    refine then_normal ?_
    exact ⟨Sv694, (hs.wk rfl), (hw.ft [0] [0] (by decide) rfl rfl)⟩
   have hs := hs.fix 107 (.bool false) rfl (vb h709)
   have hsh := ite_f hc710 h709
   refine st_skip hs rfl rfl rfl rfl rfl fun a hs => ?_
   refine st_skip hs rfl rfl rfl rfl rfl fun a hs => ?_
   refine st_skip hs rfl rfl rfl rfl rfl fun a hs => ?_
   refine sv hs (y_pickF rfl rfl) rfl fun a hs => ?_
   refine wpList_nil ?_
   have hsh := oi hsh
   subst hsh
   refine then_normal ?_
   exact ⟨Sv694, (hs.wk rfl), (hw.ft [0] [0] (by decide) rfl rfl)⟩
  rintro a w ⟨Sv711, hs, hw⟩
  refine mv hs rfl rfl fun a hs => ?_
  obtain ⟨c727, hc727, hsh⟩ := bind_t hsh
  refine wpl_join 4 (fun a w => ∃ (Sv728 : Nat → Prop), Sl 117 [(116, .bool c727)] a ∧ Wd ⟨w0, S0, []⟩ Sv728 [] [] w) ?_ ?_
  ·rcases Bool.eq_false_or_eq_true c710 with h726 | h726
   ·have hs := hs.fix 112 (.bool true) rfl (vb h726)
    have hsh := ite_t hc727 h726
    refine st_val hs (y_fieldAddr (o' := 9) Try.runUnderlying26 rfl Try.sizeOf3 rfl rfl rfl) ⟨_, rfl, rfl⟩ rfl rfl fun a hs => ?_
    refine st_val hs (y_loadB1 (hw.ownAt 0 rfl) rfl Try.isAgg3 rfl) ⟨_, rfl, rfl⟩ rfl rfl fun a hs => ?_
    obtain ⟨rv730, h729, hsh⟩ := bind_t hsh
    refine st_callR hs (ref01_In_ok h729 hw.bdom) (do_call Try.call56 rfl) ⟨_, rfl, rfl⟩ rfl rfl ?_
    intro v734 Sv731 w a h732 h733 hs
    subst h733
    have hw := hw.callB h732
    refine sv hs (y_pickT rfl rfl) rfl fun a hs => ?_
    refine wpList_nil ?_
    have hsh := oi hsh
    subst hsh
    refine then_normal ?_
    exact ⟨Sv711, (hs.wk rfl), (hw.ft [] [] (by decide) rfl rfl)⟩
   have hs := hs.fix 112 (.bool false) rfl (vb h726)
   have hsh := ite_f hc727 h726
   refine st_skip hs rfl rfl rfl rfl rfl fun a hs => ?_
   refine st_skip hs rfl rfl rfl rfl rfl fun a hs => ?_
   refine st_skip hs rfl rfl rfl rfl rfl fun a hs => ?_
   refine sv hs (y_pickF rfl rfl) rfl fun a hs => ?_
   refine wpList_nil ?_
   have hsh := oi hsh
   subst hsh
   refine then_normal ?_
   exact ⟨Sv711, (hs.wk rfl), (hw.ft [] [] (by decide) rfl rfl)⟩
  rintro a w ⟨Sv728, hs, hw⟩
  refine av hs rfl rfl fun a hs => ?_
  refine nl ?_
  have hsh := oi hsh
  subst hsh
  refine wp_ret ?_
  refine blk_ret ?_
  refine then_ret ?_
  exact ret1 hs rfl (rv_tmp rfl) (hw.ret rfl)
 have hsh := ite_f hsh h649
 refine wp_skip ?_
 refine blk_normal ?_
 refine then_normal ?_
 refine sr ?_
 refine av hs rfl rfl fun a hs => ?_
 refine nl ?_
 have hsh := oi hsh
 subst hsh
 refine wp_ret ?_
 exact ret1 hs rfl (rv_tmp rfl) (hw.ret rfl)

abbrev ref18_Valid_rd (w0 : World) (X : List Nat) (r : Bool) : (Nat → Prop) → World → Value → Prop := fun S w v => v = .bool r
set_option maxHeartbeats 4000000 in
set_option maxRecDepth 100000 in
theorem ref18_Valid_ok {w0 : World} {S0 : Nat → Prop} {p2 : Option Addr} {k3 : Nat} {r1 : Response} {r : Bool} (hsh : ref18_Valid r1 = some r) (hS : ∀ b, S0 b → b < w0.heap.size) (h4 : (SlA p2 r1.Stages.length k3 r1.Stages).p S0 w0) : Calls Try.prog 34 #[.agg #[.slice p2 r1.Stages.length k3]] w0 (Ret ([]) w0 S0 (ref18_Valid_rd w0 ([]) r)) := by
 refine calls_of_wp Try.func34 rfl ?_
 have hs := Sl.enter #[.agg #[.slice p2 r1.Stages.length k3]] 40 [(0, .agg #[.slice p2 r1.Stages.length k3])] rfl ⟨rfl, trivial⟩
 have hw := Wd.enter (E := []) hS (fun _ h => (by cases h))
 have hw := hw.addE h4
 delta ref18_Valid at hsh
 refine sr ?_
 refine w_box (cs := [.slice p2 r1.Stages.length k3]) hs hw rfl rfl rfl trivial ?_
 intro b5 a w hs hw
 refine av hs rfl rfl fun a hs => ?_
 refine nl ?_
 refine sr ?_
 refine av hs rfl rfl fun a hs => ?_
 refine nl ?_
 refine wp_seq ?_
 refine sr ?_
 refine av hs rfl rfl fun a hs => ?_
 refine nl ?_
 refine wp_block ?_
 refine wp_while (fun sv185 a w => ∃ (Sv303 : Nat → Prop), Sl 40 [(1, .pointer (some ⟨b5, 0, none⟩)), (3, .int .i64 sv185.1), (4, .int .i64 sv185.2)] a ∧ Wd ⟨w0, S0, []⟩ Sv303 [.box b5 [.slice p2 r1.Stages.length k3] 37] [SlA p2 r1.Stages.length k3 r1.Stages] w) (1, 0) hsh ⟨S0, (hs.wk rfl), (hw.ft [0] [0] (by decide) rfl rfl)⟩ ?_
 repeat clear hsh
 rintro sv185 a w tv363 ⟨Sv303, hs, hw⟩ hsh hd362
 delta ref18_Valid_l2 at hsh
 refine wp_seq ?_
 refine sr ?_
 refine mv hs rfl rfl fun a hs => ?_
 refine sv hs (y_fieldAddr (o' := 0) Try.runUnderlying37 rfl Try.sizeOf35 rfl rfl rfl) rfl fun a hs => ?_
 refine sv hs (y_loadB1 (hw.ownAt 0 rfl) rfl Try.isAgg35 rfl) rfl fun a hs => ?_
 refine sv hs (y_len Try.runUnderlying35 rfl) rfl fun a hs => ?_
 refine sv hs (y_lss rfl rfl) rfl fun a hs => ?_
 refine nl ?_
 refine wp_cond_split (hs.ev rfl) (fun h367 => ?_) (fun h367 => ?_)
 ·have hsh := ite_t hsh h367
  refine wp_skip ?_
  refine then_normal ?_
  refine wp_seq ?_
  refine wp_block ?_
  refine wp_seq ?_
  refine sr ?_
  refine sv hs (y_fieldAddr (o' := 0) Try.runUnderlying37 rfl Try.sizeOf35 rfl rfl rfl) rfl fun a hs => ?_
  refine sv hs (y_loadB1 (hw.ownAt 0 rfl) rfl Try.isAgg35 rfl) rfl fun a hs => ?_
  refine mv hs rfl rfl fun a hs => ?_
  obtain ⟨x425, h423, hsh⟩ := bind_t hsh
  obtain ⟨b431, o432, q429, c430, h433, h426, h427, h428, h424⟩ := hw.elemV 0 rfl h423
  have hsv434 := hs
  have hwv435 := hw
  subst h433
  have hs := hsv434
  have hw := hwv435
  obtain ⟨_, _, _, _, _, _, _, _, _, _, rfl, rfl, rfl, rfl, rfl, rfl, rfl, rfl, ⟨p436, n437, k438, rfl, h439⟩, rfl, rfl⟩ := h424
  obtain rfl := h439.1
  have hw := hw.addE (e := SlA p436 _ k438 x425.Taps) h439
  have hw := hw.addE h428
  refine sv hs (y_indexAt Try.runUnderlying35 Try.sizeOf26 rfl rfl h426.1 h426.2 h427) rfl fun a hs => ?_
  refine sv hs (y_loadEA (j := 0) (hw.ceAt 0 rfl) rfl Try.isAgg26 Try.sizeOf26 rfl rfl) rfl fun a hs => ?_
  obtain ⟨rv441, h440, hsh⟩ := bind_t hsh
  refine st_callR hs (ref18_ValidStage_ok h440 hw.bdom (hw.bE 1 rfl)) (do_call Try.call38 rfl) trivial rfl rfl ?_
  intro v445 Sv442 w a h443 h444 hs
  subst h444
  have hw := hw.callB h443
  refine sv hs (y_not rfl) rfl fun a hs => ?_
  refine nl ?_
  refine wp_cond_split (hs.ev rfl) (fun h448 => ?_) (fun h448 => ?_)
  ·have hsh := ite_t hsh h448
   refine sr ?_
   refine av hs rfl rfl fun a hs => ?_
   refine nl ?_
   have hsh := oi hsh
   subst hsh
   have h449 := hd362 _ rfl
   subst h449
   refine wp_ret ?_
   refine then_ret ?_
   refine blk_ret ?_
   refine then_ret ?_
   refine then_ret ?_
   refine blk_ret ?_
   refine then_ret ?_
   exact ret1 hs rfl (rv_tmp rfl) (hw.ret rfl)
  have hsh := ite_f hsh h448
  refine wp_skip ?_
  refine then_normal ?_
  refine sr ?_
  refine sv hs (y_fieldAddr (o' := 0) Try.runUnderlying37 rfl Try.sizeOf35 rfl rfl rfl) rfl fun a hs => ?_
  refine sv hs (y_loadB1 (hw.ownAt 0 rfl) rfl Try.isAgg35 rfl) rfl fun a hs => ?_
  refine mv hs rfl rfl fun a hs => ?_
  obtain ⟨x452, h450, hsh⟩ := bind_t hsh
  obtain ⟨q456, c457, h453, h454, h455, h451⟩ := hw.elemK 2 rfl h450
  obtain ⟨_, _, _, _, _, _, _, _, _, _, rfl, rfl, rfl, rfl, rfl, rfl, rfl, rfl, ⟨p458, n459, k460, rfl, h461⟩, rfl, rfl⟩ := h451
  obtain rfl := h461.1
  have hw := hw.addE (e := SlA p458 _ k460 x452.Taps) h461
  have hw := hw.addE h455
  refine sv hs (y_indexAt Try.runUnderlying35 Try.sizeOf26 rfl rfl h453.1 h453.2 h454) rfl fun a hs => ?_
  refine sv hs (y_fieldAddr (o' := q456 + 0) Try.runUnderlying26 rfl Try.sizeOf3 rfl rfl rfl) rfl fun a hs => ?_
  refine sv hs (y_loadE1 (j := 0) (hw.ceAt 0 rfl) rfl Try.isAgg3 rfl) rfl fun a hs => ?_
  refine sv hs (y_eql rfl rfl) rfl fun a hs => ?_
  refine nl ?_
  refine wp_join (fun a w => ∃ (n479 : Int) (Sv478 : Nat → Prop), ref18_Valid_j1 sv185 n479 = some tv363 ∧ Sl 40 [(1, .pointer (some ⟨b5, 0, none⟩)), (3, .int .i64 n479), (4, .int .i64 sv185.2)] a ∧ Wd ⟨w0, S0, []⟩ Sv478 [.box b5 [.slice (some ⟨b431, o432, none⟩) r1.Stages.length k3] 37] [SlA (some ⟨b431, o432, none⟩) r1.Stages.length k3 r1.Stages] w) ?_ ?_
  ·refine wp_cond_split (hs.ev rfl) (fun h482 => ?_) (fun h482 => ?_)
   ·have hsh := ite_t hsh h482
    refine sr ?_
    refine mv hs rfl rfl fun a hs => ?_
    refine sv hs (y_fieldAddr (o' := 0) Try.runUnderlying37 rfl Try.sizeOf35 rfl rfl rfl) rfl fun a hs => ?_
    refine sv hs (y_loadB1 (hw.ownAt 0 rfl) rfl Try.isAgg35 rfl) rfl fun a hs => ?_
    refine mv hs rfl rfl fun a hs => ?_
    obtain ⟨x485, h483, hsh⟩ := bind_t hsh
    obtain ⟨q489, c490, h486, h487, h488, h484⟩ := hw.elemK 4 rfl h483
    obtain ⟨_, _, _, _, _, _, _, _, _, _, rfl, rfl, rfl, rfl, rfl, rfl, rfl, rfl, ⟨p491, n492, k493, rfl, h494⟩, rfl, rfl⟩ := h484
    obtain rfl := h494.1
    have hw := hw.addE (e := SlA p491 _ k493 x485.Taps) h494
    have hw := hw.addE h488
    refine sv hs (y_indexAt Try.runUnderlying35 Try.sizeOf26 rfl rfl h486.1 h486.2 h487) rfl fun a hs => ?_
    refine sv hs (y_fieldAddr (o' := q489 + 8) Try.runUnderlying26 rfl Try.sizeOf3 rfl rfl rfl) rfl fun a hs => ?_
    refine sv hs (y_loadE1 (j := 8) (hw.ceAt 0 rfl) rfl Try.isAgg3 rfl) rfl fun a hs => ?_
    refine sv hs (y_mul rfl rfl) rfl fun a hs => ?_
    obtain ⟨n496, h495, hsh⟩ := bind_t hsh
    refine sv hs (y_assignI rfl h495) rfl fun a hs => ?_
    refine nl ?_
    refine sr ?_
    refine mv hs rfl rfl fun a hs => ?_
    refine sv hs (y_gtr rfl rfl) rfl fun a hs => ?_
    refine nl ?_
    refine wp_cond_split (hs.ev rfl) (fun h498 => ?_) (fun h498 => ?_)
    ·have hsh := ite_t hsh h498
     refine sr ?_
     refine av hs rfl rfl fun a hs => ?_
     refine nl ?_
     have hsh := oi hsh
     subst hsh
     have h499 := hd362 _ rfl
     subst h499
     refine wp_ret ?_
     refine then_ret ?_
     refine blk_ret ?_
     refine then_ret ?_
     refine then_ret ?_
     refine blk_ret ?_
     refine then_ret ?_
     exact ret1 hs rfl (rv_tmp rfl) (hw.ret rfl)
    have hsh := ite_f hsh h498
    refine wp_skip ?_
    refine then_normal ?_
    exact ⟨n496, Sv303, hsh, (hs.wk rfl), (hw.ft [0] [6] (by decide) rfl rfl)⟩
   have hsh := ite_f hsh h482
   refine wp_skip ?_
   refine then_normal ?_
   exact ⟨sv185.1, Sv303, hsh, (hs.wk rfl), (hw.ft [0] [4] (by decide) rfl rfl)⟩
  rintro a w ⟨n479, Sv478, hsh, hs, hw⟩
  delta ref18_Valid_j1 at hsh
  refine blk_normal ?_
  refine then_normal ?_
  refine wp_region_lit ?_
  refine mv hs rfl rfl fun a hs => ?_
  refine sv hs (y_add rfl rfl) rfl fun a hs => ?_
  obtain ⟨i481, h480, hsh⟩ := bind_t hsh
  refine sv hs (y_assignI rfl h480) rfl fun a hs => ?_
  refine nl ?_
  exact ⟨_, (Option.some.inj hsh).symm, Sv478, (hs.wk rfl), (hw.ft [0] [0] (by decide) rfl rfl)⟩
 have hsh := ite_f hsh h367
 obtain ⟨rv500, hsh, h501⟩ := map_t hsh
 have h501 := (hd362 _ h501.symm).symm
 subst h501
 refine wp_exit ?_
 refine then_exit ?_
 refine then_exit ?_
 refine blk_exit ?_
 refine then_normal ?_
 refine sr ?_
 refine sv hs (y_fieldAddr (o' := 0) Try.runUnderlying37 rfl Try.sizeOf35 rfl rfl rfl) rfl fun a hs => ?_
 refine sv hs (y_loadB1 (hw.ownAt 0 rfl) rfl Try.isAgg35 rfl) rfl fun a hs => ?_
 refine sv hs (y_len Try.runUnderlying35 rfl) rfl fun a hs => ?_
 refine sv hs (y_leq rfl rfl) rfl fun a hs => ?_
 refine av hs rfl rfl fun a hs => ?_
 refine nl ?_
 have hsh := oi hsh
 subst hsh
 refine wp_ret ?_
 exact ret1 hs rfl (rv_tmp rfl) (hw.ret rfl)

abbrev ref17_From_rd (w0 : World) (X : List Nat) (r : ((List Int) × Int)) : (Nat → Prop) → World → Value → Prop := fun S w v => ∃ (p0_0 : Option Addr) (k0_0 : Nat) (c0_0 : List Value), v = .tuple #[.slice p0_0 r.1.length k0_0, .int .i64 r.2] ∧ Outs X w0 S w [.row p0_0 r.1.length k0_0 c0_0 3 1] ∧ (RowA c0_0 r.1).p S w
set_option maxHeartbeats 4000000 in
set_option maxRecDepth 100000 in
theorem ref17_From_ok {w0 : World} {S0 : Nat → Prop} {n1 : Int} {r : ((List Int) × Int)} (hsh : ref17_From n1 = some r) (hS : ∀ b, S0 b → b < w0.heap.size) : Calls Try.prog 98 #[.int .i64 n1] w0 (Ret ([]) w0 S0 (ref17_From_rd w0 ([]) r)) := by
 refine calls_of_wp Try.func98 rfl ?_
 have hs := Sl.enter #[.int .i64 n1] 17 [(0, .int .i64 n1)] rfl ⟨rfl, trivial⟩
 have hw := Wd.enter (E := []) hS (fun _ h => (by cases h))
 delta ref17_From at hsh
 refine sr ?_
 refine av hs rfl rfl fun a hs => ?_
 refine av hs rfl rfl fun a hs => ?_
 refine nl ?_
 refine wp_seq ?_
 refine sr ?_
 refine mv hs rfl rfl fun a hs => ?_
 refine sv hs (y_lss rfl rfl) rfl fun a hs => ?_
 refine nl ?_
 refine wp_cond_split (hs.ev rfl) (fun h3 => ?_) (fun h3 => ?_)
 ·have hsh := ite_t hsh h3
  refine sr ?_
  refine av hs rfl rfl fun a hs => ?_
  refine av hs rfl rfl fun a hs => ?_
  refine nl ?_
  have hsh := oi hsh
  subst hsh
  have hw := hw.nilRow Int 3
  refine wp_ret ?_
  refine then_ret ?_
  exact ret2 hs rfl (rv_tmp rfl) (rv_tmp rfl) (hw.ret ⟨none, 0, [], rfl, (hw.outs [0] (by decide) rfl), (hw.envAt 0 rfl)⟩)
 have hsh := ite_f hsh h3
 refine wp_skip ?_
 refine then_normal ?_
 refine sr ?_
 refine av hs rfl rfl fun a hs => ?_
 refine nl ?_
 refine wp_seq ?_
 obtain ⟨e46, h72, hsh⟩ := bind_t hsh
 refine wp_join (fun a w => ∃ (c47 : List Value) (p48 : Option Addr) (k49 : Nat) (Sv50 : Nat → Prop), Sl 17 [(4, .slice p48 e46.length k49)] a ∧ Wd ⟨w0, S0, []⟩ Sv50 [.row p48 e46.length k49 c47 3 1] [RowA c47 e46] w) ?_ ?_
 ·refine wp_block ?_
  have hw := hw.nilRow Int 3
  refine wp_while (fun sv4 a w => ∃ (c29 : List Value) (p30 : Option Addr) (k31 : Nat) (Sv32 : Nat → Prop), Sl 17 [(0, .int .i64 sv4.1), (4, .slice p30 sv4.2.length k31)] a ∧ Wd ⟨w0, S0, []⟩ Sv32 [.row p30 sv4.2.length k31 c29 3 1] [RowA c29 sv4.2] w) (n1, ([] : List Int)) h72 ⟨[], none, 0, S0, (hs.wk rfl), (hw.ft [0] [0] (by decide) rfl rfl)⟩ ?_
  clear h72
  repeat clear hsh
  rintro sv4 a w tv44 ⟨c29, p30, k31, Sv32, hs, hw⟩ hsh hd43
  delta ref17_From_l1 at hsh
  refine wp_seq ?_
  refine sr ?_
  refine mv hs rfl rfl fun a hs => ?_
  refine sv hs (y_gtr rfl rfl) rfl fun a hs => ?_
  refine nl ?_
  refine wp_cond_split (hs.ev rfl) (fun h52 => ?_) (fun h52 => ?_)
  ·have hsh := ite_t hsh h52
   refine wp_skip ?_
   refine then_normal ?_
   refine wp_block ?_
   refine sr ?_
   refine mv hs rfl rfl fun a hs => ?_
   refine mv hs rfl rfl fun a hs => ?_
   refine sv hs (y_rem rfl rfl (by decide)) rfl fun a hs => ?_
   refine w_litSlice (α := Int) (vs := [.int .i64 (Int.tmod sv4.1 1073741824)]) (cs := [.int .i64 (Int.tmod sv4.1 1073741824)]) (xs := ([(Int.tmod sv4.1 1073741824)] : List Int)) hs hw El29 rfl rfl rfl rfl rfl rfl ⟨⟨_, rfl, rfl⟩, rfl⟩ rfl trivial rfl fun b63 a w hs hw => ?_
   obtain ⟨l65, h64, hsh⟩ := bind_t hsh
   refine w_appendR (α := Int) hs hw El29 1 rfl rfl rfl 1 rfl 0 rfl 0 rfl h64 rfl trivial ?_
   intro p66 k67 c68 a w hs hw
   refine av hs rfl rfl fun a hs => ?_
   refine nl ?_
   refine wp_region_lit ?_
   refine mv hs rfl rfl fun a hs => ?_
   refine sv hs (y_quo rfl rfl (by decide)) rfl fun a hs => ?_
   obtain ⟨n70, h69, hsh⟩ := bind_t hsh
   refine sv hs (y_assignI rfl h69) rfl fun a hs => ?_
   refine wpList_nil ?_
   refine blk_normal ?_
   refine then_normal ?_
   exact ⟨_, (Option.some.inj hsh).symm, c68, p66, k67, Sv32, (hs.wk rfl), (hw.ft [1] [0] (by decide) rfl rfl)⟩
  have hsh := ite_f hsh h52
  refine wp_exit ?_
  refine then_exit ?_
  refine then_exit ?_
  refine blk_exit ?_
  have hsh := oi hsh
  subst hsh
  have h71 := hd43 _ rfl
  subst h71
  refine then_normal ?_
  exact ⟨c29, p30, k31, Sv32, (hs.wk rfl), (hw.ft [0] [0] (by decide) rfl rfl)⟩
 rintro a w ⟨c47, p48, k49, Sv50, hs, hw⟩
 refine then_normal ?_
 refine sr ?_
 refine mv hs rfl rfl fun a hs => ?_
 refine av hs rfl rfl fun a hs => ?_
 refine av hs rfl rfl fun a hs => ?_
 refine nl ?_
 have hsh := oi hsh
 subst hsh
 refine wp_ret ?_
 exact ret2 hs rfl (rv_tmp rfl) (rv_tmp rfl) (hw.ret ⟨p48, k49, c47, rfl, (hw.outs [0] (by decide) rfl), (hw.envAt 0 rfl)⟩)

abbrev ref17_limited_rd (w0 : World) (X : List Nat) (r : ((List Int) × Int)) : (Nat → Prop) → World → Value → Prop := fun S w v => ∃ (p0_0 : Option Addr) (k0_0 : Nat), v = .tuple #[.slice p0_0 r.1.length k0_0, .int .i64 r.2] ∧ (SlA p0_0 r.1.length k0_0 r.1).p S w
set_option maxHeartbeats 4000000 in
set_option maxRecDepth 100000 in
theorem ref17_limited_ok {w0 : World} {S0 : Nat → Prop} {p2 : Option Addr} {k3 : Nat} {n1 : (List Int)} {r : ((List Int) × Int)} (hsh : ref17_limited n1 = some r) (hS : ∀ b, S0 b → b < w0.heap.size) (h4 : (SlA p2 n1.length k3 n1).p S0 w0) : Calls Try.prog 80 #[.slice p2 n1.length k3] w0 (Ret ([]) w0 S0 (ref17_limited_rd w0 ([]) r)) := by
 refine calls_of_wp Try.func80 rfl ?_
 have hs := Sl.enter #[.slice p2 n1.length k3] 8 [(0, .slice p2 n1.length k3)] rfl ⟨rfl, trivial⟩
 have hw := Wd.enter (E := []) hS (fun _ h => (by cases h))
 have hw := hw.addE h4
 delta ref17_limited at hsh
 refine sr ?_
 refine av hs rfl rfl fun a hs => ?_
 refine av hs rfl rfl fun a hs => ?_
 refine nl ?_
 refine wp_seq ?_
 refine sr ?_
 refine mv hs rfl rfl fun a hs => ?_
 refine sv hs (y_len Try.runUnderlying29 rfl) rfl fun a hs => ?_
 refine sv hs (y_gtr rfl rfl) rfl fun a hs => ?_
 refine nl ?_
 refine wp_cond_split (hs.ev rfl) (fun h6 => ?_) (fun h6 => ?_)
 ·have hsh := ite_t hsh h6
  refine sr ?_
  refine av hs rfl rfl fun a hs => ?_
  refine av hs rfl rfl fun a hs => ?_
  refine nl ?_
  have hsh := oi hsh
  subst hsh
  have hw := hw.addE (e := SlA (α := Int) none 0 0 []) nil_sl
  refine wp_ret ?_
  refine then_ret ?_
  exact ret2 hs rfl (rv_tmp rfl) (rv_tmp rfl) (hw.ret ⟨none, 0, rfl, (hw.envAt 0 rfl)⟩)
 have hsh := ite_f hsh h6
 refine wp_skip ?_
 refine then_normal ?_
 refine sr ?_
 refine mv hs rfl rfl fun a hs => ?_
 refine av hs rfl rfl fun a hs => ?_
 refine av hs rfl rfl fun a hs => ?_
 refine nl ?_
 have hsh := oi hsh
 subst hsh
 refine wp_ret ?_
 exact ret2 hs rfl (rv_tmp rfl) (rv_tmp rfl) (hw.ret ⟨p2, k3, rfl, (hw.envAt 0 rfl)⟩)

abbrev ref17_Mul_rd (w0 : World) (X : List Nat) (r : ((List Int) × Int)) : (Nat → Prop) → World → Value → Prop := fun S w v => ∃ (p0_0 : Option Addr) (k0_0 : Nat), v = .tuple #[.slice p0_0 r.1.length k0_0, .int .i64 r.2] ∧ (SlA p0_0 r.1.length k0_0 r.1).p S w
set_option maxHeartbeats 4000000 in
set_option maxRecDepth 100000 in
theorem ref17_Mul_ok {w0 : World} {S0 : Nat → Prop} {p2 : Option Addr} {k3 : Nat} {p6 : Option Addr} {k7 : Nat} {a1 : (List Int)} {b5 : (List Int)} {r : ((List Int) × Int)} (hsh : ref17_Mul a1 b5 = some r) (hS : ∀ b, S0 b → b < w0.heap.size) (h4 : (SlA p2 a1.length k3 a1).p S0 w0) (h8 : (SlA p6 b5.length k7 b5).p S0 w0) : Calls Try.prog 47 #[.slice p2 a1.length k3, .slice p6 b5.length k7] w0 (Ret ([]) w0 S0 (ref17_Mul_rd w0 ([]) r)) := by
 refine calls_of_wp Try.func47 rfl ?_
 have hs := Sl.enter #[.slice p2 a1.length k3, .slice p6 b5.length k7] 20 [(0, .slice p2 a1.length k3), (1, .slice p6 b5.length k7)] rfl ⟨rfl, rfl, trivial⟩
 have hw := Wd.enter (E := []) hS (fun _ h => (by cases h))
 have hw := hw.addE h4
 have hw := hw.addE h8
 delta ref17_Mul at hsh
 refine sr ?_
 refine av hs rfl rfl fun a hs => ?_
 refine av hs rfl rfl fun a hs => ?_
 refine nl ?_
 refine wp_seq ?_
 refine sr ?_
 refine mv hs rfl rfl fun a hs => ?_
 obtain ⟨rv10, h9, hsh⟩ := bind_t hsh
 refine st_callR hs (ref17_Valid_ok h9 hw.bdom (hw.bE 1 rfl)) (do_call Try.call78 rfl) trivial rfl rfl ?_
 intro v14 Sv11 w a h12 h13 hs
 subst h13
 have hw := hw.callB h12
 refine sv hs (y_not rfl) rfl fun a hs => ?_
 refine mv hs rfl rfl fun a hs => ?_
 obtain ⟨c24, hc24, hsh⟩ := bind_t hsh
 refine wpl_join 4 (fun a w => ∃ (Sv25 : Nat → Prop), Sl 20 [(0, .slice p2 a1.length k3), (1, .slice p6 b5.length k7), (13, .bool c24)] a ∧ Wd ⟨w0, S0, []⟩ Sv25 [] [SlA p2 a1.length k3 a1, SlA p6 b5.length k7 b5] w) ?_ ?_
 ·rcases Bool.eq_false_or_eq_true (!rv10) with h23 | h23
  ·have hs := hs.fix 9 (.bool true) rfl (vb h23)
   have hsh := ite_t hc24 h23
   refine st_skip hs rfl rfl rfl rfl rfl fun a hs => ?_
   refine st_skip hs rfl rfl rfl rfl rfl fun a hs => ?_
   refine st_skip hs rfl rfl rfl rfl rfl fun a hs => ?_
   refine sv hs (y_pickT rfl rfl) rfl fun a hs => ?_
   refine wpList_nil ?_
   have hsh := oi hsh
   subst hsh
   refine then_normal ?_
   exact ⟨S0, (hs.wk rfl), (hw.ft [] [1, 0] (by decide) rfl rfl)⟩
  have hs := hs.fix 9 (.bool false) rfl (vb h23)
  have hsh := ite_f hc24 h23
  refine st_val hs (y_move rfl) ⟨_, rfl, rfl⟩ rfl rfl fun a hs => ?_
  obtain ⟨rv27, h26, hsh⟩ := bind_t hsh
  refine st_callR hs (ref17_Valid_ok h26 hw.bdom (hw.bE 0 rfl)) (do_call Try.call78 rfl) ⟨_, rfl, rfl⟩ rfl rfl ?_
  intro v31 Sv28 w a h29 h30 hs
  subst h30
  have hw := hw.callB h29
  refine st_val hs (y_not rfl) ⟨_, rfl, rfl⟩ rfl rfl fun a hs => ?_
  refine sv hs (y_pickF rfl rfl) rfl fun a hs => ?_
  refine wpList_nil ?_
  have hsh := oi hsh
  subst hsh
  refine then_normal ?_
  exact ⟨S0, (hs.wk rfl), (hw.ft [] [1, 0] (by decide) rfl rfl)⟩
 rintro a w ⟨Sv25, hs, hw⟩
 refine nl ?_
 refine wp_cond_split (hs.ev rfl) (fun h34 => ?_) (fun h34 => ?_)
 ·have hsh := ite_t hsh h34
  refine sr ?_
  refine av hs rfl rfl fun a hs => ?_
  refine av hs rfl rfl fun a hs => ?_
  refine nl ?_
  have hsh := oi hsh
  subst hsh
  have hw := hw.addE (e := SlA (α := Int) none 0 0 []) nil_sl
  refine wp_ret ?_
  refine then_ret ?_
  exact ret2 hs rfl (rv_tmp rfl) (rv_tmp rfl) (hw.ret ⟨none, 0, rfl, (hw.envAt 0 rfl)⟩)
 have hsh := ite_f hsh h34
 refine wp_skip ?_
 refine then_normal ?_
 refine sr ?_
 refine mv hs rfl rfl fun a hs => ?_
 refine mv hs rfl rfl fun a hs => ?_
 obtain ⟨rv36, h35, hsh⟩ := bind_t hsh
 refine st_callR hs (ref17_mul_ok h35 hw.dom (hw.envAt 0 rfl) (hw.envAt 1 rfl)) (do_call Try.call46 rfl) trivial rfl rfl ?_
 intro v43 Sv40 w a h41 h42 hs
 obtain ⟨p37, k38, rfl, h39⟩ := h42
 have hw := hw.call h41
 have hw := hw.addE (e := SlA p37 rv36.length k38 rv36) h39
 obtain ⟨rv46, h45, hsh⟩ := bind_t hsh
 refine st_callR hs (ref17_limited_ok h45 hw.dom (hw.envAt 0 rfl)) (do_call Try.call80 rfl) trivial rfl rfl ?_
 intro v53 Sv50 w a h51 h52 hs
 obtain ⟨p47, k48, rfl, h49⟩ := h52
 have hw := hw.call h51
 have hw := hw.addE (e := SlA p47 rv46.1.length k48 rv46.1) h49
 refine sv hs (y_extract rfl rfl) rfl fun a hs => ?_
 refine sv hs (y_extract rfl rfl) rfl fun a hs => ?_
 refine av hs rfl rfl fun a hs => ?_
 refine av hs rfl rfl fun a hs => ?_
 refine nl ?_
 have hsh := oi hsh
 subst hsh
 refine wp_ret ?_
 exact ret2 hs rfl (rv_tmp rfl) (rv_tmp rfl) (hw.ret ⟨p47, k48, rfl, (hw.envAt 0 rfl)⟩)

abbrev ref18_square_rd (w0 : World) (X : List Nat) (r : (List Int)) : (Nat → Prop) → World → Value → Prop := fun S w v => ∃ (p0_0 : Option Addr) (k0_0 : Nat), v = .slice p0_0 r.length k0_0 ∧ (SlA p0_0 r.length k0_0 r).p S w
set_option maxHeartbeats 4000000 in
set_option maxRecDepth 100000 in
theorem ref18_square_ok {w0 : World} {S0 : Nat → Prop} {n1 : Int} {r : (List Int)} (hsh : ref18_square n1 = some r) (hS : ∀ b, S0 b → b < w0.heap.size) : Calls Try.prog 88 #[.int .i64 n1] w0 (Ret ([]) w0 S0 (ref18_square_rd w0 ([]) r)) := by
 refine calls_of_wp Try.func88 rfl ?_
 have hs := Sl.enter #[.int .i64 n1] 22 [(0, .int .i64 n1)] rfl ⟨rfl, trivial⟩
 have hw := Wd.enter (E := []) hS (fun _ h => (by cases h))
 delta ref18_square at hsh
 refine sr ?_
 refine av hs rfl rfl fun a hs => ?_
 refine nl ?_
 refine sr ?_
 refine mv hs rfl rfl fun a hs => ?_
 refine mv hs rfl rfl fun a hs => ?_
 refine sv hs (y_neg rfl) rfl fun a hs => ?_
 refine sv hs (y_max rfl rfl) rfl fun a hs => ?_
 obtain ⟨rv3, h2, hsh⟩ := bind_t hsh
 refine st_callR hs (ref17_From_ok h2 hw.dom) (do_call Try.call98 rfl) trivial rfl rfl ?_
 intro v11 Sv8 w a h9 h10 hs
 obtain ⟨p4, k5, c7, rfl, h12, h6⟩ := h10
 have hw := hw.callN h9 h12
 have hw := hw.addE (e := RowA c7 rv3.1) h6
 refine mv hs rfl rfl fun a hs => ?_
 refine sv hs (y_extract rfl rfl) rfl fun a hs => ?_
 refine sv hs (y_extract rfl rfl) rfl fun a hs => ?_
 refine av hs rfl rfl fun a hs => ?_
 refine av hs rfl rfl fun a hs => ?_
 refine nl ?_
 refine sr ?_
 refine mv hs rfl rfl fun a hs => ?_
 refine mv hs rfl rfl fun a hs => ?_
 obtain ⟨rv14, h13, hsh⟩ := bind_t hsh
 obtain ⟨Sv18, hw⟩ := w_share (α := Int) hw 0 rfl 0 rfl
 refine st_callR hs (ref17_Mul_ok h13 hw.dom (hw.envAt 0 rfl) (hw.envAt 0 rfl)) (do_call Try.call47 rfl) trivial rfl rfl ?_
 intro v22 Sv19 w a h20 h21 hs
 obtain ⟨p15, k16, rfl, h17⟩ := h21
 have hw := hw.call h20
 have hw := hw.addE (e := SlA p15 rv14.1.length k16 rv14.1) h17
 refine mv hs rfl rfl fun a hs => ?_
 refine sv hs (y_extract rfl rfl) rfl fun a hs => ?_
 refine sv hs (y_extract rfl rfl) rfl fun a hs => ?_
 refine av hs rfl rfl fun a hs => ?_
 refine av hs rfl rfl fun a hs => ?_
 refine nl ?_
 refine sr ?_
 refine mv hs rfl rfl fun a hs => ?_
 refine av hs rfl rfl fun a hs => ?_
 refine nl ?_
 have hsh := oi hsh
 subst hsh
 refine wp_ret ?_
 exact ret1 hs rfl (rv_tmp rfl) (hw.ret ⟨p15, k16, rfl, (hw.envAt 0 rfl)⟩)

abbrev ref17_Add_rd (w0 : World) (X : List Nat) (r : ((List Int) × Int)) : (Nat → Prop) → World → Value → Prop := fun S w v => ∃ (p0_0 : Option Addr) (k0_0 : Nat), v = .tuple #[.slice p0_0 r.1.length k0_0, .int .i64 r.2] ∧ (SlA p0_0 r.1.length k0_0 r.1).p S w
set_option maxHeartbeats 4000000 in
set_option maxRecDepth 100000 in
theorem ref17_Add_ok {w0 : World} {S0 : Nat → Prop} {p2 : Option Addr} {k3 : Nat} {p6 : Option Addr} {k7 : Nat} {a1 : (List Int)} {b5 : (List Int)} {r : ((List Int) × Int)} (hsh : ref17_Add a1 b5 = some r) (hS : ∀ b, S0 b → b < w0.heap.size) (h4 : (SlA p2 a1.length k3 a1).p S0 w0) (h8 : (SlA p6 b5.length k7 b5).p S0 w0) : Calls Try.prog 99 #[.slice p2 a1.length k3, .slice p6 b5.length k7] w0 (Ret ([]) w0 S0 (ref17_Add_rd w0 ([]) r)) := by
 refine calls_of_wp Try.func99 rfl ?_
 have hs := Sl.enter #[.slice p2 a1.length k3, .slice p6 b5.length k7] 64 [(0, .slice p2 a1.length k3), (1, .slice p6 b5.length k7)] rfl ⟨rfl, rfl, trivial⟩
 have hw := Wd.enter (E := []) hS (fun _ h => (by cases h))
 have hw := hw.addE h4
 have hw := hw.addE h8
 delta ref17_Add at hsh
 refine sr ?_
 refine av hs rfl rfl fun a hs => ?_
 refine av hs rfl rfl fun a hs => ?_
 refine nl ?_
 refine wp_seq ?_
 refine sr ?_
 refine mv hs rfl rfl fun a hs => ?_
 obtain ⟨rv10, h9, hsh⟩ := bind_t hsh
 refine st_callR hs (ref17_Valid_ok h9 hw.bdom (hw.bE 1 rfl)) (do_call Try.call78 rfl) trivial rfl rfl ?_
 intro v14 Sv11 w a h12 h13 hs
 subst h13
 have hw := hw.callB h12
 refine sv hs (y_not rfl) rfl fun a hs => ?_
 refine mv hs rfl rfl fun a hs => ?_
 obtain ⟨c24, hc24, hsh⟩ := bind_t hsh
 refine wpl_join 4 (fun a w => ∃ (Sv25 : Nat → Prop), Sl 64 [(0, .slice p2 a1.length k3), (1, .slice p6 b5.length k7), (16, .bool c24)] a ∧ Wd ⟨w0, S0, []⟩ Sv25 [] [SlA p2 a1.length k3 a1, SlA p6 b5.length k7 b5] w) ?_ ?_
 ·rcases Bool.eq_false_or_eq_true (!rv10) with h23 | h23
  ·have hs := hs.fix 12 (.bool true) rfl (vb h23)
   have hsh := ite_t hc24 h23
   refine st_skip hs rfl rfl rfl rfl rfl fun a hs => ?_
   refine st_skip hs rfl rfl rfl rfl rfl fun a hs => ?_
   refine st_skip hs rfl rfl rfl rfl rfl fun a hs => ?_
   refine sv hs (y_pickT rfl rfl) rfl fun a hs => ?_
   refine wpList_nil ?_
   have hsh := oi hsh
   subst hsh
   refine then_normal ?_
   exact ⟨S0, (hs.wk rfl), (hw.ft [] [1, 0] (by decide) rfl rfl)⟩
  have hs := hs.fix 12 (.bool false) rfl (vb h23)
  have hsh := ite_f hc24 h23
  refine st_val hs (y_move rfl) ⟨_, rfl, rfl⟩ rfl rfl fun a hs => ?_
  obtain ⟨rv27, h26, hsh⟩ := bind_t hsh
  refine st_callR hs (ref17_Valid_ok h26 hw.bdom (hw.bE 0 rfl)) (do_call Try.call78 rfl) ⟨_, rfl, rfl⟩ rfl rfl ?_
  intro v31 Sv28 w a h29 h30 hs
  subst h30
  have hw := hw.callB h29
  refine st_val hs (y_not rfl) ⟨_, rfl, rfl⟩ rfl rfl fun a hs => ?_
  refine sv hs (y_pickF rfl rfl) rfl fun a hs => ?_
  refine wpList_nil ?_
  have hsh := oi hsh
  subst hsh
  refine then_normal ?_
  exact ⟨S0, (hs.wk rfl), (hw.ft [] [1, 0] (by decide) rfl rfl)⟩
 rintro a w ⟨Sv25, hs, hw⟩
 refine nl ?_
 refine wp_cond_split (hs.ev rfl) (fun h34 => ?_) (fun h34 => ?_)
 ·have hsh := ite_t hsh h34
  refine sr ?_
  refine av hs rfl rfl fun a hs => ?_
  refine av hs rfl rfl fun a hs => ?_
  refine nl ?_
  have hsh := oi hsh
  subst hsh
  have hw := hw.addE (e := SlA (α := Int) none 0 0 []) nil_sl
  refine wp_ret ?_
  refine then_ret ?_
  exact ret2 hs rfl (rv_tmp rfl) (rv_tmp rfl) (hw.ret ⟨none, 0, rfl, (hw.envAt 0 rfl)⟩)
 have hsh := ite_f hsh h34
 refine wp_skip ?_
 refine then_normal ?_
 refine sr ?_
 refine av hs rfl rfl fun a hs => ?_
 refine nl ?_
 refine sr ?_
 refine av hs rfl rfl fun a hs => ?_
 refine nl ?_
 refine wp_seq ?_
 refine sr ?_
 refine av hs rfl rfl fun a hs => ?_
 refine nl ?_
 obtain ⟨e203, h350, hsh⟩ := bind_t hsh
 refine wp_join (fun a w => ∃ (c204 : List Value) (p205 : Option Addr) (k206 : Nat) (Sv207 : Nat → Prop), Sl 64 [(6, .slice p205 e203.length k206)] a ∧ Wd ⟨w0, S0, []⟩ Sv207 [.row p205 e203.length k206 c204 3 1] [RowA c204 e203] w) ?_ ?_
 ·refine wp_block ?_
  have hw := hw.nilRow Int 3
  refine wp_while (fun sv35 a w => ∃ (c144 : List Value) (p145 : Option Addr) (k146 : Nat) (Sv147 : Nat → Prop), Sl 64 [(0, .slice p2 a1.length k3), (1, .slice p6 b5.length k7), (6, .slice p145 sv35.1.length k146), (7, .int .i64 sv35.2.1), (8, .int .i64 sv35.2.2)] a ∧ Wd ⟨w0, S0, []⟩ Sv147 [.row p145 sv35.1.length k146 c144 3 1] [SlA p2 a1.length k3 a1, SlA p6 b5.length k7 b5, RowA c144 sv35.1] w) (([] : List Int), 0, 0) h350 ⟨[], none, 0, Sv25, (hs.wk rfl), (hw.ft [0] [1, 2, 0] (by decide) rfl rfl)⟩ ?_
  clear h350
  repeat clear hsh
  rintro sv35 a w tv201 ⟨c144, p145, k146, Sv147, hs, hw⟩ hsh hd200
  delta ref17_Add_l1 at hsh
  refine wp_seq ?_
  refine sr ?_
  refine mv hs rfl rfl fun a hs => ?_
  refine mv hs rfl rfl fun a hs => ?_
  refine sv hs (y_len Try.runUnderlying29 rfl) rfl fun a hs => ?_
  refine sv hs (y_lss rfl rfl) rfl fun a hs => ?_
  refine mv hs rfl rfl fun a hs => ?_
  refine wpl_join 5 (fun a w1 => w = w1 ∧ Sl 64 [(0, .slice p2 a1.length k3), (1, .slice p6 b5.length k7), (6, .slice p145 sv35.1.length k146), (7, .int .i64 sv35.2.1), (8, .int .i64 sv35.2.2), (26, .bool ((decide (sv35.2.2 < (a1.length : Int))) || (decide (sv35.2.2 < (b5.length : Int)))))] a) ?_ ?_
  ·rcases Bool.eq_false_or_eq_true (decide (sv35.2.2 < (a1.length : Int))) with h208 | h208
   ·have hs := hs.fix 21 (.bool true) rfl (vb h208)
    refine st_skip hs rfl rfl rfl rfl rfl fun a hs => ?_
    refine st_skip hs rfl rfl rfl rfl rfl fun a hs => ?_
    refine st_skip hs rfl rfl rfl rfl rfl fun a hs => ?_
    refine st_skip hs rfl rfl rfl rfl rfl fun a hs => ?_
    refine sv hs (y_pickT rfl rfl) rfl fun a hs => ?_
    refine nl ?_
    exact ⟨rfl, (hs.fix 26 (.bool ((decide (sv35.2.2 < (a1.length : Int))) || (decide (sv35.2.2 < (b5.length : Int))))) rfl (or_t h208)).weaken _ ⟨rfl, rfl, rfl, rfl, rfl, rfl, trivial⟩⟩
   have hs := hs.fix 21 (.bool false) rfl (vb h208)
   refine st_val hs (y_move rfl) ⟨_, rfl, rfl⟩ rfl rfl fun a hs => ?_
   refine st_val hs (y_move rfl) ⟨_, rfl, rfl⟩ rfl rfl fun a hs => ?_
   refine st_val hs (y_len Try.runUnderlying29 rfl) ⟨_, rfl, rfl⟩ rfl rfl fun a hs => ?_
   refine st_val hs (y_lss rfl rfl) ⟨_, rfl, rfl⟩ rfl rfl fun a hs => ?_
   refine sv hs (y_pickF rfl rfl) rfl fun a hs => ?_
   refine nl ?_
   exact ⟨rfl, (hs.fix 26 (.bool ((decide (sv35.2.2 < (a1.length : Int))) || (decide (sv35.2.2 < (b5.length : Int))))) rfl (or_f h208)).weaken _ ⟨rfl, rfl, rfl, rfl, rfl, rfl, trivial⟩⟩
  rintro a w1 ⟨h338, hs⟩
  subst h338
  refine mv hs rfl rfl fun a hs => ?_
  refine wpl_join 3 (fun a w1 => w = w1 ∧ Sl 64 [(0, .slice p2 a1.length k3), (1, .slice p6 b5.length k7), (6, .slice p145 sv35.1.length k146), (7, .int .i64 sv35.2.1), (8, .int .i64 sv35.2.2), (30, .bool (((decide (sv35.2.2 < (a1.length : Int))) || (decide (sv35.2.2 < (b5.length : Int)))) || (decide (0 < sv35.2.1))))] a) ?_ ?_
  ·rcases Bool.eq_false_or_eq_true ((decide (sv35.2.2 < (a1.length : Int))) || (decide (sv35.2.2 < (b5.length : Int)))) with h209 | h209
   ·have hs := hs.fix 27 (.bool true) rfl (vb h209)
    refine st_skip hs rfl rfl rfl rfl rfl fun a hs => ?_
    refine st_skip hs rfl rfl rfl rfl rfl fun a hs => ?_
    refine sv hs (y_pickT rfl rfl) rfl fun a hs => ?_
    refine nl ?_
    exact ⟨rfl, (hs.fix 30 (.bool (((decide (sv35.2.2 < (a1.length : Int))) || (decide (sv35.2.2 < (b5.length : Int)))) || (decide (0 < sv35.2.1)))) rfl (or_t h209)).weaken _ ⟨rfl, rfl, rfl, rfl, rfl, rfl, trivial⟩⟩
   have hs := hs.fix 27 (.bool false) rfl (vb h209)
   refine st_val hs (y_move rfl) ⟨_, rfl, rfl⟩ rfl rfl fun a hs => ?_
   refine st_val hs (y_gtr rfl rfl) ⟨_, rfl, rfl⟩ rfl rfl fun a hs => ?_
   refine sv hs (y_pickF rfl rfl) rfl fun a hs => ?_
   refine nl ?_
   exact ⟨rfl, (hs.fix 30 (.bool (((decide (sv35.2.2 < (a1.length : Int))) || (decide (sv35.2.2 < (b5.length : Int)))) || (decide (0 < sv35.2.1)))) rfl (or_f h209)).weaken _ ⟨rfl, rfl, rfl, rfl, rfl, rfl, trivial⟩⟩
  rintro a w1 ⟨h337, hs⟩
  subst h337
  refine nl ?_
  refine wp_cond_split (hs.ev rfl) (fun h211 => ?_) (fun h211 => ?_)
  ·have hsh := ite_t hsh h211
   refine wp_skip ?_
   refine then_normal ?_
   refine wp_seq ?_
   refine wp_block ?_
   refine wp_seq ?_
   refine sr ?_
   refine mv hs rfl rfl fun a hs => ?_
   refine mv hs rfl rfl fun a hs => ?_
   refine sv hs (y_len Try.runUnderlying29 rfl) rfl fun a hs => ?_
   refine sv hs (y_lss rfl rfl) rfl fun a hs => ?_
   refine nl ?_
   refine wp_join (fun a w => ∃ (carry274 : Int) (Sv273 : Nat → Prop), ref17_Add_j1 b5 sv35 carry274 = some tv201 ∧ Sl 64 [(0, .slice p2 a1.length k3), (1, .slice p6 b5.length k7), (6, .slice p145 sv35.1.length k146), (7, .int .i64 carry274), (8, .int .i64 sv35.2.2)] a ∧ Wd ⟨w0, S0, []⟩ Sv273 [.row p145 sv35.1.length k146 c144 3 1] [SlA p2 a1.length k3 a1, SlA p6 b5.length k7 b5, RowA c144 sv35.1] w) ?_ ?_
   ·refine wp_cond_split (hs.ev rfl) (fun h320 => ?_) (fun h320 => ?_)
    ·have hsh := ite_t hsh h320
     refine wp_region_lit ?_
     refine mv hs rfl rfl fun a hs => ?_
     refine mv hs rfl rfl fun a hs => ?_
     refine mv hs rfl rfl fun a hs => ?_
     obtain ⟨x323, h321, hsh⟩ := bind_t hsh
     obtain ⟨b329, o330, q327, c328, h331, h324, h325, h326, h322⟩ := hw.elemV 0 rfl h321
     have hsv332 := hs
     have hwv333 := hw
     subst h331
     have hs := hsv332
     have hw := hwv333
     obtain ⟨_, rfl, rfl⟩ := h322
     have hw := hw.addE h326
     refine sv hs (y_indexAt Try.runUnderlying29 Try.sizeOf3 rfl rfl h324.1 h324.2 h325) rfl fun a hs => ?_
     refine sv hs (y_loadE1 (j := 0) (hw.ceAt 0 rfl) rfl Try.isAgg3 rfl) rfl fun a hs => ?_
     refine sv hs (y_add rfl rfl) rfl fun a hs => ?_
     obtain ⟨carry335, h334, hsh⟩ := bind_t hsh
     refine sv hs (y_assignI rfl h334) rfl fun a hs => ?_
     refine nl ?_
     exact ⟨carry335, Sv147, hsh, (hs.wk rfl), (hw.ft [0] [1, 2, 3] (by decide) rfl rfl)⟩
    have hsh := ite_f hsh h320
    refine wp_skip ?_
    refine then_normal ?_
    exact ⟨sv35.2.1, Sv147, hsh, (hs.wk rfl), (hw.ft [0] [0, 1, 2] (by decide) rfl rfl)⟩
   rintro a w ⟨carry274, Sv273, hsh, hs, hw⟩
   delta ref17_Add_j1 at hsh
   refine then_normal ?_
   refine wp_seq ?_
   refine sr ?_
   refine mv hs rfl rfl fun a hs => ?_
   refine mv hs rfl rfl fun a hs => ?_
   refine sv hs (y_len Try.runUnderlying29 rfl) rfl fun a hs => ?_
   refine sv hs (y_lss rfl rfl) rfl fun a hs => ?_
   refine nl ?_
   refine wp_join (fun a w => ∃ (carry292 : Int) (Sv291 : Nat → Prop), ref17_Add_j2 sv35 carry292 = some tv201 ∧ Sl 64 [(0, .slice p2 a1.length k3), (1, .slice p6 b5.length k7), (6, .slice p145 sv35.1.length k146), (7, .int .i64 carry292), (8, .int .i64 sv35.2.2)] a ∧ Wd ⟨w0, S0, []⟩ Sv291 [.row p145 sv35.1.length k146 c144 3 1] [SlA p2 a1.length k3 a1, SlA p6 b5.length k7 b5, RowA c144 sv35.1] w) ?_ ?_
   ·refine wp_cond_split (hs.ev rfl) (fun h304 => ?_) (fun h304 => ?_)
    ·have hsh := ite_t hsh h304
     refine wp_region_lit ?_
     refine mv hs rfl rfl fun a hs => ?_
     refine mv hs rfl rfl fun a hs => ?_
     refine mv hs rfl rfl fun a hs => ?_
     obtain ⟨x307, h305, hsh⟩ := bind_t hsh
     obtain ⟨b313, o314, q311, c312, h315, h308, h309, h310, h306⟩ := hw.elemV 1 rfl h305
     have hsv316 := hs
     have hwv317 := hw
     subst h315
     have hs := hsv316
     have hw := hwv317
     obtain ⟨_, rfl, rfl⟩ := h306
     have hw := hw.addE h310
     refine sv hs (y_indexAt Try.runUnderlying29 Try.sizeOf3 rfl rfl h308.1 h308.2 h309) rfl fun a hs => ?_
     refine sv hs (y_loadE1 (j := 0) (hw.ceAt 0 rfl) rfl Try.isAgg3 rfl) rfl fun a hs => ?_
     refine sv hs (y_add rfl rfl) rfl fun a hs => ?_
     obtain ⟨carry319, h318, hsh⟩ := bind_t hsh
     refine sv hs (y_assignI rfl h318) rfl fun a hs => ?_
     refine nl ?_
     exact ⟨carry319, Sv273, hsh, (hs.wk rfl), (hw.ft [0] [1, 2, 3] (by decide) rfl rfl)⟩
    have hsh := ite_f hsh h304
    refine wp_skip ?_
    refine then_normal ?_
    exact ⟨carry274, Sv273, hsh, (hs.wk rfl), (hw.ft [0] [0, 1, 2] (by decide) rfl rfl)⟩
   rintro a w ⟨carry292, Sv291, hsh, hs, hw⟩
   delta ref17_Add_j2 at hsh
   refine then_normal ?_
   refine sr ?_
   refine mv hs rfl rfl fun a hs => ?_
   refine mv hs rfl rfl fun a hs => ?_
   refine sv hs (y_rem rfl rfl (by decide)) rfl fun a hs => ?_
   refine w_litSlice (α := Int) (vs := [.int .i64 (Int.tmod carry292 1073741824)]) (cs := [.int .i64 (Int.tmod carry292 1073741824)]) (xs := ([(Int.tmod carry292 1073741824)] : List Int)) hs hw El29 rfl rfl rfl rfl rfl rfl ⟨⟨_, rfl, rfl⟩, rfl⟩ rfl trivial rfl fun b294 a w hs hw => ?_
   obtain ⟨l296, h295, hsh⟩ := bind_t hsh
   refine w_appendR (α := Int) hs hw El29 1 rfl rfl rfl 3 rfl 0 rfl 0 rfl h295 rfl trivial ?_
   intro p297 k298 c299 a w hs hw
   refine av hs rfl rfl fun a hs => ?_
   refine nl ?_
   refine wp_region_lit ?_
   refine mv hs rfl rfl fun a hs => ?_
   refine sv hs (y_quo rfl rfl (by decide)) rfl fun a hs => ?_
   obtain ⟨carry301, h300, hsh⟩ := bind_t hsh
   refine sv hs (y_assignI rfl h300) rfl fun a hs => ?_
   refine wpList_nil ?_
   refine blk_normal ?_
   refine then_normal ?_
   refine wp_region_lit ?_
   refine mv hs rfl rfl fun a hs => ?_
   refine sv hs (y_add rfl rfl) rfl fun a hs => ?_
   obtain ⟨i303, h302, hsh⟩ := bind_t hsh
   refine sv hs (y_assignI rfl h302) rfl fun a hs => ?_
   refine nl ?_
   exact ⟨_, (Option.some.inj hsh).symm, c299, p297, k298, Sv291, (hs.wk rfl), (hw.ft [1] [2, 3, 0] (by decide) rfl rfl)⟩
  have hsh := ite_f hsh h211
  refine wp_exit ?_
  refine then_exit ?_
  refine then_exit ?_
  refine blk_exit ?_
  have hsh := oi hsh
  subst hsh
  have h336 := hd200 _ rfl
  subst h336
  refine then_normal ?_
  exact ⟨c144, p145, k146, Sv147, (hs.wk rfl), (hw.ft [0] [2] (by decide) rfl rfl)⟩
 rintro a w ⟨c204, p205, k206, Sv207, hs, hw⟩
 refine then_normal ?_
 refine sr ?_
 refine mv hs rfl rfl fun a hs => ?_
 obtain ⟨rv340, h339, hsh⟩ := bind_t hsh
 obtain ⟨Sv344, hw⟩ := w_share (α := Int) hw 0 rfl 0 rfl
 refine st_callR hs (ref17_limited_ok h339 hw.dom (hw.envAt 0 rfl)) (do_call Try.call80 rfl) trivial rfl rfl ?_
 intro v348 Sv345 w a h346 h347 hs
 obtain ⟨p341, k342, rfl, h343⟩ := h347
 have hw := hw.call h346
 have hw := hw.addE (e := SlA p341 rv340.1.length k342 rv340.1) h343
 refine sv hs (y_extract rfl rfl) rfl fun a hs => ?_
 refine sv hs (y_extract rfl rfl) rfl fun a hs => ?_
 refine av hs rfl rfl fun a hs => ?_
 refine av hs rfl rfl fun a hs => ?_
 refine nl ?_
 have hsh := oi hsh
 subst hsh
 refine wp_ret ?_
 exact ret2 hs rfl (rv_tmp rfl) (rv_tmp rfl) (hw.ret ⟨p341, k342, rfl, (hw.envAt 0 rfl)⟩)

abbrev ref18_magnitude_rd (w0 : World) (X : List Nat) (r : (List Int)) : (Nat → Prop) → World → Value → Prop := fun S w v => ∃ (p0_0 : Option Addr) (k0_0 : Nat), v = .slice p0_0 r.length k0_0 ∧ (SlA p0_0 r.length k0_0 r).p S w
set_option maxHeartbeats 4000000 in
set_option maxRecDepth 100000 in
theorem ref18_magnitude_ok {w0 : World} {S0 : Nat → Prop} {a1 : (Arr3 Int)} {num2 : Int} {den3 : Int} {r : (List Int)} (hsh : ref18_magnitude a1 num2 den3 = some r) (hS : ∀ b, S0 b → b < w0.heap.size) : Calls Try.prog 89 #[.agg #[.int .i64 a1.e0, .int .i64 a1.e1, .int .i64 a1.e2], .int .i64 num2, .int .i64 den3] w0 (Ret ([]) w0 S0 (ref18_magnitude_rd w0 ([]) r)) := by
 refine calls_of_wp Try.func89 rfl ?_
 have hs := Sl.enter #[.agg #[.int .i64 a1.e0, .int .i64 a1.e1, .int .i64 a1.e2], .int .i64 num2, .int .i64 den3] 35 [(0, .agg #[.int .i64 a1.e0, .int .i64 a1.e1, .int .i64 a1.e2]), (1, .int .i64 num2), (2, .int .i64 den3)] rfl ⟨rfl, rfl, rfl, trivial⟩
 have hw := Wd.enter (E := []) hS (fun _ h => (by cases h))
 delta ref18_magnitude at hsh
 refine sr ?_
 refine w_box (cs := [.int .i64 a1.e0, .int .i64 a1.e1, .int .i64 a1.e2]) hs hw rfl rfl rfl trivial ?_
 intro b4 a w hs hw
 refine av hs rfl rfl fun a hs => ?_
 refine nl ?_
 refine wp_seq ?_
 obtain ⟨rv6, h5, hsh⟩ := bind_t hsh
 obtain ⟨rv11, h10, hsh⟩ := bind_t hsh
 obtain ⟨rv16, h15, hsh⟩ := bind_t hsh
 refine wp_only (fun a w => ∃ (Sv20 : Nat → Prop) (k18 : Nat) (p17 : Option Addr), Sl 35 [(7, .slice p17 rv16.1.length k18)] a ∧ Wd ⟨w0, S0, []⟩ Sv20 [] [SlA p17 rv16.1.length k18 rv16.1] w) ?_ ?_
 ·refine h_b (C := Cls [.box b4 [.int .i64 a1.e0, .int .i64 a1.e1, .int .i64 a1.e2] 23] []) (by kernel_rfl) rfl (hw.drew.cs [0] [] rfl rfl) fun hC => ?_
  have hw := hw.drew
  refine gv hs 0 rfl rfl hC (fun w hC => y_indexAtA (q := 0) Try.runUnderlying23 Try.sizeOf3 rfl rfl (by decide) (by decide) rfl) fun a hs => ?_
  refine gv hs 1 rfl rfl hC (fun w hC => y_loadB1 (hC.ownAt 0 rfl) rfl Try.isAgg3 rfl) fun a hs => ?_
  refine gm hs 2 rfl rfl rfl hC fun a hs => ?_
  refine gv hs 3 rfl rfl hC (fun w hC => y_mul rfl rfl) fun a hs => ?_
  refine gm hs 4 rfl rfl rfl hC fun a hs => ?_
  refine gv hs 5 rfl rfl hC (fun w hC => y_mul rfl rfl) fun a hs => ?_
  refine gv hs 6 rfl rfl hC (fun w hC => y_indexAtA (q := 2) Try.runUnderlying23 Try.sizeOf3 rfl rfl (by decide) (by decide) rfl) fun a hs => ?_
  refine gv hs 7 rfl rfl hC (fun w hC => y_loadB1 (hC.ownAt 0 rfl) rfl Try.isAgg3 rfl) fun a hs => ?_
  refine gm hs 8 rfl rfl rfl hC fun a hs => ?_
  refine gv hs 9 rfl rfl hC (fun w hC => y_mul rfl rfl) fun a hs => ?_
  refine gm hs 10 rfl rfl rfl hC fun a hs => ?_
  refine gv hs 11 rfl rfl hC (fun w hC => y_mul rfl rfl) fun a hs => ?_
  refine gv hs 12 rfl rfl hC (fun w hC => y_sub rfl rfl) fun a hs => ?_
  refine gv hs 14 rfl rfl hC (fun w hC => y_indexAtA (q := 1) Try.runUnderlying23 Try.sizeOf3 rfl rfl (by decide) (by decide) rfl) fun a hs => ?_
  refine gv hs 15 rfl rfl hC (fun w hC => y_loadB1 (hC.ownAt 0 rfl) rfl Try.isAgg3 rfl) fun a hs => ?_
  refine gm hs 16 rfl rfl rfl hC fun a hs => ?_
  refine gv hs 17 rfl rfl hC (fun w hC => y_mul rfl rfl) fun a hs => ?_
  refine gm hs 18 rfl rfl rfl hC fun a hs => ?_
  refine gv hs 19 rfl rfl hC (fun w hC => y_mul rfl rfl) fun a hs => ?_
  refine ho 13 rfl ?_
  refine st_callR hs (ref18_square_ok h5 hw.dom) (do_call Try.call88 rfl) trivial rfl rfl ?_
  intro v24 Sv21 w a h22 h23 hs
  obtain ⟨p7, k8, rfl, h9⟩ := h23
  have hw := hw.call h22
  have hw := hw.addE (e := SlA p7 rv6.length k8 rv6) h9
  refine h_nx (hw.cs [0] [] rfl rfl) fun hC => ?_
  refine ho 20 rfl ?_
  refine st_callR hs (ref18_square_ok h10 hw.dom) (do_call Try.call88 rfl) trivial rfl rfl ?_
  intro v29 Sv26 w a h27 h28 hs
  obtain ⟨p12, k13, rfl, h14⟩ := h28
  have hw := hw.call h27
  have hw := hw.addE (e := SlA p12 rv11.length k13 rv11) h14
  refine h_nx (hw.cs [0] [] rfl rfl) fun hC => ?_
  refine ho 21 rfl ?_
  refine st_callR hs (ref17_Add_ok h15 hw.dom (hw.envAt 1 rfl) (hw.envAt 0 rfl)) (do_call Try.call99 rfl) trivial rfl rfl ?_
  intro v34 Sv31 w a h32 h33 hs
  obtain ⟨p17, k18, rfl, h19⟩ := h33
  have hw := hw.call h32
  have hw := hw.addE (e := SlA p17 rv16.1.length k18 rv16.1) h19
  refine h_nx (hw.cs [0] [] rfl rfl) fun hC => ?_
  refine gm hs 22 rfl rfl rfl hC fun a hs => ?_
  refine gv hs 23 rfl rfl hC (fun w hC => y_extract rfl rfl) fun a hs => ?_
  refine gv hs 24 rfl rfl hC (fun w hC => y_extract rfl rfl) fun a hs => ?_
  refine gv hs 25 rfl rfl hC (fun w hC => y_assign rfl) fun a hs => ?_
  refine gv hs 26 rfl rfl hC (fun w hC => y_assign rfl) fun a hs => ?_
  refine h_done (by kernel_rfl) ?_
  exact ⟨Sv31, k18, p17, (hs.wk rfl), (hw.ft [] [0] (by decide) rfl rfl)⟩
 rintro a w ⟨Sv20, k18, p17, hs, hw⟩
 refine then_normal ?_
 refine sr ?_
 refine mv hs rfl rfl fun a hs => ?_
 refine av hs rfl rfl fun a hs => ?_
 refine nl ?_
 have hsh := oi hsh
 subst hsh
 refine wp_ret ?_
 exact ret1 hs rfl (rv_tmp rfl) (hw.ret ⟨p17, k18, rfl, (hw.envAt 0 rfl)⟩)

abbrev ref18_gain_rd (w0 : World) (X : List Nat) (r : Fraction) : (Nat → Prop) → World → Value → Prop := fun S w v => ∃ (p0_0 : Option Addr) (k0_0 : Nat) (p0_1 : Option Addr) (k0_1 : Nat), v = .agg #[.slice p0_0 r.Num.length k0_0, .slice p0_1 r.Den.length k0_1] ∧ (SlA p0_0 r.Num.length k0_0 r.Num).p S w ∧ (SlA p0_1 r.Den.length k0_1 r.Den).p S w
set_option maxHeartbeats 4000000 in
set_option maxRecDepth 100000 in
theorem ref18_gain_ok {w0 : World} {S0 : Nat → Prop} {p2 : Option Addr} {k3 : Nat} {s1 : Stage} {num5 : Int} {den6 : Int} {r : Fraction} (hsh : ref18_gain s1 num5 den6 = some r) (hS : ∀ b, S0 b → b < w0.heap.size) (h4 : (SlA p2 s1.Taps.length k3 s1.Taps).p S0 w0) : Calls Try.prog 57 #[.agg #[.int .i64 s1.Kind, .int .i64 s1.Num.e0, .int .i64 s1.Num.e1, .int .i64 s1.Num.e2, .int .i64 s1.Den.e0, .int .i64 s1.Den.e1, .int .i64 s1.Den.e2, .slice p2 s1.Taps.length k3, .int .i64 s1.Factor, .int .i64 s1.Shift], .int .i64 num5, .int .i64 den6] w0 (Ret ([]) w0 S0 (ref18_gain_rd w0 ([]) r)) := by
 refine calls_of_wp Try.func57 rfl ?_
 have hs := Sl.enter #[.agg #[.int .i64 s1.Kind, .int .i64 s1.Num.e0, .int .i64 s1.Num.e1, .int .i64 s1.Num.e2, .int .i64 s1.Den.e0, .int .i64 s1.Den.e1, .int .i64 s1.Den.e2, .slice p2 s1.Taps.length k3, .int .i64 s1.Factor, .int .i64 s1.Shift], .int .i64 num5, .int .i64 den6] 43 [(0, .agg #[.int .i64 s1.Kind, .int .i64 s1.Num.e0, .int .i64 s1.Num.e1, .int .i64 s1.Num.e2, .int .i64 s1.Den.e0, .int .i64 s1.Den.e1, .int .i64 s1.Den.e2, .slice p2 s1.Taps.length k3, .int .i64 s1.Factor, .int .i64 s1.Shift]), (1, .int .i64 num5), (2, .int .i64 den6)] rfl ⟨rfl, rfl, rfl, trivial⟩
 have hw := Wd.enter (E := []) hS (fun _ h => (by cases h))
 have hw := hw.addE h4
 delta ref18_gain at hsh
 refine sr ?_
 refine w_box (cs := [.int .i64 s1.Kind, .int .i64 s1.Num.e0, .int .i64 s1.Num.e1, .int .i64 s1.Num.e2, .int .i64 s1.Den.e0, .int .i64 s1.Den.e1, .int .i64 s1.Den.e2, .slice p2 s1.Taps.length k3, .int .i64 s1.Factor, .int .i64 s1.Shift]) hs hw rfl rfl rfl trivial ?_
 intro b7 a w hs hw
 refine w_alloc (cs := [.slice none ([] : List Int).length 0, .slice none ([] : List Int).length 0]) hs hw Try.zeroValue31 rfl rfl trivial ?_
 intro b8 a w hs hw
 refine nl ?_
 refine wp_seq ?_
 refine sr ?_
 refine sv hs (y_fieldAddr (o' := 0) Try.runUnderlying26 rfl Try.sizeOf3 rfl rfl rfl) rfl fun a hs => ?_
 refine sv hs (y_loadB1 (hw.ownAt 1 rfl) rfl Try.isAgg3 rfl) rfl fun a hs => ?_
 refine nl ?_
 refine wp_block ?_
 refine sr ?_
 refine sv hs (y_eql rfl rfl) rfl fun a hs => ?_
 refine av hs rfl rfl fun a hs => ?_
 refine nl ?_
 refine wp_cond_split (hs.ev rfl) (fun h57 => ?_) (fun h57 => ?_)
 ·have hsh := ite_t hsh h57
  refine wp_seq ?_
  obtain ⟨rv59, h58, hsh⟩ := bind_t hsh
  obtain ⟨rv64, h63, hsh⟩ := bind_t hsh
  refine wp_only (fun a w => ∃ (Sv68 : Nat → Prop) (k61 : Nat) (k66 : Nat) (p60 : Option Addr) (p65 : Option Addr), Sl 43 [(6, .pointer (some ⟨b8, 0, none⟩))] a ∧ Wd ⟨w0, S0, []⟩ Sv68 [.box b8 [.slice p60 rv59.length k61, .slice p65 rv64.length k66] 31] [SlA p60 rv59.length k61 rv59, SlA p65 rv64.length k66 rv64] w) ?_ ?_
  ·refine h_b (C := Cls [.box b7 [.int .i64 s1.Kind, .int .i64 s1.Num.e0, .int .i64 s1.Num.e1, .int .i64 s1.Num.e2, .int .i64 s1.Den.e0, .int .i64 s1.Den.e1, .int .i64 s1.Den.e2, .slice p2 s1.Taps.length k3, .int .i64 s1.Factor, .int .i64 s1.Shift] 26] []) (by kernel_rfl) rfl (hw.drew.cs [1] [] rfl rfl) fun hC => ?_
   have hw := hw.drew
   refine gv hs 0 rfl rfl hC (fun w hC => y_fieldAddr (o' := 1) Try.runUnderlying26 rfl Try.sizeOf23 rfl rfl rfl) fun a hs => ?_
   refine gv hs 1 rfl rfl hC (fun w hC => y_indexAtA (q := 1) Try.runUnderlying23 Try.sizeOf3 rfl rfl (by decide) (by decide) rfl) fun a hs => ?_
   refine gv hs 2 rfl rfl hC (fun w hC => y_loadB1 (hC.ownAt 0 rfl) rfl Try.isAgg3 rfl) fun a hs => ?_
   refine gv hs 4 rfl rfl hC (fun w hC => y_fieldAddr (o' := 4) Try.runUnderlying26 rfl Try.sizeOf23 rfl rfl rfl) fun a hs => ?_
   refine gv hs 5 rfl rfl hC (fun w hC => y_indexAtA (q := 4) Try.runUnderlying23 Try.sizeOf3 rfl rfl (by decide) (by decide) rfl) fun a hs => ?_
   refine gv hs 6 rfl rfl hC (fun w hC => y_loadB1 (hC.ownAt 0 rfl) rfl Try.isAgg3 rfl) fun a hs => ?_
   refine ho 3 rfl ?_
   refine st_callR hs (ref18_square_ok h58 hw.dom) (do_call Try.call88 rfl) trivial rfl rfl ?_
   intro v72 Sv69 w a h70 h71 hs
   obtain ⟨p60, k61, rfl, h62⟩ := h71
   have hw := hw.call h70
   have hw := hw.addE (e := SlA p60 rv59.length k61 rv59) h62
   refine h_nx (hw.cs [1] [] rfl rfl) fun hC => ?_
   refine ho 7 rfl ?_
   refine st_callR hs (ref18_square_ok h63 hw.dom) (do_call Try.call88 rfl) trivial rfl rfl ?_
   intro v77 Sv74 w a h75 h76 hs
   obtain ⟨p65, k66, rfl, h67⟩ := h76
   have hw := hw.call h75
   have hw := hw.addE (e := SlA p65 rv64.length k66 rv64) h67
   refine h_nx (hw.cs [1] [] rfl rfl) fun hC => ?_
   refine gv hs 8 rfl rfl hC (fun w hC => y_build (vs := [(0, .slice p60 rv59.length k61), (1, .slice p65 rv64.length k66)]) Bld31 rfl rfl) fun a hs => ?_
   refine ho 9 rfl ?_
   refine w_store (m := 2) (cs' := [.slice p60 rv59.length k61, .slice p65 rv64.length k66]) hs hw 0 rfl rfl rfl Try.sizeOf31 rfl rfl rfl rfl trivial ?_
   intro a w hs hw
   refine h_nx (hw.cs [1] [] rfl rfl) fun hC => ?_
   refine h_done (by kernel_rfl) ?_
   exact ⟨Sv74, k61, k66, p60, p65, (hs.wk rfl), (hw.ft [0] [1, 0] (by decide) rfl rfl)⟩
  rintro a w ⟨Sv68, k61, k66, p60, p65, hs, hw⟩
  refine then_normal ?_
  have hsh := oi hsh
  subst hsh
  refine wp_ret ?_
  refine blk_ret ?_
  refine then_ret ?_
  exact ret1 hs rfl (rv_cell hw 0 rfl rfl Try.isAgg31 Try.sizeOf31 rfl) (hw.ret ⟨p60, k61, p65, k66, rfl, (hw.envAt 0 rfl), (hw.envAt 1 rfl)⟩)
 have hsh := ite_f hsh h57
 refine sr ?_
 refine sv hs (y_eql rfl rfl) rfl fun a hs => ?_
 refine av hs rfl rfl fun a hs => ?_
 refine nl ?_
 refine wp_cond_split (hs.ev rfl) (fun h91 => ?_) (fun h91 => ?_)
 ·have hsh := ite_t hsh h91
  refine wp_seq ?_
  obtain ⟨rv93, h92, hsh⟩ := bind_t hsh
  obtain ⟨rv98, h97, hsh⟩ := bind_t hsh
  refine wp_only (fun a w => ∃ (Sv102 : Nat → Prop) (k100 : Nat) (k95 : Nat) (p94 : Option Addr) (p99 : Option Addr), Sl 43 [(6, .pointer (some ⟨b8, 0, none⟩))] a ∧ Wd ⟨w0, S0, []⟩ Sv102 [.box b8 [.slice p94 rv93.length k95, .slice p99 rv98.length k100] 31] [SlA p94 rv93.length k95 rv93, SlA p99 rv98.length k100 rv98] w) ?_ ?_
  ·refine h_b (C := Cls [.box b7 [.int .i64 s1.Kind, .int .i64 s1.Num.e0, .int .i64 s1.Num.e1, .int .i64 s1.Num.e2, .int .i64 s1.Den.e0, .int .i64 s1.Den.e1, .int .i64 s1.Den.e2, .slice p2 s1.Taps.length k3, .int .i64 s1.Factor, .int .i64 s1.Shift] 26] []) (by kernel_rfl) rfl (hw.drew.cs [1] [] rfl rfl) fun hC => ?_
   have hw := hw.drew
   refine gv hs 0 rfl rfl hC (fun w hC => y_fieldAddr (o' := 1) Try.runUnderlying26 rfl Try.sizeOf23 rfl rfl rfl) fun a hs => ?_
   refine gv hs 1 rfl rfl hC (fun w hC => y_loadBA (hC.ownAt 0 rfl) rfl Try.isAgg23 Try.sizeOf23 rfl rfl) fun a hs => ?_
   refine gm hs 2 rfl rfl rfl hC fun a hs => ?_
   refine gm hs 3 rfl rfl rfl hC fun a hs => ?_
   refine gv hs 5 rfl rfl hC (fun w hC => y_fieldAddr (o' := 4) Try.runUnderlying26 rfl Try.sizeOf23 rfl rfl rfl) fun a hs => ?_
   refine gv hs 6 rfl rfl hC (fun w hC => y_loadBA (hC.ownAt 0 rfl) rfl Try.isAgg23 Try.sizeOf23 rfl rfl) fun a hs => ?_
   refine gm hs 7 rfl rfl rfl hC fun a hs => ?_
   refine gm hs 8 rfl rfl rfl hC fun a hs => ?_
   refine ho 4 rfl ?_
   refine st_callR hs (ref18_magnitude_ok h92 hw.dom) (do_call Try.call89 rfl) trivial rfl rfl ?_
   intro v106 Sv103 w a h104 h105 hs
   obtain ⟨p94, k95, rfl, h96⟩ := h105
   have hw := hw.call h104
   have hw := hw.addE (e := SlA p94 rv93.length k95 rv93) h96
   refine h_nx (hw.cs [1] [] rfl rfl) fun hC => ?_
   refine ho 9 rfl ?_
   refine st_callR hs (ref18_magnitude_ok h97 hw.dom) (do_call Try.call89 rfl) trivial rfl rfl ?_
   intro v111 Sv108 w a h109 h110 hs
   obtain ⟨p99, k100, rfl, h101⟩ := h110
   have hw := hw.call h109
   have hw := hw.addE (e := SlA p99 rv98.length k100 rv98) h101
   refine h_nx (hw.cs [1] [] rfl rfl) fun hC => ?_
   refine gv hs 10 rfl rfl hC (fun w hC => y_build (vs := [(0, .slice p94 rv93.length k95), (1, .slice p99 rv98.length k100)]) Bld31 rfl rfl) fun a hs => ?_
   refine ho 11 rfl ?_
   refine w_store (m := 2) (cs' := [.slice p94 rv93.length k95, .slice p99 rv98.length k100]) hs hw 0 rfl rfl rfl Try.sizeOf31 rfl rfl rfl rfl trivial ?_
   intro a w hs hw
   refine h_nx (hw.cs [1] [] rfl rfl) fun hC => ?_
   refine h_done (by kernel_rfl) ?_
   exact ⟨Sv108, k100, k95, p94, p99, (hs.wk rfl), (hw.ft [0] [1, 0] (by decide) rfl rfl)⟩
  rintro a w ⟨Sv102, k100, k95, p94, p99, hs, hw⟩
  refine then_normal ?_
  have hsh := oi hsh
  subst hsh
  refine wp_ret ?_
  refine blk_ret ?_
  refine then_ret ?_
  exact ret1 hs rfl (rv_cell hw 0 rfl rfl Try.isAgg31 Try.sizeOf31 rfl) (hw.ret ⟨p94, k95, p99, k100, rfl, (hw.envAt 0 rfl), (hw.envAt 1 rfl)⟩)
 have hsh := ite_f hsh h91
 refine wp_skip ?_
 refine blk_normal ?_
 refine then_normal ?_
 refine wp_seq ?_
 obtain ⟨rv114, h113, hsh⟩ := bind_t hsh
 obtain ⟨rv116, h115, hsh⟩ := bind_t hsh
 obtain ⟨shl121, h120, hsh⟩ := bind_t hsh
 obtain ⟨rv123, h122, hsh⟩ := bind_t hsh
 refine wp_only (fun a w => ∃ (Sv127 : Nat → Prop) (k118 : Nat) (k125 : Nat) (p117 : Option Addr) (p124 : Option Addr), Sl 43 [(6, .pointer (some ⟨b8, 0, none⟩))] a ∧ Wd ⟨w0, S0, []⟩ Sv127 [.box b8 [.slice p117 rv116.length k118, .slice p124 rv123.length k125] 31] [SlA p117 rv116.length k118 rv116, SlA p124 rv123.length k125 rv123] w) ?_ ?_
 ·refine h_b (C := Cls [.box b7 [.int .i64 s1.Kind, .int .i64 s1.Num.e0, .int .i64 s1.Num.e1, .int .i64 s1.Num.e2, .int .i64 s1.Den.e0, .int .i64 s1.Den.e1, .int .i64 s1.Den.e2, .slice p2 s1.Taps.length k3, .int .i64 s1.Factor, .int .i64 s1.Shift] 26] []) (by kernel_rfl) rfl (hw.drew.cs [1] [] rfl rfl) fun hC => ?_
  have hw := hw.drew
  refine gv hs 0 rfl rfl hC (fun w hC => y_fieldAddr (o' := 7) Try.runUnderlying26 rfl Try.sizeOf24 rfl rfl rfl) fun a hs => ?_
  refine gv hs 1 rfl rfl hC (fun w hC => y_loadB1 (hC.ownAt 0 rfl) rfl Try.isAgg24 rfl) fun a hs => ?_
  refine gv hs 4 rfl rfl hC (fun w hC => y_fieldAddr (o' := 9) Try.runUnderlying26 rfl Try.sizeOf3 rfl rfl rfl) fun a hs => ?_
  refine gv hs 5 rfl rfl hC (fun w hC => y_loadB1 (hC.ownAt 0 rfl) rfl Try.isAgg3 rfl) fun a hs => ?_
  refine gv hs 6 rfl rfl hC (fun w hC => y_convert Try.runUnderlying3 Try.runUnderlying114 rfl) fun a hs => ?_
  refine gv hs 7 rfl rfl hC (fun w hC => y_shlM rfl rfl h120) fun a hs => ?_
  refine ho 2 rfl ?_
  refine st_callR hs (ref18_total_ok h113 hw.bdom (hw.bE 0 rfl)) (do_call Try.call69 rfl) trivial rfl rfl ?_
  intro v131 Sv128 w a h129 h130 hs
  subst h130
  have hw := hw.callB h129
  refine h_nx (hw.cs [1] [] rfl rfl) fun hC => ?_
  refine ho 3 rfl ?_
  refine st_callR hs (ref18_square_ok h115 hw.dom) (do_call Try.call88 rfl) trivial rfl rfl ?_
  intro v136 Sv133 w a h134 h135 hs
  obtain ⟨p117, k118, rfl, h119⟩ := h135
  have hw := hw.call h134
  have hw := hw.addE (e := SlA p117 rv116.length k118 rv116) h119
  refine h_nx (hw.cs [1] [] rfl rfl) fun hC => ?_
  refine ho 8 rfl ?_
  refine st_callR hs (ref18_square_ok h122 hw.dom) (do_call Try.call88 rfl) trivial rfl rfl ?_
  intro v141 Sv138 w a h139 h140 hs
  obtain ⟨p124, k125, rfl, h126⟩ := h140
  have hw := hw.call h139
  have hw := hw.addE (e := SlA p124 rv123.length k125 rv123) h126
  refine h_nx (hw.cs [1] [] rfl rfl) fun hC => ?_
  refine gv hs 9 rfl rfl hC (fun w hC => y_build (vs := [(0, .slice p117 rv116.length k118), (1, .slice p124 rv123.length k125)]) Bld31 rfl rfl) fun a hs => ?_
  refine ho 10 rfl ?_
  refine w_store (m := 2) (cs' := [.slice p117 rv116.length k118, .slice p124 rv123.length k125]) hs hw 0 rfl rfl rfl Try.sizeOf31 rfl rfl rfl rfl trivial ?_
  intro a w hs hw
  refine h_nx (hw.cs [1] [] rfl rfl) fun hC => ?_
  refine h_done (by kernel_rfl) ?_
  exact ⟨Sv138, k118, k125, p117, p124, (hs.wk rfl), (hw.ft [0] [1, 0] (by decide) rfl rfl)⟩
 rintro a w ⟨Sv127, k118, k125, p117, p124, hs, hw⟩
 refine then_normal ?_
 have hsh := oi hsh
 subst hsh
 refine wp_ret ?_
 exact ret1 hs rfl (rv_cell hw 0 rfl rfl Try.isAgg31 Try.sizeOf31 rfl) (hw.ret ⟨p117, k118, p124, k125, rfl, (hw.envAt 0 rfl), (hw.envAt 1 rfl)⟩)

abbrev ref17_Times_rd (w0 : World) (X : List Nat) (r : (Fraction × Int)) : (Nat → Prop) → World → Value → Prop := fun S w v => ∃ (p0_0 : Option Addr) (k0_0 : Nat) (p0_1 : Option Addr) (k0_1 : Nat), v = .tuple #[.agg #[.slice p0_0 r.1.Num.length k0_0, .slice p0_1 r.1.Den.length k0_1], .int .i64 r.2] ∧ (SlA p0_0 r.1.Num.length k0_0 r.1.Num).p S w ∧ (SlA p0_1 r.1.Den.length k0_1 r.1.Den).p S w
set_option maxHeartbeats 4000000 in
set_option maxRecDepth 100000 in
theorem ref17_Times_ok {w0 : World} {S0 : Nat → Prop} {p2 : Option Addr} {k3 : Nat} {p4 : Option Addr} {k5 : Nat} {p9 : Option Addr} {k10 : Nat} {p11 : Option Addr} {k12 : Nat} {a1 : Fraction} {b8 : Fraction} {r : (Fraction × Int)} (hsh : ref17_Times a1 b8 = some r) (hS : ∀ b, S0 b → b < w0.heap.size) (h6 : (SlA p2 a1.Num.length k3 a1.Num).p S0 w0) (h7 : (SlA p4 a1.Den.length k5 a1.Den).p S0 w0) (h13 : (SlA p9 b8.Num.length k10 b8.Num).p S0 w0) (h14 : (SlA p11 b8.Den.length k12 b8.Den).p S0 w0) : Calls Try.prog 12 #[.agg #[.slice p2 a1.Num.length k3, .slice p4 a1.Den.length k5], .agg #[.slice p9 b8.Num.length k10, .slice p11 b8.Den.length k12]] w0 (Ret ([]) w0 S0 (ref17_Times_rd w0 ([]) r)) := by
 refine calls_of_wp Try.func12 rfl ?_
 have hs := Sl.enter #[.agg #[.slice p2 a1.Num.length k3, .slice p4 a1.Den.length k5], .agg #[.slice p9 b8.Num.length k10, .slice p11 b8.Den.length k12]] 45 [(0, .agg #[.slice p2 a1.Num.length k3, .slice p4 a1.Den.length k5]), (1, .agg #[.slice p9 b8.Num.length k10, .slice p11 b8.Den.length k12])] rfl ⟨rfl, rfl, trivial⟩
 have hw := Wd.enter (E := []) hS (fun _ h => (by cases h))
 have hw := hw.addE h6
 have hw := hw.addE h7
 have hw := hw.addE h13
 have hw := hw.addE h14
 delta ref17_Times at hsh
 refine sr ?_
 refine w_box (cs := [.slice p2 a1.Num.length k3, .slice p4 a1.Den.length k5]) hs hw rfl rfl rfl trivial ?_
 intro b15 a w hs hw
 refine w_box (cs := [.slice p9 b8.Num.length k10, .slice p11 b8.Den.length k12]) hs hw rfl rfl rfl trivial ?_
 intro b16 a w hs hw
 refine w_alloc (cs := [.slice none ([] : List Int).length 0, .slice none ([] : List Int).length 0]) hs hw Try.zeroValue31 rfl rfl trivial ?_
 intro b17 a w hs hw
 refine av hs rfl rfl fun a hs => ?_
 refine nl ?_
 refine wp_seq ?_
 refine sr ?_
 refine sv hs (y_loadBA (hw.ownAt 2 rfl) rfl Try.isAgg31 Try.sizeOf31 rfl rfl) rfl fun a hs => ?_
 obtain ⟨rv19, h18, hsh⟩ := bind_t hsh
 refine st_callR hs (ref17_ValidFraction_ok h18 hw.bdom (hw.bE 3 rfl) (hw.bE 2 rfl)) (do_call Try.call44 rfl) trivial rfl rfl ?_
 intro v23 Sv20 w a h21 h22 hs
 subst h22
 have hw := hw.callB h21
 refine sv hs (y_not rfl) rfl fun a hs => ?_
 refine mv hs rfl rfl fun a hs => ?_
 obtain ⟨c33, hc33, hsh⟩ := bind_t hsh
 refine wpl_join 4 (fun a w => ∃ (Sv34 : Nat → Prop), Sl 45 [(2, .pointer (some ⟨b15, 0, none⟩)), (3, .pointer (some ⟨b16, 0, none⟩)), (4, .pointer (some ⟨b17, 0, none⟩)), (17, .bool c33)] a ∧ Wd ⟨w0, S0, []⟩ Sv34 [.box b15 [.slice p2 a1.Num.length k3, .slice p4 a1.Den.length k5] 31, .box b16 [.slice p9 b8.Num.length k10, .slice p11 b8.Den.length k12] 31, .box b17 [.slice none ([] : List Int).length 0, .slice none ([] : List Int).length 0] 31] [SlA p2 a1.Num.length k3 a1.Num, SlA p4 a1.Den.length k5 a1.Den, SlA p9 b8.Num.length k10 b8.Num, SlA p11 b8.Den.length k12 b8.Den, SlA none ([] : List Int).length 0 ([] : List Int)] w) ?_ ?_
 ·rcases Bool.eq_false_or_eq_true (!rv19) with h32 | h32
  ·have hs := hs.fix 13 (.bool true) rfl (vb h32)
   have hsh := ite_t hc33 h32
   refine st_skip hs rfl rfl rfl rfl rfl fun a hs => ?_
   refine st_skip hs rfl rfl rfl rfl rfl fun a hs => ?_
   refine st_skip hs rfl rfl rfl rfl rfl fun a hs => ?_
   refine sv hs (y_pickT rfl rfl) rfl fun a hs => ?_
   refine wpList_nil ?_
   have hw := hw.addE (e := SlA (α := Int) none 0 0 []) nil_sl
   have hsh := oi hsh
   subst hsh
   refine then_normal ?_
   exact ⟨S0, (hs.wk rfl), (hw.ft [2, 1, 0] [4, 3, 2, 1, 0] (by decide) rfl rfl)⟩
  have hs := hs.fix 13 (.bool false) rfl (vb h32)
  have hsh := ite_f hc33 h32
  refine st_val hs (y_loadBA (hw.ownAt 1 rfl) rfl Try.isAgg31 Try.sizeOf31 rfl rfl) ⟨_, rfl, rfl⟩ rfl rfl fun a hs => ?_
  obtain ⟨rv36, h35, hsh⟩ := bind_t hsh
  refine st_callR hs (ref17_ValidFraction_ok h35 hw.bdom (hw.bE 1 rfl) (hw.bE 0 rfl)) (do_call Try.call44 rfl) ⟨_, rfl, rfl⟩ rfl rfl ?_
  intro v40 Sv37 w a h38 h39 hs
  subst h39
  have hw := hw.callB h38
  refine st_val hs (y_not rfl) ⟨_, rfl, rfl⟩ rfl rfl fun a hs => ?_
  refine sv hs (y_pickF rfl rfl) rfl fun a hs => ?_
  refine wpList_nil ?_
  have hw := hw.addE (e := SlA (α := Int) none 0 0 []) nil_sl
  have hsh := oi hsh
  subst hsh
  refine then_normal ?_
  exact ⟨S0, (hs.wk rfl), (hw.ft [2, 1, 0] [4, 3, 2, 1, 0] (by decide) rfl rfl)⟩
 rintro a w ⟨Sv34, hs, hw⟩
 refine nl ?_
 refine wp_cond_split (hs.ev rfl) (fun h43 => ?_) (fun h43 => ?_)
 ·have hsh := ite_t hsh h43
  refine sr ?_
  refine sv hs (y_build (vs := []) Bld31 rfl rfl) rfl fun a hs => ?_
  refine w_store (m := 2) (cs' := [.slice none ([] : List Int).length 0, .slice none ([] : List Int).length 0]) hs hw 2 rfl rfl rfl Try.sizeOf31 rfl rfl rfl rfl trivial ?_
  intro a w hs hw
  refine av hs rfl rfl fun a hs => ?_
  refine nl ?_
  have hsh := oi hsh
  subst hsh
  refine wp_ret ?_
  refine then_ret ?_
  exact ret2 hs rfl (rv_cell hw 2 rfl rfl Try.isAgg31 Try.sizeOf31 rfl) (rv_tmp rfl) (hw.ret ⟨none, 0, none, 0, rfl, (hw.envAt 4 rfl), (hw.envAt 4 rfl)⟩)
 have hsh := ite_f hsh h43
 refine wp_skip ?_
 refine then_normal ?_
 refine sr ?_
 refine sv hs (y_fieldAddr (o' := 0) Try.runUnderlying31 rfl Try.sizeOf29 rfl rfl rfl) rfl fun a hs => ?_
 refine sv hs (y_loadB1 (hw.ownAt 0 rfl) rfl Try.isAgg29 rfl) rfl fun a hs => ?_
 refine sv hs (y_fieldAddr (o' := 0) Try.runUnderlying31 rfl Try.sizeOf29 rfl rfl rfl) rfl fun a hs => ?_
 refine sv hs (y_loadB1 (hw.ownAt 1 rfl) rfl Try.isAgg29 rfl) rfl fun a hs => ?_
 obtain ⟨rv45, h44, hsh⟩ := bind_t hsh
 refine st_callR hs (ref17_Mul_ok h44 hw.dom (hw.envAt 0 rfl) (hw.envAt 2 rfl)) (do_call Try.call47 rfl) trivial rfl rfl ?_
 intro v52 Sv49 w a h50 h51 hs
 obtain ⟨p46, k47, rfl, h48⟩ := h51
 have hw := hw.call h50
 have hw := hw.addE (e := SlA p46 rv45.1.length k47 rv45.1) h48
 refine mv hs rfl rfl fun a hs => ?_
 refine sv hs (y_extract rfl rfl) rfl fun a hs => ?_
 refine sv hs (y_extract rfl rfl) rfl fun a hs => ?_
 refine av hs rfl rfl fun a hs => ?_
 refine av hs rfl rfl fun a hs => ?_
 refine nl ?_
 refine sr ?_
 refine sv hs (y_fieldAddr (o' := 1) Try.runUnderlying31 rfl Try.sizeOf29 rfl rfl rfl) rfl fun a hs => ?_
 refine sv hs (y_loadB1 (hw.ownAt 0 rfl) rfl Try.isAgg29 rfl) rfl fun a hs => ?_
 refine sv hs (y_fieldAddr (o' := 1) Try.runUnderlying31 rfl Try.sizeOf29 rfl rfl rfl) rfl fun a hs => ?_
 refine sv hs (y_loadB1 (hw.ownAt 1 rfl) rfl Try.isAgg29 rfl) rfl fun a hs => ?_
 obtain ⟨rv55, h54, hsh⟩ := bind_t hsh
 refine st_callR hs (ref17_Mul_ok h54 hw.dom (hw.envAt 2 rfl) (hw.envAt 4 rfl)) (do_call Try.call47 rfl) trivial rfl rfl ?_
 intro v62 Sv59 w a h60 h61 hs
 obtain ⟨p56, k57, rfl, h58⟩ := h61
 have hw := hw.call h60
 have hw := hw.addE (e := SlA p56 rv55.1.length k57 rv55.1) h58
 refine mv hs rfl rfl fun a hs => ?_
 refine sv hs (y_extract rfl rfl) rfl fun a hs => ?_
 refine sv hs (y_extract rfl rfl) rfl fun a hs => ?_
 refine av hs rfl rfl fun a hs => ?_
 refine av hs rfl rfl fun a hs => ?_
 refine nl ?_
 refine wp_seq ?_
 refine sr ?_
 refine mv hs rfl rfl fun a hs => ?_
 refine sv hs (y_neq rfl rfl) rfl fun a hs => ?_
 refine mv hs rfl rfl fun a hs => ?_
 refine wpl_join 3 (fun a w1 => w = w1 ∧ Sl 45 [(4, .pointer (some ⟨b17, 0, none⟩)), (6, .slice p46 rv45.1.length k47), (8, .slice p56 rv55.1.length k57), (40, .bool ((rv45.2 != 0) || (rv55.2 != 0)))] a) ?_ ?_
 ·rcases Bool.eq_false_or_eq_true (rv45.2 != 0) with h64 | h64
  ·have hs := hs.fix 37 (.bool true) rfl (vb h64)
   refine st_skip hs rfl rfl rfl rfl rfl fun a hs => ?_
   refine st_skip hs rfl rfl rfl rfl rfl fun a hs => ?_
   refine sv hs (y_pickT rfl rfl) rfl fun a hs => ?_
   refine nl ?_
   exact ⟨rfl, (hs.fix 40 (.bool ((rv45.2 != 0) || (rv55.2 != 0))) rfl (or_t h64)).weaken _ ⟨rfl, rfl, rfl, rfl, trivial⟩⟩
  have hs := hs.fix 37 (.bool false) rfl (vb h64)
  refine st_val hs (y_move rfl) ⟨_, rfl, rfl⟩ rfl rfl fun a hs => ?_
  refine st_val hs (y_neq rfl rfl) ⟨_, rfl, rfl⟩ rfl rfl fun a hs => ?_
  refine sv hs (y_pickF rfl rfl) rfl fun a hs => ?_
  refine nl ?_
  exact ⟨rfl, (hs.fix 40 (.bool ((rv45.2 != 0) || (rv55.2 != 0))) rfl (or_f h64)).weaken _ ⟨rfl, rfl, rfl, rfl, trivial⟩⟩
 rintro a w1 ⟨h67, hs⟩
 subst h67
 refine nl ?_
 refine wp_cond_split (hs.ev rfl) (fun h66 => ?_) (fun h66 => ?_)
 ·have hsh := ite_t hsh h66
  refine sr ?_
  refine sv hs (y_build (vs := []) Bld31 rfl rfl) rfl fun a hs => ?_
  refine w_store (m := 2) (cs' := [.slice none ([] : List Int).length 0, .slice none ([] : List Int).length 0]) hs hw 2 rfl rfl rfl Try.sizeOf31 rfl rfl rfl rfl trivial ?_
  intro a w hs hw
  refine av hs rfl rfl fun a hs => ?_
  refine nl ?_
  have hsh := oi hsh
  subst hsh
  refine wp_ret ?_
  refine then_ret ?_
  exact ret2 hs rfl (rv_cell hw 2 rfl rfl Try.isAgg31 Try.sizeOf31 rfl) (rv_tmp rfl) (hw.ret ⟨none, 0, none, 0, rfl, (hw.envAt 6 rfl), (hw.envAt 6 rfl)⟩)
 have hsh := ite_f hsh h66
 refine wp_skip ?_
 refine then_normal ?_
 refine sr ?_
 refine mv hs rfl rfl fun a hs => ?_
 refine mv hs rfl rfl fun a hs => ?_
 refine sv hs (y_build (vs := [(0, .slice p46 rv45.1.length k47), (1, .slice p56 rv55.1.length k57)]) Bld31 rfl rfl) rfl fun a hs => ?_
 refine w_store (m := 2) (cs' := [.slice p46 rv45.1.length k47, .slice p56 rv55.1.length k57]) hs hw 2 rfl rfl rfl Try.sizeOf31 rfl rfl rfl rfl trivial ?_
 intro a w hs hw
 refine av hs rfl rfl fun a hs => ?_
 refine nl ?_
 have hsh := oi hsh
 subst hsh
 refine wp_ret ?_
 exact ret2 hs rfl (rv_cell hw 2 rfl rfl Try.isAgg31 Try.sizeOf31 rfl) (rv_tmp rfl) (hw.ret ⟨p46, k47, p56, k57, rfl, (hw.envAt 1 rfl), (hw.envAt 0 rfl)⟩)

abbrev ref18_Gain_rd (w0 : World) (X : List Nat) (r : (Fraction × Int)) : (Nat → Prop) → World → Value → Prop := fun S w v => ∃ (p0_0 : Option Addr) (k0_0 : Nat) (p0_1 : Option Addr) (k0_1 : Nat), v = .tuple #[.agg #[.slice p0_0 r.1.Num.length k0_0, .slice p0_1 r.1.Den.length k0_1], .int .i64 r.2] ∧ (SlA p0_0 r.1.Num.length k0_0 r.1.Num).p S w ∧ (SlA p0_1 r.1.Den.length k0_1 r.1.Den).p S w
set_option maxHeartbeats 4000000 in
set_option maxRecDepth 100000 in
theorem ref18_Gain_ok {w0 : World} {S0 : Nat → Prop} {p2 : Option Addr} {k3 : Nat} {r1 : Response} {num5 : Int} {den6 : Int} {r : (Fraction × Int)} (hsh : ref18_Gain r1 num5 den6 = some r) (hS : ∀ b, S0 b → b < w0.heap.size) (h4 : (SlA p2 r1.Stages.length k3 r1.Stages).p S0 w0) : Calls Try.prog 26 #[.agg #[.slice p2 r1.Stages.length k3], .int .i64 num5, .int .i64 den6] w0 (Ret ([]) w0 S0 (ref18_Gain_rd w0 ([]) r)) := by
 refine calls_of_wp Try.func26 rfl ?_
 have hs := Sl.enter #[.agg #[.slice p2 r1.Stages.length k3], .int .i64 num5, .int .i64 den6] 54 [(0, .agg #[.slice p2 r1.Stages.length k3]), (1, .int .i64 num5), (2, .int .i64 den6)] rfl ⟨rfl, rfl, rfl, trivial⟩
 have hw := Wd.enter (E := []) hS (fun _ h => (by cases h))
 have hw := hw.addE h4
 delta ref18_Gain at hsh
 refine sr ?_
 refine w_box (cs := [.slice p2 r1.Stages.length k3]) hs hw rfl rfl rfl trivial ?_
 intro b7 a w hs hw
 refine w_alloc (cs := [.slice none ([] : List Int).length 0, .slice none ([] : List Int).length 0]) hs hw Try.zeroValue31 rfl rfl trivial ?_
 intro b8 a w hs hw
 refine av hs rfl rfl fun a hs => ?_
 refine nl ?_
 refine wp_seq ?_
 refine sr ?_
 refine sv hs (y_loadBA (hw.ownAt 1 rfl) rfl Try.isAgg37 Try.sizeOf37 rfl rfl) rfl fun a hs => ?_
 obtain ⟨rv10, h9, hsh⟩ := bind_t hsh
 refine st_callR hs (ref18_Valid_ok h9 hw.bdom (hw.bE 0 rfl)) (do_call Try.call34 rfl) trivial rfl rfl ?_
 intro v14 Sv11 w a h12 h13 hs
 subst h13
 have hw := hw.callB h12
 refine sv hs (y_not rfl) rfl fun a hs => ?_
 refine nl ?_
 refine wp_cond_split (hs.ev rfl) (fun h17 => ?_) (fun h17 => ?_)
 ·have hsh := ite_t hsh h17
  refine sr ?_
  refine sv hs (y_build (vs := []) Bld31 rfl rfl) rfl fun a hs => ?_
  refine w_store (m := 2) (cs' := [.slice none ([] : List Int).length 0, .slice none ([] : List Int).length 0]) hs hw 0 rfl rfl rfl Try.sizeOf31 rfl rfl rfl rfl trivial ?_
  intro a w hs hw
  refine av hs rfl rfl fun a hs => ?_
  refine nl ?_
  have hsh := oi hsh
  subst hsh
  have hw := hw.addE (e := SlA (α := Int) none 0 0 []) nil_sl
  refine wp_ret ?_
  refine then_ret ?_
  exact ret2 hs rfl (rv_cell hw 0 rfl rfl Try.isAgg31 Try.sizeOf31 rfl) (rv_tmp rfl) (hw.ret ⟨none, 0, none, 0, rfl, (hw.envAt 0 rfl), (hw.envAt 0 rfl)⟩)
 have hsh := ite_f hsh h17
 refine wp_skip ?_
 refine then_normal ?_
 refine wp_seq ?_
 refine sr ?_
 refine mv hs rfl rfl fun a hs => ?_
 obtain ⟨rv19, h18, hsh⟩ := bind_t hsh
 refine st_callR hs (ref01_In_ok h18 hw.bdom) (do_call Try.call56 rfl) trivial rfl rfl ?_
 intro v23 Sv20 w a h21 h22 hs
 subst h22
 have hw := hw.callB h21
 refine sv hs (y_not rfl) rfl fun a hs => ?_
 refine mv hs rfl rfl fun a hs => ?_
 obtain ⟨c33, hc33, hsh⟩ := bind_t hsh
 refine wpl_join 4 (fun a w => ∃ (Sv34 : Nat → Prop), Sl 54 [(1, .int .i64 num5), (2, .int .i64 den6), (3, .pointer (some ⟨b7, 0, none⟩)), (6, .pointer (some ⟨b8, 0, none⟩)), (22, .bool c33)] a ∧ Wd ⟨w0, S0, []⟩ Sv34 [.box b7 [.slice p2 r1.Stages.length k3] 37, .box b8 [.slice none ([] : List Int).length 0, .slice none ([] : List Int).length 0] 31] [SlA p2 r1.Stages.length k3 r1.Stages, SlA none ([] : List Int).length 0 ([] : List Int)] w) ?_ ?_
 ·rcases Bool.eq_false_or_eq_true (!rv19) with h32 | h32
  ·have hs := hs.fix 18 (.bool true) rfl (vb h32)
   have hsh := ite_t hc33 h32
   refine st_skip hs rfl rfl rfl rfl rfl fun a hs => ?_
   refine st_skip hs rfl rfl rfl rfl rfl fun a hs => ?_
   refine st_skip hs rfl rfl rfl rfl rfl fun a hs => ?_
   refine sv hs (y_pickT rfl rfl) rfl fun a hs => ?_
   refine wpList_nil ?_
   have hw := hw.addE (e := SlA (α := Int) none 0 0 []) nil_sl
   have hsh := oi hsh
   subst hsh
   refine then_normal ?_
   exact ⟨S0, (hs.wk rfl), (hw.ft [1, 0] [1, 0] (by decide) rfl rfl)⟩
  have hs := hs.fix 18 (.bool false) rfl (vb h32)
  have hsh := ite_f hc33 h32
  refine st_val hs (y_move rfl) ⟨_, rfl, rfl⟩ rfl rfl fun a hs => ?_
  obtain ⟨rv36, h35, hsh⟩ := bind_t hsh
  refine st_callR hs (ref01_In_ok h35 hw.bdom) (do_call Try.call56 rfl) ⟨_, rfl, rfl⟩ rfl rfl ?_
  intro v40 Sv37 w a h38 h39 hs
  subst h39
  have hw := hw.callB h38
  refine st_val hs (y_not rfl) ⟨_, rfl, rfl⟩ rfl rfl fun a hs => ?_
  refine sv hs (y_pickF rfl rfl) rfl fun a hs => ?_
  refine wpList_nil ?_
  have hw := hw.addE (e := SlA (α := Int) none 0 0 []) nil_sl
  have hsh := oi hsh
  subst hsh
  refine then_normal ?_
  exact ⟨S0, (hs.wk rfl), (hw.ft [1, 0] [1, 0] (by decide) rfl rfl)⟩
 rintro a w ⟨Sv34, hs, hw⟩
 refine nl ?_
 refine wp_cond_split (hs.ev rfl) (fun h43 => ?_) (fun h43 => ?_)
 ·have hsh := ite_t hsh h43
  refine sr ?_
  refine sv hs (y_build (vs := []) Bld31 rfl rfl) rfl fun a hs => ?_
  refine w_store (m := 2) (cs' := [.slice none ([] : List Int).length 0, .slice none ([] : List Int).length 0]) hs hw 1 rfl rfl rfl Try.sizeOf31 rfl rfl rfl rfl trivial ?_
  intro a w hs hw
  refine av hs rfl rfl fun a hs => ?_
  refine nl ?_
  have hsh := oi hsh
  subst hsh
  refine wp_ret ?_
  refine then_ret ?_
  exact ret2 hs rfl (rv_cell hw 1 rfl rfl Try.isAgg31 Try.sizeOf31 rfl) (rv_tmp rfl) (hw.ret ⟨none, 0, none, 0, rfl, (hw.envAt 1 rfl), (hw.envAt 1 rfl)⟩)
 have hsh := ite_f hsh h43
 refine wp_skip ?_
 refine then_normal ?_
 refine sr ?_
 refine w_litSlice (α := Int) (vs := [.int .i64 1]) (cs := [.int .i64 1]) (xs := ([1] : List Int)) hs hw El29 rfl rfl rfl rfl rfl rfl ⟨⟨_, rfl, rfl⟩, rfl⟩ rfl trivial rfl fun b45 a w hs hw => ?_
 refine w_litSlice (α := Int) (vs := [.int .i64 1]) (cs := [.int .i64 1]) (xs := ([1] : List Int)) hs hw El29 rfl rfl rfl rfl rfl rfl ⟨⟨_, rfl, rfl⟩, rfl⟩ rfl trivial rfl fun b47 a w hs hw => ?_
 refine sv hs (y_build (vs := [(0, .slice (some ⟨b45, 0, none⟩) ([1] : List Int).length ([1] : List Int).length), (1, .slice (some ⟨b47, 0, none⟩) ([1] : List Int).length ([1] : List Int).length)]) Bld31 rfl rfl) rfl fun a hs => ?_
 refine w_alloc (cs := [.slice none ([] : List Int).length 0, .slice none ([] : List Int).length 0]) hs hw Try.zeroValue31 rfl rfl trivial ?_
 intro b48 a w hs hw
 refine w_store (m := 2) (cs' := [.slice (some ⟨b45, 0, none⟩) ([1] : List Int).length ([1] : List Int).length, .slice (some ⟨b47, 0, none⟩) ([1] : List Int).length ([1] : List Int).length]) hs hw 0 rfl rfl rfl Try.sizeOf31 rfl rfl rfl rfl trivial ?_
 intro a w hs hw
 refine nl ?_
 refine wp_seq ?_
 refine sr ?_
 refine av hs rfl rfl fun a hs => ?_
 refine nl ?_
 refine wp_block ?_
 obtain ⟨Sv369, hw⟩ := w_share (α := Int) hw 2 rfl 0 rfl
 obtain ⟨Sv370, hw⟩ := w_share (α := Int) hw 1 rfl 1 rfl
 refine wp_while (fun sv210 a w => ∃ (p314 : Option Addr) (k315 : Nat) (p316 : Option Addr) (k317 : Nat) (Sv318 : Nat → Prop), Sl 54 [(1, .int .i64 num5), (2, .int .i64 den6), (3, .pointer (some ⟨b7, 0, none⟩)), (6, .pointer (some ⟨b8, 0, none⟩)), (8, .pointer (some ⟨b48, 0, none⟩)), (9, .int .i64 sv210.2.2)] a ∧ Wd ⟨w0, S0, []⟩ Sv318 [.box b7 [.slice p2 r1.Stages.length k3] 37, .box b8 [.slice none ([] : List Int).length 0, .slice none ([] : List Int).length 0] 31, .box b48 [.slice p314 sv210.1.length k315, .slice p316 sv210.2.1.length k317] 31] [SlA p2 r1.Stages.length k3 r1.Stages, SlA none ([] : List Int).length 0 ([] : List Int), SlA p314 sv210.1.length k315 sv210.1, SlA p316 sv210.2.1.length k317 sv210.2.1] w) (([1] : List Int), ([1] : List Int), 0) hsh ⟨(some ⟨b45, 0, none⟩), ([1] : List Int).length, (some ⟨b47, 0, none⟩), ([1] : List Int).length, Sv370, (hs.wk rfl), (hw.ft [1, 2, 0] [4, 5, 1, 0] (by decide) rfl rfl)⟩ ?_
 repeat clear hsh
 rintro sv210 a w tv368 ⟨p314, k315, p316, k317, Sv318, hs, hw⟩ hsh hd367
 delta ref18_Gain_l2 at hsh
 refine wp_seq ?_
 refine sr ?_
 refine mv hs rfl rfl fun a hs => ?_
 refine sv hs (y_fieldAddr (o' := 0) Try.runUnderlying37 rfl Try.sizeOf35 rfl rfl rfl) rfl fun a hs => ?_
 refine sv hs (y_loadB1 (hw.ownAt 0 rfl) rfl Try.isAgg35 rfl) rfl fun a hs => ?_
 refine sv hs (y_len Try.runUnderlying35 rfl) rfl fun a hs => ?_
 refine sv hs (y_lss rfl rfl) rfl fun a hs => ?_
 refine nl ?_
 refine wp_cond_split (hs.ev rfl) (fun h374 => ?_) (fun h374 => ?_)
 ·have hsh := ite_t hsh h374
  refine wp_skip ?_
  refine then_normal ?_
  refine wp_seq ?_
  refine wp_block ?_
  refine sr ?_
  refine sv hs (y_fieldAddr (o' := 0) Try.runUnderlying37 rfl Try.sizeOf35 rfl rfl rfl) rfl fun a hs => ?_
  refine sv hs (y_loadB1 (hw.ownAt 0 rfl) rfl Try.isAgg35 rfl) rfl fun a hs => ?_
  refine mv hs rfl rfl fun a hs => ?_
  obtain ⟨x422, h420, hsh⟩ := bind_t hsh
  obtain ⟨b428, o429, q426, c427, h430, h423, h424, h425, h421⟩ := hw.elemV 0 rfl h420
  have hsv431 := hs
  have hwv432 := hw
  subst h430
  have hs := hsv431
  have hw := hwv432
  obtain ⟨_, _, _, _, _, _, _, _, _, _, rfl, rfl, rfl, rfl, rfl, rfl, rfl, rfl, ⟨p433, n434, k435, rfl, h436⟩, rfl, rfl⟩ := h421
  obtain rfl := h436.1
  have hw := hw.addE (e := SlA p433 _ k435 x422.Taps) h436
  have hw := hw.addE h425
  refine sv hs (y_indexAt Try.runUnderlying35 Try.sizeOf26 rfl rfl h423.1 h423.2 h424) rfl fun a hs => ?_
  refine sv hs (y_loadEA (j := 0) (hw.ceAt 0 rfl) rfl Try.isAgg26 Try.sizeOf26 rfl rfl) rfl fun a hs => ?_
  refine mv hs rfl rfl fun a hs => ?_
  refine mv hs rfl rfl fun a hs => ?_
  obtain ⟨rv438, h437, hsh⟩ := bind_t hsh
  refine st_callR hs (ref18_gain_ok h437 hw.dom (hw.envAt 1 rfl)) (do_call Try.call57 rfl) trivial rfl rfl ?_
  intro v448 Sv445 w a h446 h447 hs
  obtain ⟨p439, k440, p442, k443, rfl, h441, h444⟩ := h447
  have hw := hw.call h446
  have hw := hw.addE (e := SlA p439 rv438.Num.length k440 rv438.Num) h441
  have hw := hw.addE (e := SlA p442 rv438.Den.length k443 rv438.Den) h444
  refine w_alloc (cs := [.slice none ([] : List Int).length 0, .slice none ([] : List Int).length 0]) hs hw Try.zeroValue31 rfl rfl trivial ?_
  intro b450 a w hs hw
  refine w_store (m := 2) (cs' := [.slice p439 rv438.Num.length k440, .slice p442 rv438.Den.length k443]) hs hw 0 rfl rfl rfl Try.sizeOf31 rfl rfl rfl rfl trivial ?_
  intro a w hs hw
  refine nl ?_
  refine wp_seq ?_
  refine sr ?_
  refine sv hs (y_fieldAddr (o' := 1) Try.runUnderlying31 rfl Try.sizeOf29 rfl rfl rfl) rfl fun a hs => ?_
  refine sv hs (y_loadB1 (hw.ownAt 0 rfl) rfl Try.isAgg29 rfl) rfl fun a hs => ?_
  refine sv hs (y_len Try.runUnderlying29 rfl) rfl fun a hs => ?_
  refine sv hs (y_eql rfl rfl) rfl fun a hs => ?_
  refine nl ?_
  refine wp_cond_split (hs.ev rfl) (fun h452 => ?_) (fun h452 => ?_)
  ·have hsh := ite_t hsh h452
   refine sr ?_
   refine sv hs (y_build (vs := []) Bld31 rfl rfl) rfl fun a hs => ?_
   refine w_store (m := 2) (cs' := [.slice none ([] : List Int).length 0, .slice none ([] : List Int).length 0]) hs hw 2 rfl rfl rfl Try.sizeOf31 rfl rfl rfl rfl trivial ?_
   intro a w hs hw
   refine av hs rfl rfl fun a hs => ?_
   refine nl ?_
   have hsh := oi hsh
   subst hsh
   have h453 := hd367 _ rfl
   subst h453
   refine wp_ret ?_
   refine then_ret ?_
   refine blk_ret ?_
   refine then_ret ?_
   refine then_ret ?_
   refine blk_ret ?_
   refine then_ret ?_
   exact ret2 hs rfl (rv_cell hw 2 rfl rfl Try.isAgg31 Try.sizeOf31 rfl) (rv_tmp rfl) (hw.ret ⟨none, 0, none, 0, rfl, (hw.envAt 5 rfl), (hw.envAt 5 rfl)⟩)
  have hsh := ite_f hsh h452
  refine wp_skip ?_
  refine then_normal ?_
  refine wp_region_lit ?_
  refine sv hs (y_loadBA (hw.ownAt 3 rfl) rfl Try.isAgg31 Try.sizeOf31 rfl rfl) rfl fun a hs => ?_
  refine sv hs (y_loadBA (hw.ownAt 0 rfl) rfl Try.isAgg31 Try.sizeOf31 rfl rfl) rfl fun a hs => ?_
  obtain ⟨rv455, h454, hsh⟩ := bind_t hsh
  refine st_callR hs (ref17_Times_ok h454 hw.dom (hw.envAt 6 rfl) (hw.envAt 7 rfl) (hw.envAt 1 rfl) (hw.envAt 0 rfl)) (do_call Try.call12 rfl) trivial rfl rfl ?_
  intro v465 Sv462 w a h463 h464 hs
  obtain ⟨p456, k457, p459, k460, rfl, h458, h461⟩ := h464
  have hw := hw.call h463
  have hw := hw.addE (e := SlA p456 rv455.1.Num.length k457 rv455.1.Num) h458
  have hw := hw.addE (e := SlA p459 rv455.1.Den.length k460 rv455.1.Den) h461
  refine mv hs rfl rfl fun a hs => ?_
  refine sv hs (y_extract rfl rfl) rfl fun a hs => ?_
  refine sv hs (y_extract rfl rfl) rfl fun a hs => ?_
  refine w_store (m := 2) (cs' := [.slice p456 rv455.1.Num.length k457, .slice p459 rv455.1.Den.length k460]) hs hw 3 rfl rfl rfl Try.sizeOf31 rfl rfl rfl rfl trivial ?_
  intro a w hs hw
  refine wpList_nil ?_
  refine blk_normal ?_
  refine then_normal ?_
  refine wp_region_lit ?_
  refine mv hs rfl rfl fun a hs => ?_
  refine sv hs (y_add rfl rfl) rfl fun a hs => ?_
  obtain ⟨i468, h467, hsh⟩ := bind_t hsh
  refine sv hs (y_assignI rfl h467) rfl fun a hs => ?_
  refine nl ?_
  exact ⟨_, (Option.some.inj hsh).symm, p456, k457, p459, k460, Sv462, (hs.wk rfl), (hw.ft [1, 2, 3] [6, 7, 1, 0] (by decide) rfl rfl)⟩
 have hsh := ite_f hsh h374
 obtain ⟨rv469, hsh, h470⟩ := map_t hsh
 have h470 := (hd367 _ h470.symm).symm
 subst h470
 refine wp_exit ?_
 refine then_exit ?_
 refine then_exit ?_
 refine blk_exit ?_
 refine then_normal ?_
 refine sr ?_
 refine sv hs (y_loadBA (hw.ownAt 2 rfl) rfl Try.isAgg31 Try.sizeOf31 rfl rfl) rfl fun a hs => ?_
 refine w_store (m := 2) (cs' := [.slice p314 sv210.1.length k315, .slice p316 sv210.2.1.length k317]) hs hw 1 rfl rfl rfl Try.sizeOf31 rfl rfl rfl rfl trivial ?_
 intro a w hs hw
 refine av hs rfl rfl fun a hs => ?_
 refine nl ?_
 have hsh := oi hsh
 subst hsh
 refine wp_ret ?_
 exact ret2 hs rfl (rv_cell hw 1 rfl rfl Try.isAgg31 Try.sizeOf31 rfl) (rv_tmp rfl) (hw.ret ⟨p314, k315, p316, k317, rfl, (hw.envAt 2 rfl), (hw.envAt 3 rfl)⟩)

abbrev ref17_Same_rd (w0 : World) (X : List Nat) (r : Bool) : (Nat → Prop) → World → Value → Prop := fun S w v => v = .bool r
set_option maxHeartbeats 4000000 in
set_option maxRecDepth 100000 in
theorem ref17_Same_ok {w0 : World} {S0 : Nat → Prop} {p2 : Option Addr} {k3 : Nat} {p6 : Option Addr} {k7 : Nat} {a1 : (List Int)} {b5 : (List Int)} {r : Bool} (hsh : ref17_Same a1 b5 = some r) (hS : ∀ b, S0 b → b < w0.heap.size) (h4 : (SlA p2 a1.length k3 a1).p S0 w0) (h8 : (SlA p6 b5.length k7 b5).p S0 w0) : Calls Try.prog 58 #[.slice p2 a1.length k3, .slice p6 b5.length k7] w0 (Ret ([]) w0 S0 (ref17_Same_rd w0 ([]) r)) := by
 refine calls_of_wp Try.func58 rfl ?_
 have hs := Sl.enter #[.slice p2 a1.length k3, .slice p6 b5.length k7] 26 [(0, .slice p2 a1.length k3), (1, .slice p6 b5.length k7)] rfl ⟨rfl, rfl, trivial⟩
 have hw := Wd.enter (E := []) hS (fun _ h => (by cases h))
 have hw := hw.addE h4
 have hw := hw.addE h8
 delta ref17_Same at hsh
 refine sr ?_
 refine av hs rfl rfl fun a hs => ?_
 refine nl ?_
 refine wp_seq ?_
 refine sr ?_
 refine mv hs rfl rfl fun a hs => ?_
 refine sv hs (y_len Try.runUnderlying29 rfl) rfl fun a hs => ?_
 refine mv hs rfl rfl fun a hs => ?_
 refine sv hs (y_len Try.runUnderlying29 rfl) rfl fun a hs => ?_
 refine sv hs (y_neq rfl rfl) rfl fun a hs => ?_
 refine nl ?_
 refine wp_cond_split (hs.ev rfl) (fun h10 => ?_) (fun h10 => ?_)
 ·have hsh := ite_t hsh h10
  refine sr ?_
  refine av hs rfl rfl fun a hs => ?_
  refine nl ?_
  have hsh := oi hsh
  subst hsh
  refine wp_ret ?_
  refine then_ret ?_
  exact ret1 hs rfl (rv_tmp rfl) (hw.ret rfl)
 have hsh := ite_f hsh h10
 refine wp_skip ?_
 refine then_normal ?_
 refine wp_seq ?_
 refine sr ?_
 refine av hs rfl rfl fun a hs => ?_
 refine nl ?_
 refine wp_block ?_
 refine wp_while (fun sv109 a w => ∃ (Sv173 : Nat → Prop), Sl 26 [(0, .slice p2 a1.length k3), (1, .slice p6 b5.length k7), (5, .int .i64 sv109)] a ∧ Wd ⟨w0, S0, []⟩ Sv173 [] [SlA p2 a1.length k3 a1, SlA p6 b5.length k7 b5] w) 0 hsh ⟨S0, (hs.wk rfl), (hw.ft [] [1, 0] (by decide) rfl rfl)⟩ ?_
 repeat clear hsh
 rintro sv109 a w tv206 ⟨Sv173, hs, hw⟩ hsh hd205
 delta ref17_Same_l2 at hsh
 refine wp_seq ?_
 refine sr ?_
 refine mv hs rfl rfl fun a hs => ?_
 refine mv hs rfl rfl fun a hs => ?_
 refine sv hs (y_len Try.runUnderlying29 rfl) rfl fun a hs => ?_
 refine sv hs (y_lss rfl rfl) rfl fun a hs => ?_
 refine nl ?_
 refine wp_cond_split (hs.ev rfl) (fun h210 => ?_) (fun h210 => ?_)
 ·have hsh := ite_t hsh h210
  refine wp_skip ?_
  refine then_normal ?_
  refine wp_seq ?_
  refine wp_block ?_
  refine wp_seq ?_
  obtain ⟨x241, h239, hsh⟩ := bind_t hsh
  obtain ⟨b247, o248, q245, c246, h249, h242, h243, h244, h240⟩ := hw.elemV 0 rfl h239
  have hsv250 := hs
  have hwv251 := hw
  subst h249
  have hs := hsv250
  have hw := hwv251
  obtain ⟨_, rfl, rfl⟩ := h240
  have hw := hw.addE h244
  obtain ⟨x254, h252, hsh⟩ := bind_t hsh
  obtain ⟨b260, o261, q258, c259, h262, h255, h256, h257, h253⟩ := hw.elemV 2 rfl h252
  have hsv263 := hs
  have hwv264 := hw
  subst h262
  have hs := hsv263
  have hw := hwv264
  obtain ⟨_, rfl, rfl⟩ := h253
  have hw := hw.addE h257
  refine wp_only (fun a w => ∃ (Sv265 : Nat → Prop), Sl 26 [(0, .slice (some ⟨b247, o248, none⟩) a1.length k3), (1, .slice (some ⟨b260, o261, none⟩) b5.length k7), (5, .int .i64 sv109), (25, .bool (x241 != x254))] a ∧ Wd ⟨w0, S0, []⟩ Sv265 [] [SlA (some ⟨b247, o248, none⟩) a1.length k3 a1, SlA (some ⟨b260, o261, none⟩) b5.length k7 b5] w) ?_ ?_
  ·refine h_b (C := Cls [] [CeA b260 q258 [.int .i64 x254], CeA b247 q245 [.int .i64 x241]]) (by kernel_rfl) rfl (hw.drew.cs [] [0, 1] rfl rfl) fun hC => ?_
   have hw := hw.drew
   refine gm hs 0 rfl rfl rfl hC fun a hs => ?_
   refine gm hs 1 rfl rfl rfl hC fun a hs => ?_
   refine gv hs 2 rfl rfl hC (fun w hC => y_indexAt Try.runUnderlying29 Try.sizeOf3 rfl rfl h242.1 h242.2 h243) fun a hs => ?_
   refine gv hs 3 rfl rfl hC (fun w hC => y_loadE1 (j := 0) (hC.ceAt 1 rfl) rfl Try.isAgg3 rfl) fun a hs => ?_
   refine gm hs 4 rfl rfl rfl hC fun a hs => ?_
   refine gm hs 5 rfl rfl rfl hC fun a hs => ?_
   refine gv hs 6 rfl rfl hC (fun w hC => y_indexAt Try.runUnderlying29 Try.sizeOf3 rfl rfl h255.1 h255.2 h256) fun a hs => ?_
   refine gv hs 7 rfl rfl hC (fun w hC => y_loadE1 (j := 0) (hC.ceAt 0 rfl) rfl Try.isAgg3 rfl) fun a hs => ?_
   refine gv hs 8 rfl rfl hC (fun w hC => y_neq rfl rfl) fun a hs => ?_
   refine h_done (by kernel_rfl) ?_
   exact ⟨Sv173, (hs.wk rfl), (hw.ft [] [2, 3] (by decide) rfl rfl)⟩
  rintro a w ⟨Sv265, hs, hw⟩
  refine then_normal ?_
  refine wp_cond_split (hs.ev rfl) (fun h267 => ?_) (fun h267 => ?_)
  ·have hsh := ite_t hsh h267
   refine sr ?_
   refine av hs rfl rfl fun a hs => ?_
   refine nl ?_
   have hsh := oi hsh
   subst hsh
   have h268 := hd205 _ rfl
   subst h268
   refine wp_ret ?_
   refine blk_ret ?_
   refine then_ret ?_
   refine then_ret ?_
   refine blk_ret ?_
   refine then_ret ?_
   exact ret1 hs rfl (rv_tmp rfl) (hw.ret rfl)
  have hsh := ite_f hsh h267
  refine wp_skip ?_
  refine blk_normal ?_
  refine then_normal ?_
  refine wp_region_lit ?_
  refine mv hs rfl rfl fun a hs => ?_
  refine sv hs (y_add rfl rfl) rfl fun a hs => ?_
  obtain ⟨i270, h269, hsh⟩ := bind_t hsh
  refine sv hs (y_assignI rfl h269) rfl fun a hs => ?_
  refine nl ?_
  exact ⟨_, (Option.some.inj hsh).symm, Sv265, (hs.wk rfl), (hw.ft [] [0, 1] (by decide) rfl rfl)⟩
 have hsh := ite_f hsh h210
 obtain ⟨rv271, hsh, h272⟩ := map_t hsh
 have h272 := (hd205 _ h272.symm).symm
 subst h272
 refine wp_exit ?_
 refine then_exit ?_
 refine then_exit ?_
 refine blk_exit ?_
 refine then_normal ?_
 refine sr ?_
 refine av hs rfl rfl fun a hs => ?_
 refine nl ?_
 have hsh := oi hsh
 subst hsh
 refine wp_ret ?_
 exact ret1 hs rfl (rv_tmp rfl) (hw.ret rfl)

abbrev ref17_SameFraction_rd (w0 : World) (X : List Nat) (r : Bool) : (Nat → Prop) → World → Value → Prop := fun S w v => v = .bool r
set_option maxHeartbeats 4000000 in
set_option maxRecDepth 100000 in
theorem ref17_SameFraction_ok {w0 : World} {S0 : Nat → Prop} {p2 : Option Addr} {k3 : Nat} {p4 : Option Addr} {k5 : Nat} {p9 : Option Addr} {k10 : Nat} {p11 : Option Addr} {k12 : Nat} {a1 : Fraction} {b8 : Fraction} {r : Bool} (hsh : ref17_SameFraction a1 b8 = some r) (hS : ∀ b, S0 b → b < w0.heap.size) (h6 : (SlA p2 a1.Num.length k3 a1.Num).p S0 w0) (h7 : (SlA p4 a1.Den.length k5 a1.Den).p S0 w0) (h13 : (SlA p9 b8.Num.length k10 b8.Num).p S0 w0) (h14 : (SlA p11 b8.Den.length k12 b8.Den).p S0 w0) : Calls Try.prog 27 #[.agg #[.slice p2 a1.Num.length k3, .slice p4 a1.Den.length k5], .agg #[.slice p9 b8.Num.length k10, .slice p11 b8.Den.length k12]] w0 (Ret ([]) w0 S0 (ref17_SameFraction_rd w0 ([]) r)) := by
 refine calls_of_wp Try.func27 rfl ?_
 have hs := Sl.enter #[.agg #[.slice p2 a1.Num.length k3, .slice p4 a1.Den.length k5], .agg #[.slice p9 b8.Num.length k10, .slice p11 b8.Den.length k12]] 17 [(0, .agg #[.slice p2 a1.Num.length k3, .slice p4 a1.Den.length k5]), (1, .agg #[.slice p9 b8.Num.length k10, .slice p11 b8.Den.length k12])] rfl ⟨rfl, rfl, trivial⟩
 have hw := Wd.enter (E := []) hS (fun _ h => (by cases h))
 have hw := hw.addE h6
 have hw := hw.addE h7
 have hw := hw.addE h13
 have hw := hw.addE h14
 delta ref17_SameFraction at hsh
 refine sr ?_
 refine w_box (cs := [.slice p2 a1.Num.length k3, .slice p4 a1.Den.length k5]) hs hw rfl rfl rfl trivial ?_
 intro b15 a w hs hw
 refine w_box (cs := [.slice p9 b8.Num.length k10, .slice p11 b8.Den.length k12]) hs hw rfl rfl rfl trivial ?_
 intro b16 a w hs hw
 refine av hs rfl rfl fun a hs => ?_
 refine nl ?_
 refine sr ?_
 refine sv hs (y_fieldAddr (o' := 0) Try.runUnderlying31 rfl Try.sizeOf29 rfl rfl rfl) rfl fun a hs => ?_
 refine sv hs (y_loadB1 (hw.ownAt 1 rfl) rfl Try.isAgg29 rfl) rfl fun a hs => ?_
 refine sv hs (y_fieldAddr (o' := 0) Try.runUnderlying31 rfl Try.sizeOf29 rfl rfl rfl) rfl fun a hs => ?_
 refine sv hs (y_loadB1 (hw.ownAt 0 rfl) rfl Try.isAgg29 rfl) rfl fun a hs => ?_
 obtain ⟨rv18, h17, hsh⟩ := bind_t hsh
 refine st_callR hs (ref17_Same_ok h17 hw.bdom (hw.bE 3 rfl) (hw.bE 1 rfl)) (do_call Try.call58 rfl) trivial rfl rfl ?_
 intro v22 Sv19 w a h20 h21 hs
 subst h21
 have hw := hw.callB h20
 refine mv hs rfl rfl fun a hs => ?_
 obtain ⟨c32, hc32, hsh⟩ := bind_t hsh
 refine wpl_join 6 (fun a w => ∃ (Sv33 : Nat → Prop), Sl 17 [(16, .bool c32)] a ∧ Wd ⟨w0, S0, []⟩ Sv33 [] [] w) ?_ ?_
 ·rcases Bool.eq_false_or_eq_true rv18 with h31 | h31
  ·have hs := hs.fix 10 (.bool true) rfl (vb h31)
   have hsh := ite_t hc32 h31
   refine st_val hs (y_fieldAddr (o' := 1) Try.runUnderlying31 rfl Try.sizeOf29 rfl rfl rfl) ⟨_, rfl, rfl⟩ rfl rfl fun a hs => ?_
   refine st_val hs (y_loadB1 (hw.ownAt 1 rfl) rfl Try.isAgg29 rfl) ⟨_, rfl, rfl⟩ rfl rfl fun a hs => ?_
   refine st_val hs (y_fieldAddr (o' := 1) Try.runUnderlying31 rfl Try.sizeOf29 rfl rfl rfl) ⟨_, rfl, rfl⟩ rfl rfl fun a hs => ?_
   refine st_val hs (y_loadB1 (hw.ownAt 0 rfl) rfl Try.isAgg29 rfl) ⟨_, rfl, rfl⟩ rfl rfl fun a hs => ?_
   obtain ⟨rv35, h34, hsh⟩ := bind_t hsh
   refine st_callR hs (ref17_Same_ok h34 hw.bdom (hw.bE 2 rfl) (hw.bE 0 rfl)) (do_call Try.call58 rfl) ⟨_, rfl, rfl⟩ rfl rfl ?_
   intro v39 Sv36 w a h37 h38 hs
   subst h38
   have hw := hw.callB h37
   refine sv hs (y_pickT rfl rfl) rfl fun a hs => ?_
   refine wpList_nil ?_
   have hsh := oi hsh
   subst hsh
   refine then_normal ?_
   exact ⟨S0, (hs.wk rfl), (hw.ft [] [] (by decide) rfl rfl)⟩
  have hs := hs.fix 10 (.bool false) rfl (vb h31)
  have hsh := ite_f hc32 h31
  refine st_skip hs rfl rfl rfl rfl rfl fun a hs => ?_
  refine st_skip hs rfl rfl rfl rfl rfl fun a hs => ?_
  refine st_skip hs rfl rfl rfl rfl rfl fun a hs => ?_
  refine st_skip hs rfl rfl rfl rfl rfl fun a hs => ?_
  refine st_skip hs rfl rfl rfl rfl rfl fun a hs => ?_
  refine sv hs (y_pickF rfl rfl) rfl fun a hs => ?_
  refine wpList_nil ?_
  have hsh := oi hsh
  subst hsh
  refine then_normal ?_
  exact ⟨S0, (hs.wk rfl), (hw.ft [] [] (by decide) rfl rfl)⟩
 rintro a w ⟨Sv33, hs, hw⟩
 refine av hs rfl rfl fun a hs => ?_
 refine nl ?_
 have hsh := oi hsh
 subst hsh
 refine wp_ret ?_
 exact ret1 hs rfl (rv_tmp rfl) (hw.ret rfl)

abbrev ref02_gcd_rd (w0 : World) (X : List Nat) (r : Int) : (Nat → Prop) → World → Value → Prop := fun S w v => v = .int .i64 r
set_option maxHeartbeats 4000000 in
set_option maxRecDepth 100000 in
theorem ref02_gcd_ok {w0 : World} {S0 : Nat → Prop} {a1 : Int} {b2 : Int} {r : Int} (hsh : ref02_gcd a1 b2 = some r) (hS : ∀ b, S0 b → b < w0.heap.size) : Calls Try.prog 84 #[.int .i64 a1, .int .i64 b2] w0 (Ret ([]) w0 S0 (ref02_gcd_rd w0 ([]) r)) := by
 refine calls_of_wp Try.func84 rfl ?_
 have hs := Sl.enter #[.int .i64 a1, .int .i64 b2] 12 [(0, .int .i64 a1), (1, .int .i64 b2)] rfl ⟨rfl, rfl, trivial⟩
 have hw := Wd.enter (E := []) hS (fun _ h => (by cases h))
 delta ref02_gcd at hsh
 refine sr ?_
 refine av hs rfl rfl fun a hs => ?_
 refine nl ?_
 refine wp_seq ?_
 obtain ⟨e21, h32, hsh⟩ := bind_t hsh
 refine wp_join (fun a w => ∃ (Sv22 : Nat → Prop), Sl 12 [(0, .int .i64 e21)] a ∧ Wd ⟨w0, S0, []⟩ Sv22 [] [] w) ?_ ?_
 ·refine wp_block ?_
  refine wp_while (fun sv3 a w => ∃ (Sv13 : Nat → Prop), Sl 12 [(0, .int .i64 sv3.1), (1, .int .i64 sv3.2)] a ∧ Wd ⟨w0, S0, []⟩ Sv13 [] [] w) (a1, b2) h32 ⟨S0, (hs.wk rfl), (hw.ft [] [] (by decide) rfl rfl)⟩ ?_
  clear h32
  repeat clear hsh
  rintro sv3 a w tv19 ⟨Sv13, hs, hw⟩ hsh hd18
  delta ref02_gcd_l1 at hsh
  refine wp_seq ?_
  refine sr ?_
  refine mv hs rfl rfl fun a hs => ?_
  refine sv hs (y_neq rfl rfl) rfl fun a hs => ?_
  refine nl ?_
  refine wp_cond_split (hs.ev rfl) (fun h24 => ?_) (fun h24 => ?_)
  ·have hsh := ite_t hsh h24
   refine wp_skip ?_
   refine then_normal ?_
   refine wp_block ?_
   obtain ⟨rem29, h28, hsh⟩ := bind_t hsh
   refine wp_only (fun a w => ∃ (Sv30 : Nat → Prop), Sl 12 [(0, .int .i64 sv3.2), (1, .int .i64 rem29)] a ∧ Wd ⟨w0, S0, []⟩ Sv30 [] [] w) ?_ ?_
   ·refine h_b (C := Cls [] []) (by kernel_rfl) rfl (hw.drew.cs [] [] rfl rfl) fun hC => ?_
    have hw := hw.drew
    refine gm hs 0 rfl rfl rfl hC fun a hs => ?_
    refine gm hs 1 rfl rfl rfl hC fun a hs => ?_
    refine gm hs 2 rfl rfl rfl hC fun a hs => ?_
    refine gv hs 3 rfl rfl hC (fun w hC => y_remM rfl rfl h28) fun a hs => ?_
    refine gv hs 4 rfl rfl hC (fun w hC => y_assign rfl) fun a hs => ?_
    refine gv hs 5 rfl rfl hC (fun w hC => y_assign rfl) fun a hs => ?_
    refine h_done (by kernel_rfl) ?_
    exact ⟨Sv13, (hs.wk rfl), (hw.ft [] [] (by decide) rfl rfl)⟩
   rintro a w ⟨Sv30, hs, hw⟩
   refine blk_normal ?_
   refine then_normal ?_
   exact ⟨_, (Option.some.inj hsh).symm, Sv30, (hs.wk rfl), (hw.ft [] [] (by decide) rfl rfl)⟩
  have hsh := ite_f hsh h24
  refine wp_exit ?_
  refine then_exit ?_
  refine then_exit ?_
  refine blk_exit ?_
  have hsh := oi hsh
  subst hsh
  have h31 := hd18 _ rfl
  subst h31
  refine then_normal ?_
  exact ⟨Sv13, (hs.wk rfl), (hw.ft [] [] (by decide) rfl rfl)⟩
 rintro a w ⟨Sv22, hs, hw⟩
 refine then_normal ?_
 refine sr ?_
 refine mv hs rfl rfl fun a hs => ?_
 refine av hs rfl rfl fun a hs => ?_
 refine nl ?_
 have hsh := oi hsh
 subst hsh
 refine wp_ret ?_
 exact ret1 hs rfl (rv_tmp rfl) (hw.ret rfl)

abbrev ref02_New_rd (w0 : World) (X : List Nat) (r : (Rate × Int)) : (Nat → Prop) → World → Value → Prop := fun S w v => v = .tuple #[.agg #[.int .i64 r.1.Num, .int .i64 r.1.Den], .int .i64 r.2]
set_option maxHeartbeats 4000000 in
set_option maxRecDepth 100000 in
theorem ref02_New_ok {w0 : World} {S0 : Nat → Prop} {num1 : Int} {den2 : Int} {r : (Rate × Int)} (hsh : ref02_New num1 den2 = some r) (hS : ∀ b, S0 b → b < w0.heap.size) : Calls Try.prog 50 #[.int .i64 num1, .int .i64 den2] w0 (Ret ([]) w0 S0 (ref02_New_rd w0 ([]) r)) := by
 refine calls_of_wp Try.func50 rfl ?_
 have hs := Sl.enter #[.int .i64 num1, .int .i64 den2] 26 [(0, .int .i64 num1), (1, .int .i64 den2)] rfl ⟨rfl, rfl, trivial⟩
 have hw := Wd.enter (E := []) hS (fun _ h => (by cases h))
 delta ref02_New at hsh
 refine sr ?_
 refine w_alloc (cs := [.int .i64 0, .int .i64 0]) hs hw Try.zeroValue51 rfl rfl trivial ?_
 intro b3 a w hs hw
 refine av hs rfl rfl fun a hs => ?_
 refine nl ?_
 refine wp_seq ?_
 refine sr ?_
 refine mv hs rfl rfl fun a hs => ?_
 obtain ⟨rv5, h4, hsh⟩ := bind_t hsh
 refine st_callR hs (ref01_In_ok h4 hw.bdom) (do_call Try.call56 rfl) trivial rfl rfl ?_
 intro v9 Sv6 w a h7 h8 hs
 subst h8
 have hw := hw.callB h7
 refine sv hs (y_not rfl) rfl fun a hs => ?_
 refine mv hs rfl rfl fun a hs => ?_
 obtain ⟨c19, hc19, hsh⟩ := bind_t hsh
 refine wpl_join 4 (fun a w => ∃ (Sv20 : Nat → Prop), Sl 26 [(0, .int .i64 num1), (1, .int .i64 den2), (4, .pointer (some ⟨b3, 0, none⟩)), (14, .bool c19)] a ∧ Wd ⟨w0, S0, []⟩ Sv20 [.box b3 [.int .i64 0, .int .i64 0] 51] [] w) ?_ ?_
 ·rcases Bool.eq_false_or_eq_true (!rv5) with h18 | h18
  ·have hs := hs.fix 10 (.bool true) rfl (vb h18)
   have hsh := ite_t hc19 h18
   refine st_skip hs rfl rfl rfl rfl rfl fun a hs => ?_
   refine st_skip hs rfl rfl rfl rfl rfl fun a hs => ?_
   refine st_skip hs rfl rfl rfl rfl rfl fun a hs => ?_
   refine sv hs (y_pickT rfl rfl) rfl fun a hs => ?_
   refine wpList_nil ?_
   have hsh := oi hsh
   subst hsh
   refine then_normal ?_
   exact ⟨S0, (hs.wk rfl), (hw.ft [0] [] (by decide) rfl rfl)⟩
  have hs := hs.fix 10 (.bool false) rfl (vb h18)
  have hsh := ite_f hc19 h18
  refine st_val hs (y_move rfl) ⟨_, rfl, rfl⟩ rfl rfl fun a hs => ?_
  obtain ⟨rv22, h21, hsh⟩ := bind_t hsh
  refine st_callR hs (ref01_In_ok h21 hw.bdom) (do_call Try.call56 rfl) ⟨_, rfl, rfl⟩ rfl rfl ?_
  intro v26 Sv23 w a h24 h25 hs
  subst h25
  have hw := hw.callB h24
  refine st_val hs (y_not rfl) ⟨_, rfl, rfl⟩ rfl rfl fun a hs => ?_
  refine sv hs (y_pickF rfl rfl) rfl fun a hs => ?_
  refine wpList_nil ?_
  have hsh := oi hsh
  subst hsh
  refine then_normal ?_
  exact ⟨S0, (hs.wk rfl), (hw.ft [0] [] (by decide) rfl rfl)⟩
 rintro a w ⟨Sv20, hs, hw⟩
 refine nl ?_
 refine wp_cond_split (hs.ev rfl) (fun h29 => ?_) (fun h29 => ?_)
 ·have hsh := ite_t hsh h29
  refine sr ?_
  refine sv hs (y_build (vs := []) Bld51 rfl rfl) rfl fun a hs => ?_
  refine w_store (m := 2) (cs' := [.int .i64 0, .int .i64 0]) hs hw 0 rfl rfl rfl Try.sizeOf51 rfl rfl rfl rfl trivial ?_
  intro a w hs hw
  refine av hs rfl rfl fun a hs => ?_
  refine nl ?_
  have hsh := oi hsh
  subst hsh
  refine wp_ret ?_
  refine then_ret ?_
  exact ret2 hs rfl (rv_cell hw 0 rfl rfl Try.isAgg51 Try.sizeOf51 rfl) (rv_tmp rfl) (hw.ret rfl)
 have hsh := ite_f hsh h29
 refine wp_skip ?_
 refine then_normal ?_
 refine sr ?_
 refine mv hs rfl rfl fun a hs => ?_
 refine mv hs rfl rfl fun a hs => ?_
 obtain ⟨rv31, h30, hsh⟩ := bind_t hsh
 refine st_callR hs (ref02_gcd_ok h30 hw.bdom) (do_call Try.call84 rfl) trivial rfl rfl ?_
 intro v35 Sv32 w a h33 h34 hs
 subst h34
 have hw := hw.callB h33
 refine av hs rfl rfl fun a hs => ?_
 refine nl ?_
 refine wp_seq ?_
 obtain ⟨quo38, h37, hsh⟩ := bind_t hsh
 obtain ⟨quo40, h39, hsh⟩ := bind_t hsh
 refine wp_only (fun a w => ∃ (Sv41 : Nat → Prop), Sl 26 [(4, .pointer (some ⟨b3, 0, none⟩)), (5, .int .i64 0)] a ∧ Wd ⟨w0, S0, []⟩ Sv41 [.box b3 [.int .i64 quo38, .int .i64 quo40] 51] [] w) ?_ ?_
 ·refine h_b (C := Cls [] []) (by kernel_rfl) rfl (hw.drew.cs [] [] rfl rfl) fun hC => ?_
  have hw := hw.drew
  refine gm hs 0 rfl rfl rfl hC fun a hs => ?_
  refine gm hs 1 rfl rfl rfl hC fun a hs => ?_
  refine gv hs 2 rfl rfl hC (fun w hC => y_quoM rfl rfl h37) fun a hs => ?_
  refine gm hs 3 rfl rfl rfl hC fun a hs => ?_
  refine gm hs 4 rfl rfl rfl hC fun a hs => ?_
  refine gv hs 5 rfl rfl hC (fun w hC => y_quoM rfl rfl h39) fun a hs => ?_
  refine gv hs 6 rfl rfl hC (fun w hC => y_build (vs := [(0, .int .i64 quo38), (1, .int .i64 quo40)]) Bld51 rfl rfl) fun a hs => ?_
  refine ho 7 rfl ?_
  refine w_store (m := 2) (cs' := [.int .i64 quo38, .int .i64 quo40]) hs hw 0 rfl rfl rfl Try.sizeOf51 rfl rfl rfl rfl trivial ?_
  intro a w hs hw
  refine h_nx (hw.cs [] [] rfl rfl) fun hC => ?_
  refine gv hs 8 rfl rfl hC (fun w hC => y_assign rfl) fun a hs => ?_
  refine h_done (by kernel_rfl) ?_
  exact ⟨Sv20, (hs.wk rfl), (hw.ft [0] [] (by decide) rfl rfl)⟩
 rintro a w ⟨Sv41, hs, hw⟩
 refine then_normal ?_
 have hsh := oi hsh
 subst hsh
 refine wp_ret ?_
 exact ret2 hs rfl (rv_cell hw 0 rfl rfl Try.isAgg51 Try.sizeOf51 rfl) (rv_tmp rfl) (hw.ret rfl)

abbrev made_Dice_Rate_rd (w0 : World) (X : List Nat) (b2 : Nat) (r : (Rate × Dice)) : (Nat → Prop) → World → Value → Prop := fun S w v => ∃ (pq0_0 : Option Addr) (kq0_0 : Nat), v = .agg #[.int .i64 r.1.Num, .int .i64 r.1.Den] ∧ Outs X w0 S w [.box b2 [.slice pq0_0 r.2.L.length kq0_0, .int .i64 r.2.At] 84] ∧ (SlA pq0_0 r.2.L.length kq0_0 r.2.L).p S w
set_option maxHeartbeats 4000000 in
set_option maxRecDepth 100000 in
theorem made_Dice_Rate_ok {w0 : World} {S0 : Nat → Prop} {b2 : Nat} {p3 : Option Addr} {k4 : Nat} {d1 : Dice} {r : (Rate × Dice)} (hsh : made_Dice_Rate d1 = some r) (hS : ∀ b, S0 b → b < w0.heap.size) (hin : Ins S0 w0 [.box b2 [.slice p3 d1.L.length k4, .int .i64 d1.At] 84]) (h5 : (SlA p3 d1.L.length k4 d1.L).p S0 w0) : Calls Try.prog 17 #[.pointer (some ⟨b2, 0, none⟩)] w0 (Ret (blks [.box b2 [.slice p3 d1.L.length k4, .int .i64 d1.At] 84]) w0 S0 (made_Dice_Rate_rd w0 (blks [.box b2 [.slice p3 d1.L.length k4, .int .i64 d1.At] 84]) b2 r)) := by
 refine calls_of_wp Try.func17 rfl ?_
 have hs := Sl.enter #[.pointer (some ⟨b2, 0, none⟩)] 16 [(0, .pointer (some ⟨b2, 0, none⟩))] rfl ⟨rfl, trivial⟩
 have hw := Wd.enterI hS hin
 have hw := hw.addE h5
 delta made_Dice_Rate at hsh
 refine sr ?_
 refine w_alloc (cs := [.int .i64 0, .int .i64 0]) hs hw Try.zeroValue51 rfl rfl trivial ?_
 intro b6 a w hs hw
 refine nl ?_
 refine sr ?_
 refine mv hs rfl rfl fun a hs => ?_
 refine w_litSlice (α := Int) (vs := [.int .i64 1, .int .i64 3, .int .i64 20, .int .i64 100, .int .i64 40, .int .i64 4096, .int .i64 7]) (cs := [.int .i64 1, .int .i64 3, .int .i64 20, .int .i64 100, .int .i64 40, .int .i64 4096, .int .i64 7]) (xs := ([1, 3, 20, 100, 40, 4096, 7] : List Int)) hs hw El24 rfl rfl rfl rfl rfl rfl ⟨⟨_, rfl, rfl⟩, ⟨⟨_, rfl, rfl⟩, ⟨⟨_, rfl, rfl⟩, ⟨⟨_, rfl, rfl⟩, ⟨⟨_, rfl, rfl⟩, ⟨⟨_, rfl, rfl⟩, ⟨⟨_, rfl, rfl⟩, rfl⟩⟩⟩⟩⟩⟩⟩ rfl trivial rfl fun b8 a w hs hw => ?_
 obtain ⟨rv10, h9, hsh⟩ := bind_t hsh
 obtain ⟨Sv14, hw⟩ := w_share (α := Int) hw 0 rfl 0 rfl
 refine st_callR hs (made_Dice_Pick_ok h9 hw.dom (hw.ins [1] (by decide) rfl) (hw.envAt 2 rfl) (hw.envAt 0 rfl)) (do_call Try.call25 rfl) trivial rfl rfl ?_
 intro v18 Sv15 w a h16 h17 hs
 obtain ⟨p11, k12, rfl, h19, h13⟩ := h17
 have hw := hw.callO [1] [0] (by decide) rfl h16 h19
 have hw := hw.addE (e := SlA p11 rv10.2.L.length k12 rv10.2.L) h13
 refine mv hs rfl rfl fun a hs => ?_
 refine w_litSlice (α := Int) (vs := [.int .i64 1, .int .i64 1, .int .i64 1, .int .i64 3, .int .i64 7, .int .i64 4096]) (cs := [.int .i64 1, .int .i64 1, .int .i64 1, .int .i64 3, .int .i64 7, .int .i64 4096]) (xs := ([1, 1, 1, 3, 7, 4096] : List Int)) hs hw El24 rfl rfl rfl rfl rfl rfl ⟨⟨_, rfl, rfl⟩, ⟨⟨_, rfl, rfl⟩, ⟨⟨_, rfl, rfl⟩, ⟨⟨_, rfl, rfl⟩, ⟨⟨_, rfl, rfl⟩, ⟨⟨_, rfl, rfl⟩, rfl⟩⟩⟩⟩⟩⟩ rfl trivial rfl fun b21 a w hs hw => ?_
 obtain ⟨rv23, h22, hsh⟩ := bind_t hsh
 obtain ⟨Sv27, hw⟩ := w_share (α := Int) hw 0 rfl 0 rfl
 refine st_callR hs (made_Dice_Pick_ok h22 hw.dom (hw.ins [0] (by decide) rfl) (hw.envAt 2 rfl) (hw.envAt 0 rfl)) (do_call Try.call25 rfl) trivial rfl rfl ?_
 intro v31 Sv28 w a h29 h30 hs
 obtain ⟨p24, k25, rfl, h32, h26⟩ := h30
 have hw := hw.callO [0] [1] (by decide) rfl h29 h32
 have hw := hw.addE (e := SlA p24 rv23.2.L.length k25 rv23.2.L) h26
 obtain ⟨rv34, h33, hsh⟩ := bind_t hsh
 refine st_callR hs (ref02_New_ok h33 hw.bdom) (do_call Try.call50 rfl) trivial rfl rfl ?_
 intro v38 Sv35 w a h36 h37 hs
 subst h37
 have hw := hw.callB h36
 refine mv hs rfl rfl fun a hs => ?_
 refine sv hs (y_extract rfl rfl) rfl fun a hs => ?_
 refine sv hs (y_extract rfl rfl) rfl fun a hs => ?_
 refine w_alloc (cs := [.int .i64 0, .int .i64 0]) hs hw Try.zeroValue51 rfl rfl trivial ?_
 intro b40 a w hs hw
 refine w_store (m := 2) (cs' := [.int .i64 rv34.1.Num, .int .i64 rv34.1.Den]) hs hw 0 rfl rfl rfl Try.sizeOf51 rfl rfl rfl rfl trivial ?_
 intro a w hs hw
 refine av hs rfl rfl fun a hs => ?_
 refine nl ?_
 refine sr ?_
 refine sv hs (y_loadBA (hw.ownAt 0 rfl) rfl Try.isAgg51 Try.sizeOf51 rfl rfl) rfl fun a hs => ?_
 refine w_store (m := 2) (cs' := [.int .i64 rv34.1.Num, .int .i64 rv34.1.Den]) hs hw 2 rfl rfl rfl Try.sizeOf51 rfl rfl rfl rfl trivial ?_
 intro a w hs hw
 refine nl ?_
 have hsh := oi hsh
 subst hsh
 refine wp_ret ?_
 exact ret1 hs rfl (rv_cell hw 2 rfl rfl Try.isAgg51 Try.sizeOf51 rfl) (hw.ret ⟨p24, k25, rfl, (hw.outs [1] (by decide) rfl), (hw.envAt 0 rfl)⟩)

abbrev response_Input_rd (w0 : World) (X : List Nat) (r : (Rate × Int)) : (Nat → Prop) → World → Value → Prop := fun S w v => v = .tuple #[.agg #[.int .i64 r.1.Num, .int .i64 r.1.Den], .int .i64 r.2]
set_option maxHeartbeats 4000000 in
set_option maxRecDepth 100000 in
theorem response_Input_ok {w0 : World} {S0 : Nat → Prop} {p2 : Option Addr} {k3 : Nat} {r1 : Response} {out5 : Rate} {r : (Rate × Int)} (hsh : response_Input r1 out5 = some r) (hS : ∀ b, S0 b → b < w0.heap.size) (h4 : (SlA p2 r1.Stages.length k3 r1.Stages).p S0 w0) : Calls Try.prog 19 #[.agg #[.slice p2 r1.Stages.length k3], .agg #[.int .i64 out5.Num, .int .i64 out5.Den]] w0 (Ret ([]) w0 S0 (response_Input_rd w0 ([]) r)) := by
 refine calls_of_wp Try.func19 rfl ?_
 have hs := Sl.enter #[.agg #[.slice p2 r1.Stages.length k3], .agg #[.int .i64 out5.Num, .int .i64 out5.Den]] 29 [(0, .agg #[.slice p2 r1.Stages.length k3]), (1, .agg #[.int .i64 out5.Num, .int .i64 out5.Den])] rfl ⟨rfl, rfl, trivial⟩
 have hw := Wd.enter (E := []) hS (fun _ h => (by cases h))
 have hw := hw.addE h4
 delta response_Input at hsh
 refine sr ?_
 refine w_box (cs := [.slice p2 r1.Stages.length k3]) hs hw rfl rfl rfl trivial ?_
 intro b6 a w hs hw
 refine w_box (cs := [.int .i64 out5.Num, .int .i64 out5.Den]) hs hw rfl rfl rfl trivial ?_
 intro b7 a w hs hw
 refine w_alloc (cs := [.int .i64 0, .int .i64 0]) hs hw Try.zeroValue51 rfl rfl trivial ?_
 intro b8 a w hs hw
 refine av hs rfl rfl fun a hs => ?_
 refine nl ?_
 refine wp_seq ?_
 refine sr ?_
 refine sv hs (y_loadBA (hw.ownAt 2 rfl) rfl Try.isAgg37 Try.sizeOf37 rfl rfl) rfl fun a hs => ?_
 obtain ⟨rv10, h9, hsh⟩ := bind_t hsh
 refine st_callR hs (response_Valid_ok h9 hw.bdom (hw.bE 0 rfl)) (do_call Try.call33 rfl) trivial rfl rfl ?_
 intro v14 Sv11 w a h12 h13 hs
 subst h13
 have hw := hw.callB h12
 refine sv hs (y_not rfl) rfl fun a hs => ?_
 refine mv hs rfl rfl fun a hs => ?_
 obtain ⟨c24, hc24, hsh⟩ := bind_t hsh
 refine wpl_join 4 (fun a w => ∃ (Sv25 : Nat → Prop), Sl 29 [(2, .pointer (some ⟨b6, 0, none⟩)), (3, .pointer (some ⟨b7, 0, none⟩)), (4, .pointer (some ⟨b8, 0, none⟩)), (15, .bool c24)] a ∧ Wd ⟨w0, S0, []⟩ Sv25 [.box b6 [.slice p2 r1.Stages.length k3] 37, .box b7 [.int .i64 out5.Num, .int .i64 out5.Den] 51, .box b8 [.int .i64 0, .int .i64 0] 51] [SlA p2 r1.Stages.length k3 r1.Stages] w) ?_ ?_
 ·rcases Bool.eq_false_or_eq_true (!rv10) with h23 | h23
  ·have hs := hs.fix 11 (.bool true) rfl (vb h23)
   have hsh := ite_t hc24 h23
   refine st_skip hs rfl rfl rfl rfl rfl fun a hs => ?_
   refine st_skip hs rfl rfl rfl rfl rfl fun a hs => ?_
   refine st_skip hs rfl rfl rfl rfl rfl fun a hs => ?_
   refine sv hs (y_pickT rfl rfl) rfl fun a hs => ?_
   refine wpList_nil ?_
   have hsh := oi hsh
   subst hsh
   refine then_normal ?_
   exact ⟨S0, (hs.wk rfl), (hw.ft [2, 1, 0] [0] (by decide) rfl rfl)⟩
  have hs := hs.fix 11 (.bool false) rfl (vb h23)
  have hsh := ite_f hc24 h23
  refine st_val hs (y_loadBA (hw.ownAt 1 rfl) rfl Try.isAgg51 Try.sizeOf51 rfl rfl) ⟨_, rfl, rfl⟩ rfl rfl fun a hs => ?_
  obtain ⟨rv27, h26, hsh⟩ := bind_t hsh
  refine st_callR hs (rate_Valid_ok h26 hw.bdom) (do_call Try.call52 rfl) ⟨_, rfl, rfl⟩ rfl rfl ?_
  intro v31 Sv28 w a h29 h30 hs
  subst h30
  have hw := hw.callB h29
  refine st_val hs (y_not rfl) ⟨_, rfl, rfl⟩ rfl rfl fun a hs => ?_
  refine sv hs (y_pickF rfl rfl) rfl fun a hs => ?_
  refine wpList_nil ?_
  have hsh := oi hsh
  subst hsh
  refine then_normal ?_
  exact ⟨S0, (hs.wk rfl), (hw.ft [2, 1, 0] [0] (by decide) rfl rfl)⟩
 rintro a w ⟨Sv25, hs, hw⟩
 refine nl ?_
 refine wp_cond_split (hs.ev rfl) (fun h34 => ?_) (fun h34 => ?_)
 ·have hsh := ite_t hsh h34
  refine sr ?_
  refine sv hs (y_build (vs := []) Bld51 rfl rfl) rfl fun a hs => ?_
  refine w_store (m := 2) (cs' := [.int .i64 0, .int .i64 0]) hs hw 2 rfl rfl rfl Try.sizeOf51 rfl rfl rfl rfl trivial ?_
  intro a w hs hw
  refine av hs rfl rfl fun a hs => ?_
  refine nl ?_
  have hsh := oi hsh
  subst hsh
  refine wp_ret ?_
  refine then_ret ?_
  exact ret2 hs rfl (rv_cell hw 2 rfl rfl Try.isAgg51 Try.sizeOf51 rfl) (rv_tmp rfl) (hw.ret rfl)
 have hsh := ite_f hsh h34
 refine wp_skip ?_
 refine then_normal ?_
 refine wp_seq ?_
 obtain ⟨rv36, h35, hsh⟩ := bind_t hsh
 obtain ⟨rv38, h37, hsh⟩ := bind_t hsh
 refine wp_only (fun a w => ∃ (Sv40 : Nat → Prop) (b39 : Nat), Sl 29 [(4, .pointer (some ⟨b8, 0, none⟩)), (6, .pointer (some ⟨b39, 0, none⟩)), (7, .bool rv38.2)] a ∧ Wd ⟨w0, S0, []⟩ Sv40 [.box b8 [.int .i64 0, .int .i64 0] 51, .box b39 [.int .i64 rv38.1.Num, .int .i64 rv38.1.Den] 51] [] w) ?_ ?_
 ·refine h_b (C := Cls [.box b6 [.slice p2 r1.Stages.length k3] 37, .box b7 [.int .i64 out5.Num, .int .i64 out5.Den] 51, .box b8 [.int .i64 0, .int .i64 0] 51] []) (by kernel_rfl) rfl (hw.drew.cs [0, 1, 2] [] rfl rfl) fun hC => ?_
  have hw := hw.drew
  refine gv hs 0 rfl rfl hC (fun w hC => y_loadBA (hC.ownAt 1 rfl) rfl Try.isAgg51 Try.sizeOf51 rfl rfl) fun a hs => ?_
  refine gv hs 1 rfl rfl hC (fun w hC => y_fieldAddr (o' := 0) Try.runUnderlying37 rfl Try.sizeOf35 rfl rfl rfl) fun a hs => ?_
  refine gv hs 2 rfl rfl hC (fun w hC => y_loadB1 (hC.ownAt 0 rfl) rfl Try.isAgg35 rfl) fun a hs => ?_
  refine h_all (rs := [3, 8]) (by kernel_rfl) rfl ?_
  refine AllH.cons rfl ?_ ?_
  ·refine st_callR hs (response_factor_ok h35 hw.bdom (hw.bE 0 rfl)) (do_call Try.call51 rfl) trivial rfl rfl ?_
   intro v44 Sv41 w a h42 h43 hs
   subst h43
   have hw := hw.callB h42
   refine h_nx (hw.cs [0, 1, 2] [] rfl rfl) fun hC => ?_
   refine h_all (rs := [4, 8]) (by kernel_rfl) rfl ?_
   refine AllH.cons rfl ?_ ?_
   ·refine st_callR hs (response_faster_ok h37 hw.bdom) (do_call Try.call53 rfl) trivial rfl rfl ?_
    intro v49 Sv46 w a h47 h48 hs
    subst h48
    have hw := hw.callB h47
    refine h_nx (hw.cs [0, 1, 2] [] rfl rfl) fun hC => ?_
    refine gm hs 5 rfl rfl rfl hC fun a hs => ?_
    refine gv hs 6 rfl rfl hC (fun w hC => y_extract rfl rfl) fun a hs => ?_
    refine gv hs 7 rfl rfl hC (fun w hC => y_extract rfl rfl) fun a hs => ?_
    refine ho 8 rfl ?_
    refine w_alloc (cs := [.int .i64 0, .int .i64 0]) hs hw Try.zeroValue51 rfl rfl trivial ?_
    intro b39 a w hs hw
    refine h_nx (hw.cs [1, 2, 3] [] rfl rfl) fun hC => ?_
    refine ho 9 rfl ?_
    refine w_store (m := 2) (cs' := [.int .i64 rv38.1.Num, .int .i64 rv38.1.Den]) hs hw 0 rfl rfl rfl Try.sizeOf51 rfl rfl rfl rfl trivial ?_
    intro a w hs hw
    refine h_nx (hw.cs [1, 2, 3] [] rfl rfl) fun hC => ?_
    refine gv hs 10 rfl rfl hC (fun w hC => y_assign rfl) fun a hs => ?_
    refine h_done (by kernel_rfl) ?_
    exact ⟨Sv25, b39, (hs.wk rfl), (hw.ft [3, 0] [] (by decide) rfl rfl)⟩
   refine AllH.cons rfl ?_ ?_
   ·refine w_alloc (cs := [.int .i64 0, .int .i64 0]) hs hw Try.zeroValue51 rfl rfl trivial ?_
    intro b39 a w hs hw
    refine h_nx (hw.cs [1, 2, 3] [] rfl rfl) fun hC => ?_
    refine ho 4 rfl ?_
    refine st_callR hs (response_faster_ok h37 hw.bdom) (do_call Try.call53 rfl) trivial rfl rfl ?_
    intro v54 Sv51 w a h52 h53 hs
    subst h53
    have hw := hw.callB h52
    refine h_nx (hw.cs [1, 2, 3] [] rfl rfl) fun hC => ?_
    refine gm hs 5 rfl rfl rfl hC fun a hs => ?_
    refine gv hs 6 rfl rfl hC (fun w hC => y_extract rfl rfl) fun a hs => ?_
    refine gv hs 7 rfl rfl hC (fun w hC => y_extract rfl rfl) fun a hs => ?_
    refine ho 9 rfl ?_
    refine w_store (m := 2) (cs' := [.int .i64 rv38.1.Num, .int .i64 rv38.1.Den]) hs hw 0 rfl rfl rfl Try.sizeOf51 rfl rfl rfl rfl trivial ?_
    intro a w hs hw
    refine h_nx (hw.cs [1, 2, 3] [] rfl rfl) fun hC => ?_
    refine gv hs 10 rfl rfl hC (fun w hC => y_assign rfl) fun a hs => ?_
    refine h_done (by kernel_rfl) ?_
    exact ⟨Sv25, b39, (hs.wk rfl), (hw.ft [3, 0] [] (by decide) rfl rfl)⟩
   exact AllH.nil
  refine AllH.cons rfl ?_ ?_
  ·refine w_alloc (cs := [.int .i64 0, .int .i64 0]) hs hw Try.zeroValue51 rfl rfl trivial ?_
   intro b39 a w hs hw
   refine h_nx (hw.cs [1, 2, 3] [] rfl rfl) fun hC => ?_
   refine ho 3 rfl ?_
   refine st_callR hs (response_factor_ok h35 hw.bdom (hw.bE 0 rfl)) (do_call Try.call51 rfl) trivial rfl rfl ?_
   intro v59 Sv56 w a h57 h58 hs
   subst h58
   have hw := hw.callB h57
   refine h_nx (hw.cs [1, 2, 3] [] rfl rfl) fun hC => ?_
   refine ho 4 rfl ?_
   refine st_callR hs (response_faster_ok h37 hw.bdom) (do_call Try.call53 rfl) trivial rfl rfl ?_
   intro v64 Sv61 w a h62 h63 hs
   subst h63
   have hw := hw.callB h62
   refine h_nx (hw.cs [1, 2, 3] [] rfl rfl) fun hC => ?_
   refine gm hs 5 rfl rfl rfl hC fun a hs => ?_
   refine gv hs 6 rfl rfl hC (fun w hC => y_extract rfl rfl) fun a hs => ?_
   refine gv hs 7 rfl rfl hC (fun w hC => y_extract rfl rfl) fun a hs => ?_
   refine ho 9 rfl ?_
   refine w_store (m := 2) (cs' := [.int .i64 rv38.1.Num, .int .i64 rv38.1.Den]) hs hw 0 rfl rfl rfl Try.sizeOf51 rfl rfl rfl rfl trivial ?_
   intro a w hs hw
   refine h_nx (hw.cs [1, 2, 3] [] rfl rfl) fun hC => ?_
   refine gv hs 10 rfl rfl hC (fun w hC => y_assign rfl) fun a hs => ?_
   refine h_done (by kernel_rfl) ?_
   exact ⟨Sv25, b39, (hs.wk rfl), (hw.ft [3, 0] [] (by decide) rfl rfl)⟩
  exact AllH.nil
 rintro a w ⟨Sv40, b39, hs, hw⟩
 refine then_normal ?_
 refine wp_seq ?_
 refine sr ?_
 refine mv hs rfl rfl fun a hs => ?_
 refine sv hs (y_not rfl) rfl fun a hs => ?_
 refine nl ?_
 refine wp_cond_split (hs.ev rfl) (fun h67 => ?_) (fun h67 => ?_)
 ·have hsh := ite_t hsh h67
  refine sr ?_
  refine sv hs (y_build (vs := []) Bld51 rfl rfl) rfl fun a hs => ?_
  refine w_store (m := 2) (cs' := [.int .i64 0, .int .i64 0]) hs hw 0 rfl rfl rfl Try.sizeOf51 rfl rfl rfl rfl trivial ?_
  intro a w hs hw
  refine av hs rfl rfl fun a hs => ?_
  refine nl ?_
  have hsh := oi hsh
  subst hsh
  refine wp_ret ?_
  refine then_ret ?_
  exact ret2 hs rfl (rv_cell hw 0 rfl rfl Try.isAgg51 Try.sizeOf51 rfl) (rv_tmp rfl) (hw.ret rfl)
 have hsh := ite_f hsh h67
 refine wp_skip ?_
 refine then_normal ?_
 refine sr ?_
 refine sv hs (y_loadBA (hw.ownAt 1 rfl) rfl Try.isAgg51 Try.sizeOf51 rfl rfl) rfl fun a hs => ?_
 refine w_store (m := 2) (cs' := [.int .i64 rv38.1.Num, .int .i64 rv38.1.Den]) hs hw 0 rfl rfl rfl Try.sizeOf51 rfl rfl rfl rfl trivial ?_
 intro a w hs hw
 refine av hs rfl rfl fun a hs => ?_
 refine nl ?_
 have hsh := oi hsh
 subst hsh
 refine wp_ret ?_
 exact ret2 hs rfl (rv_cell hw 0 rfl rfl Try.isAgg51 Try.sizeOf51 rfl) (rv_tmp rfl) (hw.ret rfl)

abbrev ref02_Valid_rd (w0 : World) (X : List Nat) (r : Bool) : (Nat → Prop) → World → Value → Prop := fun S w v => v = .bool r
set_option maxHeartbeats 4000000 in
set_option maxRecDepth 100000 in
theorem ref02_Valid_ok {w0 : World} {S0 : Nat → Prop} {r1 : Rate} {r : Bool} (hsh : ref02_Valid r1 = some r) (hS : ∀ b, S0 b → b < w0.heap.size) : Calls Try.prog 59 #[.agg #[.int .i64 r1.Num, .int .i64 r1.Den]] w0 (Ret ([]) w0 S0 (ref02_Valid_rd w0 ([]) r)) := by
 refine calls_of_wp Try.func59 rfl ?_
 have hs := Sl.enter #[.agg #[.int .i64 r1.Num, .int .i64 r1.Den]] 19 [(0, .agg #[.int .i64 r1.Num, .int .i64 r1.Den])] rfl ⟨rfl, trivial⟩
 have hw := Wd.enter (E := []) hS (fun _ h => (by cases h))
 delta ref02_Valid at hsh
 refine sr ?_
 refine w_box (cs := [.int .i64 r1.Num, .int .i64 r1.Den]) hs hw rfl rfl rfl trivial ?_
 intro b2 a w hs hw
 refine av hs rfl rfl fun a hs => ?_
 refine nl ?_
 refine sr ?_
 refine sv hs (y_fieldAddr (o' := 0) Try.runUnderlying51 rfl Try.sizeOf3 rfl rfl rfl) rfl fun a hs => ?_
 refine sv hs (y_loadB1 (hw.ownAt 0 rfl) rfl Try.isAgg3 rfl) rfl fun a hs => ?_
 obtain ⟨rv4, h3, hsh⟩ := bind_t hsh
 refine st_callR hs (ref01_In_ok h3 hw.bdom) (do_call Try.call56 rfl) trivial rfl rfl ?_
 intro v8 Sv5 w a h6 h7 hs
 subst h7
 have hw := hw.callB h6
 refine mv hs rfl rfl fun a hs => ?_
 obtain ⟨c18, hc18, hsh⟩ := bind_t hsh
 refine wpl_join 4 (fun a w => ∃ (Sv19 : Nat → Prop), Sl 19 [(1, .pointer (some ⟨b2, 0, none⟩)), (10, .bool c18)] a ∧ Wd ⟨w0, S0, []⟩ Sv19 [.box b2 [.int .i64 r1.Num, .int .i64 r1.Den] 51] [] w) ?_ ?_
 ·rcases Bool.eq_false_or_eq_true rv4 with h17 | h17
  ·have hs := hs.fix 6 (.bool true) rfl (vb h17)
   have hsh := ite_t hc18 h17
   refine st_val hs (y_fieldAddr (o' := 1) Try.runUnderlying51 rfl Try.sizeOf3 rfl rfl rfl) ⟨_, rfl, rfl⟩ rfl rfl fun a hs => ?_
   refine st_val hs (y_loadB1 (hw.ownAt 0 rfl) rfl Try.isAgg3 rfl) ⟨_, rfl, rfl⟩ rfl rfl fun a hs => ?_
   obtain ⟨rv21, h20, hsh⟩ := bind_t hsh
   refine st_callR hs (ref01_In_ok h20 hw.bdom) (do_call Try.call56 rfl) ⟨_, rfl, rfl⟩ rfl rfl ?_
   intro v25 Sv22 w a h23 h24 hs
   subst h24
   have hw := hw.callB h23
   refine sv hs (y_pickT rfl rfl) rfl fun a hs => ?_
   refine wpList_nil ?_
   have hsh := oi hsh
   subst hsh
   refine then_normal ?_
   exact ⟨S0, (hs.wk rfl), (hw.ft [0] [] (by decide) rfl rfl)⟩
  have hs := hs.fix 6 (.bool false) rfl (vb h17)
  have hsh := ite_f hc18 h17
  refine st_skip hs rfl rfl rfl rfl rfl fun a hs => ?_
  refine st_skip hs rfl rfl rfl rfl rfl fun a hs => ?_
  refine st_skip hs rfl rfl rfl rfl rfl fun a hs => ?_
  refine sv hs (y_pickF rfl rfl) rfl fun a hs => ?_
  refine wpList_nil ?_
  have hsh := oi hsh
  subst hsh
  refine then_normal ?_
  exact ⟨S0, (hs.wk rfl), (hw.ft [0] [] (by decide) rfl rfl)⟩
 rintro a w ⟨Sv19, hs, hw⟩
 refine mv hs rfl rfl fun a hs => ?_
 obtain ⟨c35, hc35, hsh⟩ := bind_t hsh
 refine wpl_join 7 (fun a w => ∃ (Sv36 : Nat → Prop), Sl 19 [(18, .bool c35)] a ∧ Wd ⟨w0, S0, []⟩ Sv36 [] [] w) ?_ ?_
 ·rcases Bool.eq_false_or_eq_true c18 with h34 | h34
  ·have hs := hs.fix 11 (.bool true) rfl (vb h34)
   have hsh := ite_t hc35 h34
   refine st_val hs (y_fieldAddr (o' := 0) Try.runUnderlying51 rfl Try.sizeOf3 rfl rfl rfl) ⟨_, rfl, rfl⟩ rfl rfl fun a hs => ?_
   refine st_val hs (y_loadB1 (hw.ownAt 0 rfl) rfl Try.isAgg3 rfl) ⟨_, rfl, rfl⟩ rfl rfl fun a hs => ?_
   refine st_val hs (y_fieldAddr (o' := 1) Try.runUnderlying51 rfl Try.sizeOf3 rfl rfl rfl) ⟨_, rfl, rfl⟩ rfl rfl fun a hs => ?_
   refine st_val hs (y_loadB1 (hw.ownAt 0 rfl) rfl Try.isAgg3 rfl) ⟨_, rfl, rfl⟩ rfl rfl fun a hs => ?_
   obtain ⟨rv38, h37, hsh⟩ := bind_t hsh
   refine st_callR hs (ref02_gcd_ok h37 hw.bdom) (do_call Try.call84 rfl) ⟨_, rfl, rfl⟩ rfl rfl ?_
   intro v42 Sv39 w a h40 h41 hs
   subst h41
   have hw := hw.callB h40
   refine st_val hs (y_eql rfl rfl) ⟨_, rfl, rfl⟩ rfl rfl fun a hs => ?_
   refine sv hs (y_pickT rfl rfl) rfl fun a hs => ?_
   refine wpList_nil ?_
   have hsh := oi hsh
   subst hsh
   refine then_normal ?_
   exact ⟨Sv19, (hs.wk rfl), (hw.ft [] [] (by decide) rfl rfl)⟩
  have hs := hs.fix 11 (.bool false) rfl (vb h34)
  have hsh := ite_f hc35 h34
  refine st_skip hs rfl rfl rfl rfl rfl fun a hs => ?_
  refine st_skip hs rfl rfl rfl rfl rfl fun a hs => ?_
  refine st_skip hs rfl rfl rfl rfl rfl fun a hs => ?_
  refine st_skip hs rfl rfl rfl rfl rfl fun a hs => ?_
  refine st_skip hs rfl rfl rfl rfl rfl fun a hs => ?_
  refine st_skip hs rfl rfl rfl rfl rfl fun a hs => ?_
  refine sv hs (y_pickF rfl rfl) rfl fun a hs => ?_
  refine wpList_nil ?_
  have hsh := oi hsh
  subst hsh
  refine then_normal ?_
  exact ⟨Sv19, (hs.wk rfl), (hw.ft [] [] (by decide) rfl rfl)⟩
 rintro a w ⟨Sv36, hs, hw⟩
 refine av hs rfl rfl fun a hs => ?_
 refine nl ?_
 have hsh := oi hsh
 subst hsh
 refine wp_ret ?_
 exact ret1 hs rfl (rv_tmp rfl) (hw.ret rfl)

abbrev ref18_factor_rd (w0 : World) (X : List Nat) (r : Int) : (Nat → Prop) → World → Value → Prop := fun S w v => v = .int .i64 r
set_option maxHeartbeats 4000000 in
set_option maxRecDepth 100000 in
theorem ref18_factor_ok {w0 : World} {S0 : Nat → Prop} {p2 : Option Addr} {k3 : Nat} {r1 : Response} {from5 : Int} {r : Int} (hsh : ref18_factor r1 from5 = some r) (hS : ∀ b, S0 b → b < w0.heap.size) (h4 : (SlA p2 r1.Stages.length k3 r1.Stages).p S0 w0) : Calls Try.prog 61 #[.agg #[.slice p2 r1.Stages.length k3], .int .i64 from5] w0 (Ret ([]) w0 S0 (ref18_factor_rd w0 ([]) r)) := by
 refine calls_of_wp Try.func61 rfl ?_
 have hs := Sl.enter #[.agg #[.slice p2 r1.Stages.length k3], .int .i64 from5] 31 [(0, .agg #[.slice p2 r1.Stages.length k3]), (1, .int .i64 from5)] rfl ⟨rfl, rfl, trivial⟩
 have hw := Wd.enter (E := []) hS (fun _ h => (by cases h))
 have hw := hw.addE h4
 delta ref18_factor at hsh
 refine sr ?_
 refine w_box (cs := [.slice p2 r1.Stages.length k3]) hs hw rfl rfl rfl trivial ?_
 intro b6 a w hs hw
 refine av hs rfl rfl fun a hs => ?_
 refine nl ?_
 refine sr ?_
 refine av hs rfl rfl fun a hs => ?_
 refine nl ?_
 refine wp_seq ?_
 refine sr ?_
 refine mv hs rfl rfl fun a hs => ?_
 refine av hs rfl rfl fun a hs => ?_
 refine nl ?_
 obtain ⟨e124, h214, hsh⟩ := bind_t hsh
 refine wp_join (fun a w => ∃ (Sv125 : Nat → Prop), Sl 31 [(5, .int .i64 e124)] a ∧ Wd ⟨w0, S0, []⟩ Sv125 [] [] w) ?_ ?_
 ·refine wp_block ?_
  refine wp_while (fun sv7 a w => ∃ (Sv83 : Nat → Prop), Sl 31 [(2, .pointer (some ⟨b6, 0, none⟩)), (5, .int .i64 sv7.1), (6, .int .i64 sv7.2)] a ∧ Wd ⟨w0, S0, []⟩ Sv83 [.box b6 [.slice p2 r1.Stages.length k3] 37] [SlA p2 r1.Stages.length k3 r1.Stages] w) (1, from5) h214 ⟨S0, (hs.wk rfl), (hw.ft [0] [0] (by decide) rfl rfl)⟩ ?_
  clear h214
  repeat clear hsh
  rintro sv7 a w tv122 ⟨Sv83, hs, hw⟩ hsh hd121
  delta ref18_factor_l1 at hsh
  refine wp_seq ?_
  refine sr ?_
  refine mv hs rfl rfl fun a hs => ?_
  refine sv hs (y_fieldAddr (o' := 0) Try.runUnderlying37 rfl Try.sizeOf35 rfl rfl rfl) rfl fun a hs => ?_
  refine sv hs (y_loadB1 (hw.ownAt 0 rfl) rfl Try.isAgg35 rfl) rfl fun a hs => ?_
  refine sv hs (y_len Try.runUnderlying35 rfl) rfl fun a hs => ?_
  refine sv hs (y_lss rfl rfl) rfl fun a hs => ?_
  refine nl ?_
  refine wp_cond_split (hs.ev rfl) (fun h127 => ?_) (fun h127 => ?_)
  ·have hsh := ite_t hsh h127
   refine wp_skip ?_
   refine then_normal ?_
   refine wp_seq ?_
   refine wp_block ?_
   refine sr ?_
   refine sv hs (y_fieldAddr (o' := 0) Try.runUnderlying37 rfl Try.sizeOf35 rfl rfl rfl) rfl fun a hs => ?_
   refine sv hs (y_loadB1 (hw.ownAt 0 rfl) rfl Try.isAgg35 rfl) rfl fun a hs => ?_
   refine mv hs rfl rfl fun a hs => ?_
   obtain ⟨x164, h162, hsh⟩ := bind_t hsh
   obtain ⟨b170, o171, q168, c169, h172, h165, h166, h167, h163⟩ := hw.elemV 0 rfl h162
   have hsv173 := hs
   have hwv174 := hw
   subst h172
   have hs := hsv173
   have hw := hwv174
   obtain ⟨_, _, _, _, _, _, _, _, _, _, rfl, rfl, rfl, rfl, rfl, rfl, rfl, rfl, ⟨p175, n176, k177, rfl, h178⟩, rfl, rfl⟩ := h163
   obtain rfl := h178.1
   have hw := hw.addE (e := SlA p175 _ k177 x164.Taps) h178
   have hw := hw.addE h167
   refine sv hs (y_indexAt Try.runUnderlying35 Try.sizeOf26 rfl rfl h165.1 h165.2 h166) rfl fun a hs => ?_
   refine sv hs (y_fieldAddr (o' := q168 + 0) Try.runUnderlying26 rfl Try.sizeOf3 rfl rfl rfl) rfl fun a hs => ?_
   refine sv hs (y_loadE1 (j := 0) (hw.ceAt 0 rfl) rfl Try.isAgg3 rfl) rfl fun a hs => ?_
   refine sv hs (y_eql rfl rfl) rfl fun a hs => ?_
   refine nl ?_
   refine wp_join (fun a w => ∃ (n195 : Int) (Sv194 : Nat → Prop), ref18_factor_j1 sv7 n195 = some tv122 ∧ Sl 31 [(2, .pointer (some ⟨b6, 0, none⟩)), (5, .int .i64 n195), (6, .int .i64 sv7.2)] a ∧ Wd ⟨w0, S0, []⟩ Sv194 [.box b6 [.slice (some ⟨b170, o171, none⟩) r1.Stages.length k3] 37] [SlA (some ⟨b170, o171, none⟩) r1.Stages.length k3 r1.Stages] w) ?_ ?_
   ·refine wp_cond_split (hs.ev rfl) (fun h198 => ?_) (fun h198 => ?_)
    ·have hsh := ite_t hsh h198
     refine wp_region_lit ?_
     refine mv hs rfl rfl fun a hs => ?_
     refine sv hs (y_fieldAddr (o' := 0) Try.runUnderlying37 rfl Try.sizeOf35 rfl rfl rfl) rfl fun a hs => ?_
     refine sv hs (y_loadB1 (hw.ownAt 0 rfl) rfl Try.isAgg35 rfl) rfl fun a hs => ?_
     refine mv hs rfl rfl fun a hs => ?_
     obtain ⟨x201, h199, hsh⟩ := bind_t hsh
     obtain ⟨q205, c206, h202, h203, h204, h200⟩ := hw.elemK 2 rfl h199
     obtain ⟨_, _, _, _, _, _, _, _, _, _, rfl, rfl, rfl, rfl, rfl, rfl, rfl, rfl, ⟨p207, n208, k209, rfl, h210⟩, rfl, rfl⟩ := h200
     obtain rfl := h210.1
     have hw := hw.addE (e := SlA p207 _ k209 x201.Taps) h210
     have hw := hw.addE h204
     refine sv hs (y_indexAt Try.runUnderlying35 Try.sizeOf26 rfl rfl h202.1 h202.2 h203) rfl fun a hs => ?_
     refine sv hs (y_fieldAddr (o' := q205 + 8) Try.runUnderlying26 rfl Try.sizeOf3 rfl rfl rfl) rfl fun a hs => ?_
     refine sv hs (y_loadE1 (j := 8) (hw.ceAt 0 rfl) rfl Try.isAgg3 rfl) rfl fun a hs => ?_
     refine sv hs (y_mul rfl rfl) rfl fun a hs => ?_
     obtain ⟨n212, h211, hsh⟩ := bind_t hsh
     refine sv hs (y_assignI rfl h211) rfl fun a hs => ?_
     refine nl ?_
     exact ⟨n212, Sv83, hsh, (hs.wk rfl), (hw.ft [0] [4] (by decide) rfl rfl)⟩
    have hsh := ite_f hsh h198
    refine wp_skip ?_
    refine then_normal ?_
    exact ⟨sv7.1, Sv83, hsh, (hs.wk rfl), (hw.ft [0] [2] (by decide) rfl rfl)⟩
   rintro a w ⟨n195, Sv194, hsh, hs, hw⟩
   delta ref18_factor_j1 at hsh
   refine blk_normal ?_
   refine then_normal ?_
   refine wp_region_lit ?_
   refine mv hs rfl rfl fun a hs => ?_
   refine sv hs (y_add rfl rfl) rfl fun a hs => ?_
   obtain ⟨i197, h196, hsh⟩ := bind_t hsh
   refine sv hs (y_assignI rfl h196) rfl fun a hs => ?_
   refine nl ?_
   exact ⟨_, (Option.some.inj hsh).symm, Sv194, (hs.wk rfl), (hw.ft [0] [0] (by decide) rfl rfl)⟩
  have hsh := ite_f hsh h127
  refine wp_exit ?_
  refine then_exit ?_
  refine then_exit ?_
  refine blk_exit ?_
  have hsh := oi hsh
  subst hsh
  have h213 := hd121 _ rfl
  subst h213
  refine then_normal ?_
  exact ⟨Sv83, (hs.wk rfl), (hw.ft [] [] (by decide) rfl rfl)⟩
 rintro a w ⟨Sv125, hs, hw⟩
 refine then_normal ?_
 refine sr ?_
 refine mv hs rfl rfl fun a hs => ?_
 refine av hs rfl rfl fun a hs => ?_
 refine nl ?_
 have hsh := oi hsh
 subst hsh
 refine wp_ret ?_
 exact ret1 hs rfl (rv_tmp rfl) (hw.ret rfl)

abbrev ref18_faster_rd (w0 : World) (X : List Nat) (r : (Rate × Int)) : (Nat → Prop) → World → Value → Prop := fun S w v => v = .tuple #[.agg #[.int .i64 r.1.Num, .int .i64 r.1.Den], .int .i64 r.2]
set_option maxHeartbeats 4000000 in
set_option maxRecDepth 100000 in
theorem ref18_faster_ok {w0 : World} {S0 : Nat → Prop} {out1 : Rate} {n2 : Int} {r : (Rate × Int)} (hsh : ref18_faster out1 n2 = some r) (hS : ∀ b, S0 b → b < w0.heap.size) : Calls Try.prog 60 #[.agg #[.int .i64 out1.Num, .int .i64 out1.Den], .int .i64 n2] w0 (Ret ([]) w0 S0 (ref18_faster_rd w0 ([]) r)) := by
 refine calls_of_wp Try.func60 rfl ?_
 have hs := Sl.enter #[.agg #[.int .i64 out1.Num, .int .i64 out1.Den], .int .i64 n2] 37 [(0, .agg #[.int .i64 out1.Num, .int .i64 out1.Den]), (1, .int .i64 n2)] rfl ⟨rfl, rfl, trivial⟩
 have hw := Wd.enter (E := []) hS (fun _ h => (by cases h))
 delta ref18_faster at hsh
 refine sr ?_
 refine w_box (cs := [.int .i64 out1.Num, .int .i64 out1.Den]) hs hw rfl rfl rfl trivial ?_
 intro b3 a w hs hw
 refine w_alloc (cs := [.int .i64 0, .int .i64 0]) hs hw Try.zeroValue51 rfl rfl trivial ?_
 intro b4 a w hs hw
 refine av hs rfl rfl fun a hs => ?_
 refine nl ?_
 refine wp_seq ?_
 obtain ⟨av6, h5, hsh⟩ := bind_t hsh
 refine wp_only (fun a w => ∃ (Sv7 : Nat → Prop), Sl 37 [(4, .pointer (some ⟨b4, 0, none⟩)), (6, .int .i64 av6), (7, .int .i64 out1.Den)] a ∧ Wd ⟨w0, S0, []⟩ Sv7 [.box b4 [.int .i64 0, .int .i64 0] 51] [] w) ?_ ?_
 ·refine h_b (C := Cls [.box b4 [.int .i64 0, .int .i64 0] 51, .box b3 [.int .i64 out1.Num, .int .i64 out1.Den] 51] []) (by kernel_rfl) rfl (hw.drew.cs [0, 1] [] rfl rfl) fun hC => ?_
  have hw := hw.drew
  refine gv hs 0 rfl rfl hC (fun w hC => y_fieldAddr (o' := 0) Try.runUnderlying51 rfl Try.sizeOf3 rfl rfl rfl) fun a hs => ?_
  refine gv hs 1 rfl rfl hC (fun w hC => y_loadB1 (hC.ownAt 1 rfl) rfl Try.isAgg3 rfl) fun a hs => ?_
  refine gm hs 2 rfl rfl rfl hC fun a hs => ?_
  refine gv hs 3 rfl rfl hC (fun w hC => y_mul rfl rfl) fun a hs => ?_
  refine gv hs 4 rfl rfl hC (fun w hC => y_fieldAddr (o' := 1) Try.runUnderlying51 rfl Try.sizeOf3 rfl rfl rfl) fun a hs => ?_
  refine gv hs 5 rfl rfl hC (fun w hC => y_loadB1 (hC.ownAt 1 rfl) rfl Try.isAgg3 rfl) fun a hs => ?_
  refine gv hs 6 rfl rfl hC (fun w hC => y_assignI rfl h5) fun a hs => ?_
  refine gv hs 7 rfl rfl hC (fun w hC => y_assign rfl) fun a hs => ?_
  refine h_done (by kernel_rfl) ?_
  exact ⟨S0, (hs.wk rfl), (hw.ft [0] [] (by decide) rfl rfl)⟩
 rintro a w ⟨Sv7, hs, hw⟩
 refine then_normal ?_
 refine sr ?_
 refine mv hs rfl rfl fun a hs => ?_
 refine mv hs rfl rfl fun a hs => ?_
 refine av hs rfl rfl fun a hs => ?_
 refine av hs rfl rfl fun a hs => ?_
 refine nl ?_
 refine wp_seq ?_
 obtain ⟨e26, h52, hsh⟩ := bind_t hsh
 refine wp_join (fun a w => ∃ (Sv27 : Nat → Prop), Sl 37 [(4, .pointer (some ⟨b4, 0, none⟩)), (6, .int .i64 av6), (7, .int .i64 out1.Den), (8, .int .i64 e26)] a ∧ Wd ⟨w0, S0, []⟩ Sv27 [.box b4 [.int .i64 0, .int .i64 0] 51] [] w) ?_ ?_
 ·refine wp_block ?_
  refine wp_while (fun sv8 a w => ∃ (Sv18 : Nat → Prop), Sl 37 [(4, .pointer (some ⟨b4, 0, none⟩)), (6, .int .i64 av6), (7, .int .i64 out1.Den), (8, .int .i64 sv8.1), (9, .int .i64 sv8.2)] a ∧ Wd ⟨w0, S0, []⟩ Sv18 [.box b4 [.int .i64 0, .int .i64 0] 51] [] w) (av6, out1.Den) h52 ⟨Sv7, (hs.wk rfl), (hw.ft [0] [] (by decide) rfl rfl)⟩ ?_
  clear h52
  repeat clear hsh
  rintro sv8 a w tv24 ⟨Sv18, hs, hw⟩ hsh hd23
  delta ref18_faster_l1 at hsh
  refine wp_seq ?_
  refine sr ?_
  refine mv hs rfl rfl fun a hs => ?_
  refine sv hs (y_neq rfl rfl) rfl fun a hs => ?_
  refine nl ?_
  refine wp_cond_split (hs.ev rfl) (fun h29 => ?_) (fun h29 => ?_)
  ·have hsh := ite_t hsh h29
   refine wp_skip ?_
   refine then_normal ?_
   refine wp_block ?_
   obtain ⟨rem34, h33, hsh⟩ := bind_t hsh
   refine wp_only (fun a w => ∃ (Sv35 : Nat → Prop), Sl 37 [(4, .pointer (some ⟨b4, 0, none⟩)), (6, .int .i64 av6), (7, .int .i64 out1.Den), (8, .int .i64 sv8.2), (9, .int .i64 rem34)] a ∧ Wd ⟨w0, S0, []⟩ Sv35 [.box b4 [.int .i64 0, .int .i64 0] 51] [] w) ?_ ?_
   ·refine h_b (C := Cls [.box b4 [.int .i64 0, .int .i64 0] 51] []) (by kernel_rfl) rfl (hw.drew.cs [0] [] rfl rfl) fun hC => ?_
    have hw := hw.drew
    refine gm hs 0 rfl rfl rfl hC fun a hs => ?_
    refine gm hs 1 rfl rfl rfl hC fun a hs => ?_
    refine gm hs 2 rfl rfl rfl hC fun a hs => ?_
    refine gv hs 3 rfl rfl hC (fun w hC => y_remM rfl rfl h33) fun a hs => ?_
    refine gv hs 4 rfl rfl hC (fun w hC => y_assign rfl) fun a hs => ?_
    refine gv hs 5 rfl rfl hC (fun w hC => y_assign rfl) fun a hs => ?_
    refine h_done (by kernel_rfl) ?_
    exact ⟨Sv18, (hs.wk rfl), (hw.ft [0] [] (by decide) rfl rfl)⟩
   rintro a w ⟨Sv35, hs, hw⟩
   refine blk_normal ?_
   refine then_normal ?_
   exact ⟨_, (Option.some.inj hsh).symm, Sv35, (hs.wk rfl), (hw.ft [0] [] (by decide) rfl rfl)⟩
  have hsh := ite_f hsh h29
  refine wp_exit ?_
  refine then_exit ?_
  refine then_exit ?_
  refine blk_exit ?_
  have hsh := oi hsh
  subst hsh
  have h36 := hd23 _ rfl
  subst h36
  refine then_normal ?_
  exact ⟨Sv18, (hs.wk rfl), (hw.ft [0] [] (by decide) rfl rfl)⟩
 rintro a w ⟨Sv27, hs, hw⟩
 refine then_normal ?_
 refine wp_seq ?_
 obtain ⟨quo38, h37, hsh⟩ := bind_t hsh
 obtain ⟨quo40, h39, hsh⟩ := bind_t hsh
 refine wp_only (fun a w => ∃ (Sv42 : Nat → Prop) (b41 : Nat), Sl 37 [(4, .pointer (some ⟨b4, 0, none⟩)), (10, .pointer (some ⟨b41, 0, none⟩))] a ∧ Wd ⟨w0, S0, []⟩ Sv42 [.box b4 [.int .i64 0, .int .i64 0] 51, .box b41 [.int .i64 quo38, .int .i64 quo40] 51] [] w) ?_ ?_
 ·refine h_b (C := Cls [.box b4 [.int .i64 0, .int .i64 0] 51] []) (by kernel_rfl) rfl (hw.drew.cs [0] [] rfl rfl) fun hC => ?_
  have hw := hw.drew
  refine gm hs 0 rfl rfl rfl hC fun a hs => ?_
  refine gm hs 1 rfl rfl rfl hC fun a hs => ?_
  refine gv hs 2 rfl rfl hC (fun w hC => y_quoM rfl rfl h37) fun a hs => ?_
  refine gm hs 3 rfl rfl rfl hC fun a hs => ?_
  refine gm hs 4 rfl rfl rfl hC fun a hs => ?_
  refine gv hs 5 rfl rfl hC (fun w hC => y_quoM rfl rfl h39) fun a hs => ?_
  refine gv hs 6 rfl rfl hC (fun w hC => y_build (vs := [(0, .int .i64 quo38), (1, .int .i64 quo40)]) Bld51 rfl rfl) fun a hs => ?_
  refine ho 7 rfl ?_
  refine w_alloc (cs := [.int .i64 0, .int .i64 0]) hs hw Try.zeroValue51 rfl rfl trivial ?_
  intro b41 a w hs hw
  refine h_nx (hw.cs [1] [] rfl rfl) fun hC => ?_
  refine ho 8 rfl ?_
  refine w_store (m := 2) (cs' := [.int .i64 quo38, .int .i64 quo40]) hs hw 0 rfl rfl rfl Try.sizeOf51 rfl rfl rfl rfl trivial ?_
  intro a w hs hw
  refine h_nx (hw.cs [1] [] rfl rfl) fun hC => ?_
  refine h_done (by kernel_rfl) ?_
  exact ⟨Sv27, b41, (hs.wk rfl), (hw.ft [1, 0] [] (by decide) rfl rfl)⟩
 rintro a w ⟨Sv42, b41, hs, hw⟩
 refine then_normal ?_
 refine wp_seq ?_
 refine sr ?_
 refine sv hs (y_loadBA (hw.ownAt 1 rfl) rfl Try.isAgg51 Try.sizeOf51 rfl rfl) rfl fun a hs => ?_
 obtain ⟨rv44, h43, hsh⟩ := bind_t hsh
 refine st_callR hs (ref02_Valid_ok h43 hw.bdom) (do_call Try.call59 rfl) trivial rfl rfl ?_
 intro v48 Sv45 w a h46 h47 hs
 subst h47
 have hw := hw.callB h46
 refine sv hs (y_not rfl) rfl fun a hs => ?_
 refine nl ?_
 refine wp_cond_split (hs.ev rfl) (fun h51 => ?_) (fun h51 => ?_)
 ·have hsh := ite_t hsh h51
  refine sr ?_
  refine sv hs (y_build (vs := []) Bld51 rfl rfl) rfl fun a hs => ?_
  refine w_store (m := 2) (cs' := [.int .i64 0, .int .i64 0]) hs hw 0 rfl rfl rfl Try.sizeOf51 rfl rfl rfl rfl trivial ?_
  intro a w hs hw
  refine av hs rfl rfl fun a hs => ?_
  refine nl ?_
  have hsh := oi hsh
  subst hsh
  refine wp_ret ?_
  refine then_ret ?_
  exact ret2 hs rfl (rv_cell hw 0 rfl rfl Try.isAgg51 Try.sizeOf51 rfl) (rv_tmp rfl) (hw.ret rfl)
 have hsh := ite_f hsh h51
 refine wp_skip ?_
 refine then_normal ?_
 refine sr ?_
 refine sv hs (y_loadBA (hw.ownAt 1 rfl) rfl Try.isAgg51 Try.sizeOf51 rfl rfl) rfl fun a hs => ?_
 refine w_store (m := 2) (cs' := [.int .i64 quo38, .int .i64 quo40]) hs hw 0 rfl rfl rfl Try.sizeOf51 rfl rfl rfl rfl trivial ?_
 intro a w hs hw
 refine av hs rfl rfl fun a hs => ?_
 refine nl ?_
 have hsh := oi hsh
 subst hsh
 refine wp_ret ?_
 exact ret2 hs rfl (rv_cell hw 0 rfl rfl Try.isAgg51 Try.sizeOf51 rfl) (rv_tmp rfl) (hw.ret rfl)

abbrev ref18_Input_rd (w0 : World) (X : List Nat) (r : (Rate × Int)) : (Nat → Prop) → World → Value → Prop := fun S w v => v = .tuple #[.agg #[.int .i64 r.1.Num, .int .i64 r.1.Den], .int .i64 r.2]
set_option maxHeartbeats 4000000 in
set_option maxRecDepth 100000 in
theorem ref18_Input_ok {w0 : World} {S0 : Nat → Prop} {p2 : Option Addr} {k3 : Nat} {r1 : Response} {out5 : Rate} {r : (Rate × Int)} (hsh : ref18_Input r1 out5 = some r) (hS : ∀ b, S0 b → b < w0.heap.size) (h4 : (SlA p2 r1.Stages.length k3 r1.Stages).p S0 w0) : Calls Try.prog 28 #[.agg #[.slice p2 r1.Stages.length k3], .agg #[.int .i64 out5.Num, .int .i64 out5.Den]] w0 (Ret ([]) w0 S0 (ref18_Input_rd w0 ([]) r)) := by
 refine calls_of_wp Try.func28 rfl ?_
 have hs := Sl.enter #[.agg #[.slice p2 r1.Stages.length k3], .agg #[.int .i64 out5.Num, .int .i64 out5.Den]] 21 [(0, .agg #[.slice p2 r1.Stages.length k3]), (1, .agg #[.int .i64 out5.Num, .int .i64 out5.Den])] rfl ⟨rfl, rfl, trivial⟩
 have hw := Wd.enter (E := []) hS (fun _ h => (by cases h))
 have hw := hw.addE h4
 delta ref18_Input at hsh
 refine sr ?_
 refine w_box (cs := [.slice p2 r1.Stages.length k3]) hs hw rfl rfl rfl trivial ?_
 intro b6 a w hs hw
 refine w_box (cs := [.int .i64 out5.Num, .int .i64 out5.Den]) hs hw rfl rfl rfl trivial ?_
 intro b7 a w hs hw
 refine w_alloc (cs := [.int .i64 0, .int .i64 0]) hs hw Try.zeroValue51 rfl rfl trivial ?_
 intro b8 a w hs hw
 refine av hs rfl rfl fun a hs => ?_
 refine nl ?_
 refine wp_seq ?_
 refine sr ?_
 refine sv hs (y_loadBA (hw.ownAt 2 rfl) rfl Try.isAgg37 Try.sizeOf37 rfl rfl) rfl fun a hs => ?_
 obtain ⟨rv10, h9, hsh⟩ := bind_t hsh
 refine st_callR hs (ref18_Valid_ok h9 hw.bdom (hw.bE 0 rfl)) (do_call Try.call34 rfl) trivial rfl rfl ?_
 intro v14 Sv11 w a h12 h13 hs
 subst h13
 have hw := hw.callB h12
 refine sv hs (y_not rfl) rfl fun a hs => ?_
 refine mv hs rfl rfl fun a hs => ?_
 obtain ⟨c24, hc24, hsh⟩ := bind_t hsh
 refine wpl_join 4 (fun a w => ∃ (Sv25 : Nat → Prop), Sl 21 [(2, .pointer (some ⟨b6, 0, none⟩)), (3, .pointer (some ⟨b7, 0, none⟩)), (4, .pointer (some ⟨b8, 0, none⟩)), (13, .bool c24)] a ∧ Wd ⟨w0, S0, []⟩ Sv25 [.box b6 [.slice p2 r1.Stages.length k3] 37, .box b7 [.int .i64 out5.Num, .int .i64 out5.Den] 51, .box b8 [.int .i64 0, .int .i64 0] 51] [SlA p2 r1.Stages.length k3 r1.Stages] w) ?_ ?_
 ·rcases Bool.eq_false_or_eq_true (!rv10) with h23 | h23
  ·have hs := hs.fix 9 (.bool true) rfl (vb h23)
   have hsh := ite_t hc24 h23
   refine st_skip hs rfl rfl rfl rfl rfl fun a hs => ?_
   refine st_skip hs rfl rfl rfl rfl rfl fun a hs => ?_
   refine st_skip hs rfl rfl rfl rfl rfl fun a hs => ?_
   refine sv hs (y_pickT rfl rfl) rfl fun a hs => ?_
   refine wpList_nil ?_
   have hsh := oi hsh
   subst hsh
   refine then_normal ?_
   exact ⟨S0, (hs.wk rfl), (hw.ft [2, 1, 0] [0] (by decide) rfl rfl)⟩
  have hs := hs.fix 9 (.bool false) rfl (vb h23)
  have hsh := ite_f hc24 h23
  refine st_val hs (y_loadBA (hw.ownAt 1 rfl) rfl Try.isAgg51 Try.sizeOf51 rfl rfl) ⟨_, rfl, rfl⟩ rfl rfl fun a hs => ?_
  obtain ⟨rv27, h26, hsh⟩ := bind_t hsh
  refine st_callR hs (ref02_Valid_ok h26 hw.bdom) (do_call Try.call59 rfl) ⟨_, rfl, rfl⟩ rfl rfl ?_
  intro v31 Sv28 w a h29 h30 hs
  subst h30
  have hw := hw.callB h29
  refine st_val hs (y_not rfl) ⟨_, rfl, rfl⟩ rfl rfl fun a hs => ?_
  refine sv hs (y_pickF rfl rfl) rfl fun a hs => ?_
  refine wpList_nil ?_
  have hsh := oi hsh
  subst hsh
  refine then_normal ?_
  exact ⟨S0, (hs.wk rfl), (hw.ft [2, 1, 0] [0] (by decide) rfl rfl)⟩
 rintro a w ⟨Sv25, hs, hw⟩
 refine nl ?_
 refine wp_cond_split (hs.ev rfl) (fun h34 => ?_) (fun h34 => ?_)
 ·have hsh := ite_t hsh h34
  refine sr ?_
  refine sv hs (y_build (vs := []) Bld51 rfl rfl) rfl fun a hs => ?_
  refine w_store (m := 2) (cs' := [.int .i64 0, .int .i64 0]) hs hw 2 rfl rfl rfl Try.sizeOf51 rfl rfl rfl rfl trivial ?_
  intro a w hs hw
  refine av hs rfl rfl fun a hs => ?_
  refine nl ?_
  have hsh := oi hsh
  subst hsh
  refine wp_ret ?_
  refine then_ret ?_
  exact ret2 hs rfl (rv_cell hw 2 rfl rfl Try.isAgg51 Try.sizeOf51 rfl) (rv_tmp rfl) (hw.ret rfl)
 have hsh := ite_f hsh h34
 refine wp_skip ?_
 refine then_normal ?_
 refine wp_seq ?_
 obtain ⟨rv36, h35, hsh⟩ := bind_t hsh
 obtain ⟨rv38, h37, hsh⟩ := bind_t hsh
 refine wp_only (fun a w => ∃ (Sv39 : Nat → Prop), Sl 21 [(4, .pointer (some ⟨b8, 0, none⟩)), (5, .int .i64 rv38.2)] a ∧ Wd ⟨w0, S0, []⟩ Sv39 [.box b8 [.int .i64 rv38.1.Num, .int .i64 rv38.1.Den] 51] [] w) ?_ ?_
 ·refine h_b (C := Cls [.box b6 [.slice p2 r1.Stages.length k3] 37, .box b7 [.int .i64 out5.Num, .int .i64 out5.Den] 51] []) (by kernel_rfl) rfl (hw.drew.cs [0, 1] [] rfl rfl) fun hC => ?_
  have hw := hw.drew
  refine gv hs 0 rfl rfl hC (fun w hC => y_loadBA (hC.ownAt 1 rfl) rfl Try.isAgg51 Try.sizeOf51 rfl rfl) fun a hs => ?_
  refine gv hs 1 rfl rfl hC (fun w hC => y_loadBA (hC.ownAt 0 rfl) rfl Try.isAgg37 Try.sizeOf37 rfl rfl) fun a hs => ?_
  refine ho 2 rfl ?_
  refine st_callR hs (ref18_factor_ok h35 hw.bdom (hw.bE 0 rfl)) (do_call Try.call61 rfl) trivial rfl rfl ?_
  intro v43 Sv40 w a h41 h42 hs
  subst h42
  have hw := hw.callB h41
  refine h_nx (hw.cs [0, 1] [] rfl rfl) fun hC => ?_
  refine ho 3 rfl ?_
  refine st_callR hs (ref18_faster_ok h37 hw.bdom) (do_call Try.call60 rfl) trivial rfl rfl ?_
  intro v48 Sv45 w a h46 h47 hs
  subst h47
  have hw := hw.callB h46
  refine h_nx (hw.cs [0, 1] [] rfl rfl) fun hC => ?_
  refine gv hs 4 rfl rfl hC (fun w hC => y_extract rfl rfl) fun a hs => ?_
  refine gv hs 5 rfl rfl hC (fun w hC => y_extract rfl rfl) fun a hs => ?_
  refine ho 6 rfl ?_
  refine w_store (m := 2) (cs' := [.int .i64 rv38.1.Num, .int .i64 rv38.1.Den]) hs hw 2 rfl rfl rfl Try.sizeOf51 rfl rfl rfl rfl trivial ?_
  intro a w hs hw
  refine h_nx (hw.cs [0, 1] [] rfl rfl) fun hC => ?_
  refine gv hs 7 rfl rfl hC (fun w hC => y_assign rfl) fun a hs => ?_
  refine h_done (by kernel_rfl) ?_
  exact ⟨Sv25, (hs.wk rfl), (hw.ft [2] [] (by decide) rfl rfl)⟩
 rintro a w ⟨Sv39, hs, hw⟩
 refine then_normal ?_
 have hsh := oi hsh
 subst hsh
 refine wp_ret ?_
 exact ret2 hs rfl (rv_cell hw 0 rfl rfl Try.isAgg51 Try.sizeOf51 rfl) (rv_tmp rfl) (hw.ret rfl)

abbrev ref18_reduce_rd (w0 : World) (X : List Nat) (r : Ratio) : (Nat → Prop) → World → Value → Prop := fun S w v => v = .agg #[.int .i64 r.Num, .int .i64 r.Den]
set_option maxHeartbeats 4000000 in
set_option maxRecDepth 100000 in
theorem ref18_reduce_ok {w0 : World} {S0 : Nat → Prop} {num1 : Int} {den2 : Int} {r : Ratio} (hsh : ref18_reduce num1 den2 = some r) (hS : ∀ b, S0 b → b < w0.heap.size) : Calls Try.prog 62 #[.int .i64 num1, .int .i64 den2] w0 (Ret ([]) w0 S0 (ref18_reduce_rd w0 ([]) r)) := by
 refine calls_of_wp Try.func62 rfl ?_
 have hs := Sl.enter #[.int .i64 num1, .int .i64 den2] 22 [(0, .int .i64 num1), (1, .int .i64 den2)] rfl ⟨rfl, rfl, trivial⟩
 have hw := Wd.enter (E := []) hS (fun _ h => (by cases h))
 delta ref18_reduce at hsh
 refine sr ?_
 refine w_alloc (cs := [.int .i64 0, .int .i64 0]) hs hw Try.zeroValue57 rfl rfl trivial ?_
 intro b3 a w hs hw
 refine nl ?_
 refine sr ?_
 refine mv hs rfl rfl fun a hs => ?_
 refine mv hs rfl rfl fun a hs => ?_
 refine av hs rfl rfl fun a hs => ?_
 refine av hs rfl rfl fun a hs => ?_
 refine nl ?_
 refine wp_seq ?_
 obtain ⟨e22, h38, hsh⟩ := bind_t hsh
 refine wp_join (fun a w => ∃ (Sv23 : Nat → Prop), Sl 22 [(0, .int .i64 num1), (1, .int .i64 den2), (4, .pointer (some ⟨b3, 0, none⟩)), (5, .int .i64 e22)] a ∧ Wd ⟨w0, S0, []⟩ Sv23 [.box b3 [.int .i64 0, .int .i64 0] 57] [] w) ?_ ?_
 ·refine wp_block ?_
  refine wp_while (fun sv4 a w => ∃ (Sv14 : Nat → Prop), Sl 22 [(0, .int .i64 num1), (1, .int .i64 den2), (4, .pointer (some ⟨b3, 0, none⟩)), (5, .int .i64 sv4.1), (6, .int .i64 sv4.2)] a ∧ Wd ⟨w0, S0, []⟩ Sv14 [.box b3 [.int .i64 0, .int .i64 0] 57] [] w) (num1, den2) h38 ⟨S0, (hs.wk rfl), (hw.ft [0] [] (by decide) rfl rfl)⟩ ?_
  clear h38
  repeat clear hsh
  rintro sv4 a w tv20 ⟨Sv14, hs, hw⟩ hsh hd19
  delta ref18_reduce_l1 at hsh
  refine wp_seq ?_
  refine sr ?_
  refine mv hs rfl rfl fun a hs => ?_
  refine sv hs (y_neq rfl rfl) rfl fun a hs => ?_
  refine nl ?_
  refine wp_cond_split (hs.ev rfl) (fun h25 => ?_) (fun h25 => ?_)
  ·have hsh := ite_t hsh h25
   refine wp_skip ?_
   refine then_normal ?_
   refine wp_block ?_
   obtain ⟨rem30, h29, hsh⟩ := bind_t hsh
   refine wp_only (fun a w => ∃ (Sv31 : Nat → Prop), Sl 22 [(0, .int .i64 num1), (1, .int .i64 den2), (4, .pointer (some ⟨b3, 0, none⟩)), (5, .int .i64 sv4.2), (6, .int .i64 rem30)] a ∧ Wd ⟨w0, S0, []⟩ Sv31 [.box b3 [.int .i64 0, .int .i64 0] 57] [] w) ?_ ?_
   ·refine h_b (C := Cls [.box b3 [.int .i64 0, .int .i64 0] 57] []) (by kernel_rfl) rfl (hw.drew.cs [0] [] rfl rfl) fun hC => ?_
    have hw := hw.drew
    refine gm hs 0 rfl rfl rfl hC fun a hs => ?_
    refine gm hs 1 rfl rfl rfl hC fun a hs => ?_
    refine gm hs 2 rfl rfl rfl hC fun a hs => ?_
    refine gv hs 3 rfl rfl hC (fun w hC => y_remM rfl rfl h29) fun a hs => ?_
    refine gv hs 4 rfl rfl hC (fun w hC => y_assign rfl) fun a hs => ?_
    refine gv hs 5 rfl rfl hC (fun w hC => y_assign rfl) fun a hs => ?_
    refine h_done (by kernel_rfl) ?_
    exact ⟨Sv14, (hs.wk rfl), (hw.ft [0] [] (by decide) rfl rfl)⟩
   rintro a w ⟨Sv31, hs, hw⟩
   refine blk_normal ?_
   refine then_normal ?_
   exact ⟨_, (Option.some.inj hsh).symm, Sv31, (hs.wk rfl), (hw.ft [0] [] (by decide) rfl rfl)⟩
  have hsh := ite_f hsh h25
  refine wp_exit ?_
  refine then_exit ?_
  refine then_exit ?_
  refine blk_exit ?_
  have hsh := oi hsh
  subst hsh
  have h32 := hd19 _ rfl
  subst h32
  refine then_normal ?_
  exact ⟨Sv14, (hs.wk rfl), (hw.ft [0] [] (by decide) rfl rfl)⟩
 rintro a w ⟨Sv23, hs, hw⟩
 refine then_normal ?_
 refine wp_seq ?_
 obtain ⟨quo34, h33, hsh⟩ := bind_t hsh
 obtain ⟨quo36, h35, hsh⟩ := bind_t hsh
 refine wp_only (fun a w => ∃ (Sv37 : Nat → Prop), Sl 22 [(4, .pointer (some ⟨b3, 0, none⟩))] a ∧ Wd ⟨w0, S0, []⟩ Sv37 [.box b3 [.int .i64 quo34, .int .i64 quo36] 57] [] w) ?_ ?_
 ·refine h_b (C := Cls [] []) (by kernel_rfl) rfl (hw.drew.cs [] [] rfl rfl) fun hC => ?_
  have hw := hw.drew
  refine gm hs 0 rfl rfl rfl hC fun a hs => ?_
  refine gm hs 1 rfl rfl rfl hC fun a hs => ?_
  refine gv hs 2 rfl rfl hC (fun w hC => y_quoM rfl rfl h33) fun a hs => ?_
  refine gm hs 3 rfl rfl rfl hC fun a hs => ?_
  refine gm hs 4 rfl rfl rfl hC fun a hs => ?_
  refine gv hs 5 rfl rfl hC (fun w hC => y_quoM rfl rfl h35) fun a hs => ?_
  refine gv hs 6 rfl rfl hC (fun w hC => y_build (vs := [(0, .int .i64 quo34), (1, .int .i64 quo36)]) Bld57 rfl rfl) fun a hs => ?_
  refine ho 7 rfl ?_
  refine w_store (m := 2) (cs' := [.int .i64 quo34, .int .i64 quo36]) hs hw 0 rfl rfl rfl Try.sizeOf57 rfl rfl rfl rfl trivial ?_
  intro a w hs hw
  refine h_nx (hw.cs [] [] rfl rfl) fun hC => ?_
  refine h_done (by kernel_rfl) ?_
  exact ⟨Sv23, (hs.wk rfl), (hw.ft [0] [] (by decide) rfl rfl)⟩
 rintro a w ⟨Sv37, hs, hw⟩
 refine then_normal ?_
 have hsh := oi hsh
 subst hsh
 refine wp_ret ?_
 exact ret1 hs rfl (rv_cell hw 0 rfl rfl Try.isAgg57 Try.sizeOf57 rfl) (hw.ret rfl)

abbrev ref18_Delay_rd (w0 : World) (X : List Nat) (r : (Ratio × Int)) : (Nat → Prop) → World → Value → Prop := fun S w v => v = .tuple #[.agg #[.int .i64 r.1.Num, .int .i64 r.1.Den], .int .i64 r.2]
set_option maxHeartbeats 4000000 in
set_option maxRecDepth 100000 in
theorem ref18_Delay_ok {w0 : World} {S0 : Nat → Prop} {p2 : Option Addr} {k3 : Nat} {r1 : Response} {out5 : Rate} {r : (Ratio × Int)} (hsh : ref18_Delay r1 out5 = some r) (hS : ∀ b, S0 b → b < w0.heap.size) (h4 : (SlA p2 r1.Stages.length k3 r1.Stages).p S0 w0) : Calls Try.prog 29 #[.agg #[.slice p2 r1.Stages.length k3], .agg #[.int .i64 out5.Num, .int .i64 out5.Den]] w0 (Ret ([]) w0 S0 (ref18_Delay_rd w0 ([]) r)) := by
 refine calls_of_wp Try.func29 rfl ?_
 have hs := Sl.enter #[.agg #[.slice p2 r1.Stages.length k3], .agg #[.int .i64 out5.Num, .int .i64 out5.Den]] 125 [(0, .agg #[.slice p2 r1.Stages.length k3]), (1, .agg #[.int .i64 out5.Num, .int .i64 out5.Den])] rfl ⟨rfl, rfl, trivial⟩
 have hw := Wd.enter (E := []) hS (fun _ h => (by cases h))
 have hw := hw.addE h4
 delta ref18_Delay at hsh
 refine sr ?_
 refine w_box (cs := [.slice p2 r1.Stages.length k3]) hs hw rfl rfl rfl trivial ?_
 intro b6 a w hs hw
 refine w_box (cs := [.int .i64 out5.Num, .int .i64 out5.Den]) hs hw rfl rfl rfl trivial ?_
 intro b7 a w hs hw
 refine w_alloc (cs := [.int .i64 0, .int .i64 0]) hs hw Try.zeroValue57 rfl rfl trivial ?_
 intro b8 a w hs hw
 refine av hs rfl rfl fun a hs => ?_
 refine nl ?_
 refine wp_seq ?_
 refine sr ?_
 refine sv hs (y_loadBA (hw.ownAt 2 rfl) rfl Try.isAgg37 Try.sizeOf37 rfl rfl) rfl fun a hs => ?_
 obtain ⟨rv10, h9, hsh⟩ := bind_t hsh
 refine st_callR hs (ref18_Valid_ok h9 hw.bdom (hw.bE 0 rfl)) (do_call Try.call34 rfl) trivial rfl rfl ?_
 intro v14 Sv11 w a h12 h13 hs
 subst h13
 have hw := hw.callB h12
 refine sv hs (y_not rfl) rfl fun a hs => ?_
 refine mv hs rfl rfl fun a hs => ?_
 obtain ⟨c24, hc24, hsh⟩ := bind_t hsh
 refine wpl_join 4 (fun a w => ∃ (Sv25 : Nat → Prop), Sl 125 [(2, .pointer (some ⟨b6, 0, none⟩)), (3, .pointer (some ⟨b7, 0, none⟩)), (4, .pointer (some ⟨b8, 0, none⟩)), (21, .bool c24)] a ∧ Wd ⟨w0, S0, []⟩ Sv25 [.box b6 [.slice p2 r1.Stages.length k3] 37, .box b7 [.int .i64 out5.Num, .int .i64 out5.Den] 51, .box b8 [.int .i64 0, .int .i64 0] 57] [SlA p2 r1.Stages.length k3 r1.Stages] w) ?_ ?_
 ·rcases Bool.eq_false_or_eq_true (!rv10) with h23 | h23
  ·have hs := hs.fix 17 (.bool true) rfl (vb h23)
   have hsh := ite_t hc24 h23
   refine st_skip hs rfl rfl rfl rfl rfl fun a hs => ?_
   refine st_skip hs rfl rfl rfl rfl rfl fun a hs => ?_
   refine st_skip hs rfl rfl rfl rfl rfl fun a hs => ?_
   refine sv hs (y_pickT rfl rfl) rfl fun a hs => ?_
   refine wpList_nil ?_
   have hsh := oi hsh
   subst hsh
   refine then_normal ?_
   exact ⟨S0, (hs.wk rfl), (hw.ft [2, 1, 0] [0] (by decide) rfl rfl)⟩
  have hs := hs.fix 17 (.bool false) rfl (vb h23)
  have hsh := ite_f hc24 h23
  refine st_val hs (y_loadBA (hw.ownAt 1 rfl) rfl Try.isAgg51 Try.sizeOf51 rfl rfl) ⟨_, rfl, rfl⟩ rfl rfl fun a hs => ?_
  obtain ⟨rv27, h26, hsh⟩ := bind_t hsh
  refine st_callR hs (ref02_Valid_ok h26 hw.bdom) (do_call Try.call59 rfl) ⟨_, rfl, rfl⟩ rfl rfl ?_
  intro v31 Sv28 w a h29 h30 hs
  subst h30
  have hw := hw.callB h29
  refine st_val hs (y_not rfl) ⟨_, rfl, rfl⟩ rfl rfl fun a hs => ?_
  refine sv hs (y_pickF rfl rfl) rfl fun a hs => ?_
  refine wpList_nil ?_
  have hsh := oi hsh
  subst hsh
  refine then_normal ?_
  exact ⟨S0, (hs.wk rfl), (hw.ft [2, 1, 0] [0] (by decide) rfl rfl)⟩
 rintro a w ⟨Sv25, hs, hw⟩
 refine nl ?_
 refine wp_cond_split (hs.ev rfl) (fun h34 => ?_) (fun h34 => ?_)
 ·have hsh := ite_t hsh h34
  refine sr ?_
  refine sv hs (y_build (vs := []) Bld57 rfl rfl) rfl fun a hs => ?_
  refine w_store (m := 2) (cs' := [.int .i64 0, .int .i64 0]) hs hw 2 rfl rfl rfl Try.sizeOf57 rfl rfl rfl rfl trivial ?_
  intro a w hs hw
  refine av hs rfl rfl fun a hs => ?_
  refine nl ?_
  have hsh := oi hsh
  subst hsh
  refine wp_ret ?_
  refine then_ret ?_
  exact ret2 hs rfl (rv_cell hw 2 rfl rfl Try.isAgg57 Try.sizeOf57 rfl) (rv_tmp rfl) (hw.ret rfl)
 have hsh := ite_f hsh h34
 refine wp_skip ?_
 refine then_normal ?_
 refine wp_seq ?_
 refine sr ?_
 refine av hs rfl rfl fun a hs => ?_
 refine nl ?_
 refine wp_block ?_
 refine wp_while (fun sv349 a w => ∃ (Sv557 : Nat → Prop), Sl 125 [(2, .pointer (some ⟨b6, 0, none⟩)), (3, .pointer (some ⟨b7, 0, none⟩)), (4, .pointer (some ⟨b8, 0, none⟩)), (6, .int .i64 sv349)] a ∧ Wd ⟨w0, S0, []⟩ Sv557 [.box b6 [.slice p2 r1.Stages.length k3] 37, .box b7 [.int .i64 out5.Num, .int .i64 out5.Den] 51, .box b8 [.int .i64 0, .int .i64 0] 57] [SlA p2 r1.Stages.length k3 r1.Stages] w) 0 hsh ⟨Sv25, (hs.wk rfl), (hw.ft [0, 1, 2] [0] (by decide) rfl rfl)⟩ ?_
 repeat clear hsh
 rintro sv349 a w tv662 ⟨Sv557, hs, hw⟩ hsh hd661
 delta ref18_Delay_l7 at hsh
 refine wp_seq ?_
 refine sr ?_
 refine mv hs rfl rfl fun a hs => ?_
 refine sv hs (y_fieldAddr (o' := 0) Try.runUnderlying37 rfl Try.sizeOf35 rfl rfl rfl) rfl fun a hs => ?_
 refine sv hs (y_loadB1 (hw.ownAt 0 rfl) rfl Try.isAgg35 rfl) rfl fun a hs => ?_
 refine sv hs (y_len Try.runUnderlying35 rfl) rfl fun a hs => ?_
 refine sv hs (y_lss rfl rfl) rfl fun a hs => ?_
 refine nl ?_
 refine wp_cond_split (hs.ev rfl) (fun h666 => ?_) (fun h666 => ?_)
 ·have hsh := ite_t hsh h666
  refine wp_skip ?_
  refine then_normal ?_
  refine wp_seq ?_
  refine wp_block ?_
  refine sr ?_
  refine sv hs (y_fieldAddr (o' := 0) Try.runUnderlying37 rfl Try.sizeOf35 rfl rfl rfl) rfl fun a hs => ?_
  refine sv hs (y_loadB1 (hw.ownAt 0 rfl) rfl Try.isAgg35 rfl) rfl fun a hs => ?_
  refine mv hs rfl rfl fun a hs => ?_
  obtain ⟨x769, h767, hsh⟩ := bind_t hsh
  obtain ⟨b775, o776, q773, c774, h777, h770, h771, h772, h768⟩ := hw.elemV 0 rfl h767
  have hsv778 := hs
  have hwv779 := hw
  subst h777
  have hs := hsv778
  have hw := hwv779
  obtain ⟨_, _, _, _, _, _, _, _, _, _, rfl, rfl, rfl, rfl, rfl, rfl, rfl, rfl, ⟨p780, n781, k782, rfl, h783⟩, rfl, rfl⟩ := h768
  obtain rfl := h783.1
  have hw := hw.addE (e := SlA p780 _ k782 x769.Taps) h783
  have hw := hw.addE h772
  refine sv hs (y_indexAt Try.runUnderlying35 Try.sizeOf26 rfl rfl h770.1 h770.2 h771) rfl fun a hs => ?_
  refine sv hs (y_fieldAddr (o' := q773 + 7) Try.runUnderlying26 rfl Try.sizeOf24 rfl rfl rfl) rfl fun a hs => ?_
  refine sv hs (y_loadE1 (j := 7) (hw.ceAt 0 rfl) rfl Try.isAgg24 rfl) rfl fun a hs => ?_
  refine av hs rfl rfl fun a hs => ?_
  refine nl ?_
  refine sr ?_
  refine av hs rfl rfl fun a hs => ?_
  refine nl ?_
  refine wp_block ?_
  refine wp_while (fun sv867 a w => ∃ (Sv921 : Nat → Prop), Sl 125 [(2, .pointer (some ⟨b6, 0, none⟩)), (3, .pointer (some ⟨b7, 0, none⟩)), (4, .pointer (some ⟨b8, 0, none⟩)), (6, .int .i64 sv349), (7, .slice p780 x769.Taps.length k782), (8, .int .i64 sv867)] a ∧ Wd ⟨w0, S0, []⟩ Sv921 [.box b6 [.slice (some ⟨b775, o776, none⟩) r1.Stages.length k3] 37, .box b7 [.int .i64 out5.Num, .int .i64 out5.Den] 51, .box b8 [.int .i64 0, .int .i64 0] 57] [SlA p780 x769.Taps.length k782 x769.Taps, SlA (some ⟨b775, o776, none⟩) r1.Stages.length k3 r1.Stages] w) 0 hsh ⟨Sv557, (hs.wk rfl), (hw.ft [0, 1, 2] [1, 2] (by decide) rfl rfl)⟩ ?_
  repeat clear hsh
  rintro sv867 a w tv949 ⟨Sv921, hs, hw⟩ hsh hd948
  delta ref18_Delay_l11 at hsh
  refine wp_seq ?_
  refine sr ?_
  refine mv hs rfl rfl fun a hs => ?_
  refine mv hs rfl rfl fun a hs => ?_
  refine sv hs (y_len Try.runUnderlying24 rfl) rfl fun a hs => ?_
  refine sv hs (y_lss rfl rfl) rfl fun a hs => ?_
  refine nl ?_
  refine wp_cond_split (hs.ev rfl) (fun h953 => ?_) (fun h953 => ?_)
  ·have hsh := ite_t hsh h953
   refine wp_skip ?_
   refine then_normal ?_
   refine wp_seq ?_
   refine wp_block ?_
   refine wp_seq ?_
   obtain ⟨x979, h977, hsh⟩ := bind_t hsh
   obtain ⟨b985, o986, q983, c984, h987, h980, h981, h982, h978⟩ := hw.elemV 0 rfl h977
   have hsv988 := hs
   have hwv989 := hw
   subst h987
   have hs := hsv988
   have hw := hwv989
   obtain ⟨_, rfl, rfl⟩ := h978
   have hw := hw.addE h982
   obtain ⟨x992, h990, hsh⟩ := bind_t hsh
   obtain ⟨q996, c997, h993, h994, h995, h991⟩ := hw.elemK 1 rfl h990
   obtain ⟨_, rfl, rfl⟩ := h991
   have hw := hw.addE h995
   refine wp_only (fun a w => ∃ (Sv998 : Nat → Prop), Sl 125 [(2, .pointer (some ⟨b6, 0, none⟩)), (3, .pointer (some ⟨b7, 0, none⟩)), (4, .pointer (some ⟨b8, 0, none⟩)), (6, .int .i64 sv349), (7, .slice (some ⟨b985, o986, none⟩) x769.Taps.length k782), (8, .int .i64 sv867), (54, .bool (x979 != x992))] a ∧ Wd ⟨w0, S0, []⟩ Sv998 [.box b6 [.slice (some ⟨b775, o776, none⟩) r1.Stages.length k3] 37, .box b7 [.int .i64 out5.Num, .int .i64 out5.Den] 51, .box b8 [.int .i64 0, .int .i64 0] 57] [SlA (some ⟨b985, o986, none⟩) x769.Taps.length k782 x769.Taps, SlA (some ⟨b775, o776, none⟩) r1.Stages.length k3 r1.Stages] w) ?_ ?_
   ·refine h_b (C := Cls [.box b6 [.slice (some ⟨b775, o776, none⟩) r1.Stages.length k3] 37, .box b7 [.int .i64 out5.Num, .int .i64 out5.Den] 51, .box b8 [.int .i64 0, .int .i64 0] 57] [CeA b985 q996 [.int .i64 x992], CeA b985 q983 [.int .i64 x979]]) (by kernel_rfl) rfl (hw.drew.cs [0, 1, 2] [0, 1] rfl rfl) fun hC => ?_
    have hw := hw.drew
    refine gm hs 0 rfl rfl rfl hC fun a hs => ?_
    refine gm hs 1 rfl rfl rfl hC fun a hs => ?_
    refine gv hs 2 rfl rfl hC (fun w hC => y_indexAt Try.runUnderlying24 Try.sizeOf3 rfl rfl h980.1 h980.2 h981) fun a hs => ?_
    refine gv hs 3 rfl rfl hC (fun w hC => y_loadE1 (j := 0) (hC.ceAt 1 rfl) rfl Try.isAgg3 rfl) fun a hs => ?_
    refine gm hs 4 rfl rfl rfl hC fun a hs => ?_
    refine gm hs 5 rfl rfl rfl hC fun a hs => ?_
    refine gv hs 6 rfl rfl hC (fun w hC => y_len Try.runUnderlying24 rfl) fun a hs => ?_
    refine gv hs 7 rfl rfl hC (fun w hC => y_sub rfl rfl) fun a hs => ?_
    refine gm hs 8 rfl rfl rfl hC fun a hs => ?_
    refine gv hs 9 rfl rfl hC (fun w hC => y_sub rfl rfl) fun a hs => ?_
    refine gv hs 10 rfl rfl hC (fun w hC => y_indexAt Try.runUnderlying24 Try.sizeOf3 rfl rfl h993.1 h993.2 h994) fun a hs => ?_
    refine gv hs 11 rfl rfl hC (fun w hC => y_loadE1 (j := 0) (hC.ceAt 0 rfl) rfl Try.isAgg3 rfl) fun a hs => ?_
    refine gv hs 12 rfl rfl hC (fun w hC => y_neq rfl rfl) fun a hs => ?_
    refine h_done (by kernel_rfl) ?_
    exact ⟨Sv921, (hs.wk rfl), (hw.ft [0, 1, 2] [2, 3] (by decide) rfl rfl)⟩
   rintro a w ⟨Sv998, hs, hw⟩
   refine then_normal ?_
   refine wp_cond_split (hs.ev rfl) (fun h1000 => ?_) (fun h1000 => ?_)
   ·have hsh := ite_t hsh h1000
    refine sr ?_
    refine sv hs (y_build (vs := []) Bld57 rfl rfl) rfl fun a hs => ?_
    refine w_store (m := 2) (cs' := [.int .i64 0, .int .i64 0]) hs hw 2 rfl rfl rfl Try.sizeOf57 rfl rfl rfl rfl trivial ?_
    intro a w hs hw
    refine av hs rfl rfl fun a hs => ?_
    refine nl ?_
    have hsh := oi hsh
    subst hsh
    have h1001 := hd948 _ rfl
    subst h1001
    have h1002 := hd661 _ rfl
    subst h1002
    refine wp_ret ?_
    refine blk_ret ?_
    refine then_ret ?_
    refine then_ret ?_
    refine blk_ret ?_
    refine blk_ret ?_
    refine then_ret ?_
    refine then_ret ?_
    refine blk_ret ?_
    refine then_ret ?_
    exact ret2 hs rfl (rv_cell hw 2 rfl rfl Try.isAgg57 Try.sizeOf57 rfl) (rv_tmp rfl) (hw.ret rfl)
   have hsh := ite_f hsh h1000
   refine wp_skip ?_
   refine blk_normal ?_
   refine then_normal ?_
   refine wp_region_lit ?_
   refine mv hs rfl rfl fun a hs => ?_
   refine sv hs (y_add rfl rfl) rfl fun a hs => ?_
   obtain ⟨k1004, h1003, hsh⟩ := bind_t hsh
   refine sv hs (y_assignI rfl h1003) rfl fun a hs => ?_
   refine nl ?_
   exact ⟨_, (Option.some.inj hsh).symm, Sv998, (hs.wk rfl), (hw.ft [0, 1, 2] [0, 1] (by decide) rfl rfl)⟩
  have hsh := ite_f hsh h953
  obtain ⟨rv1007, hsh, h1008⟩ := map_t hsh
  have h1008 := (hd948 _ h1008.symm).symm
  subst h1008
  refine wp_exit ?_
  refine then_exit ?_
  refine then_exit ?_
  refine blk_exit ?_
  refine blk_normal ?_
  refine then_normal ?_
  refine wp_region_lit ?_
  refine mv hs rfl rfl fun a hs => ?_
  refine sv hs (y_add rfl rfl) rfl fun a hs => ?_
  obtain ⟨i1006, h1005, hsh⟩ := bind_t hsh
  refine sv hs (y_assignI rfl h1005) rfl fun a hs => ?_
  refine nl ?_
  exact ⟨_, (Option.some.inj hsh).symm, Sv921, (hs.wk rfl), (hw.ft [0, 1, 2] [1] (by decide) rfl rfl)⟩
 have hsh := ite_f hsh h666
 obtain ⟨rv1515, hsh, h1516⟩ := map_t hsh
 have h1516 := (hd661 _ h1516.symm).symm
 subst h1516
 refine wp_exit ?_
 refine then_exit ?_
 refine then_exit ?_
 refine blk_exit ?_
 refine then_normal ?_
 refine sr ?_
 refine sv hs (y_build (vs := [(1, .int .i64 1)]) Bld57 rfl rfl) rfl fun a hs => ?_
 refine w_alloc (cs := [.int .i64 0, .int .i64 0]) hs hw Try.zeroValue57 rfl rfl trivial ?_
 intro b1009 a w hs hw
 refine w_store (m := 2) (cs' := [.int .i64 0, .int .i64 1]) hs hw 0 rfl rfl rfl Try.sizeOf57 rfl rfl rfl rfl trivial ?_
 intro a w hs hw
 refine nl ?_
 refine wp_seq ?_
 refine sr ?_
 refine av hs rfl rfl fun a hs => ?_
 refine nl ?_
 refine wp_block ?_
 refine wp_while (fun sv1186 a w => ∃ (Sv1302 : Nat → Prop), Sl 125 [(2, .pointer (some ⟨b6, 0, none⟩)), (3, .pointer (some ⟨b7, 0, none⟩)), (4, .pointer (some ⟨b8, 0, none⟩)), (9, .pointer (some ⟨b1009, 0, none⟩)), (10, .int .i64 sv1186.2.2)] a ∧ Wd ⟨w0, S0, []⟩ Sv1302 [.box b6 [.slice p2 r1.Stages.length k3] 37, .box b7 [.int .i64 out5.Num, .int .i64 out5.Den] 51, .box b8 [.int .i64 0, .int .i64 0] 57, .box b1009 [.int .i64 sv1186.1, .int .i64 sv1186.2.1] 57] [SlA p2 r1.Stages.length k3 r1.Stages] w) (0, 1, 0) hsh ⟨Sv557, (hs.wk rfl), (hw.ft [1, 2, 3, 0] [0] (by decide) rfl rfl)⟩ ?_
 repeat clear hsh
 rintro sv1186 a w tv1361 ⟨Sv1302, hs, hw⟩ hsh hd1360
 delta ref18_Delay_l13 at hsh
 refine wp_seq ?_
 refine sr ?_
 refine mv hs rfl rfl fun a hs => ?_
 refine sv hs (y_fieldAddr (o' := 0) Try.runUnderlying37 rfl Try.sizeOf35 rfl rfl rfl) rfl fun a hs => ?_
 refine sv hs (y_loadB1 (hw.ownAt 0 rfl) rfl Try.isAgg35 rfl) rfl fun a hs => ?_
 refine sv hs (y_len Try.runUnderlying35 rfl) rfl fun a hs => ?_
 refine sv hs (y_lss rfl rfl) rfl fun a hs => ?_
 refine nl ?_
 refine wp_cond_split (hs.ev rfl) (fun h1365 => ?_) (fun h1365 => ?_)
 ·have hsh := ite_t hsh h1365
  refine wp_skip ?_
  refine then_normal ?_
  refine wp_seq ?_
  refine wp_join (fun a w => ∃ (x1418 : Int) (x1419 : Int) (Sv1417 : Nat → Prop), ref18_Delay_j2 sv1186 x1418 x1419 = some tv1361 ∧ Sl 125 [(2, .pointer (some ⟨b6, 0, none⟩)), (3, .pointer (some ⟨b7, 0, none⟩)), (4, .pointer (some ⟨b8, 0, none⟩)), (9, .pointer (some ⟨b1009, 0, none⟩)), (10, .int .i64 sv1186.2.2)] a ∧ Wd ⟨w0, S0, []⟩ Sv1417 [.box b6 [.slice p2 r1.Stages.length k3] 37, .box b7 [.int .i64 out5.Num, .int .i64 out5.Den] 51, .box b8 [.int .i64 0, .int .i64 0] 57, .box b1009 [.int .i64 x1418, .int .i64 x1419] 57] [SlA p2 r1.Stages.length k3 r1.Stages] w) ?_ ?_
  ·refine wp_block ?_
   refine wp_seq ?_
   refine sr ?_
   refine sv hs (y_fieldAddr (o' := 0) Try.runUnderlying37 rfl Try.sizeOf35 rfl rfl rfl) rfl fun a hs => ?_
   refine sv hs (y_loadB1 (hw.ownAt 0 rfl) rfl Try.isAgg35 rfl) rfl fun a hs => ?_
   refine mv hs rfl rfl fun a hs => ?_
   obtain ⟨x1424, h1422, hsh⟩ := bind_t hsh
   obtain ⟨b1430, o1431, q1428, c1429, h1432, h1425, h1426, h1427, h1423⟩ := hw.elemV 0 rfl h1422
   have hsv1433 := hs
   have hwv1434 := hw
   subst h1432
   have hs := hsv1433
   have hw := hwv1434
   obtain ⟨_, _, _, _, _, _, _, _, _, _, rfl, rfl, rfl, rfl, rfl, rfl, rfl, rfl, ⟨p1435, n1436, k1437, rfl, h1438⟩, rfl, rfl⟩ := h1423
   obtain rfl := h1438.1
   have hw := hw.addE (e := SlA p1435 _ k1437 x1424.Taps) h1438
   have hw := hw.addE h1427
   refine sv hs (y_indexAt Try.runUnderlying35 Try.sizeOf26 rfl rfl h1425.1 h1425.2 h1426) rfl fun a hs => ?_
   refine sv hs (y_fieldAddr (o' := q1428 + 0) Try.runUnderlying26 rfl Try.sizeOf3 rfl rfl rfl) rfl fun a hs => ?_
   refine sv hs (y_loadE1 (j := 0) (hw.ceAt 0 rfl) rfl Try.isAgg3 rfl) rfl fun a hs => ?_
   refine sv hs (y_neq rfl rfl) rfl fun a hs => ?_
   refine nl ?_
   refine wp_cond_split (hs.ev rfl) (fun h1440 => ?_) (fun h1440 => ?_)
   ·have hsh := ite_t hsh h1440
    refine wp_exit ?_
    refine then_exit ?_
    refine blk_exit ?_
    refine then_normal ?_
    exact ⟨sv1186.1, sv1186.2.1, Sv1302, hsh, (hs.wk rfl), (hw.ft [0, 1, 2, 3] [2] (by decide) rfl rfl)⟩
   have hsh := ite_f hsh h1440
   refine wp_skip ?_
   refine then_normal ?_
   refine wp_seq ?_
   obtain ⟨rv1442, h1441, hsh⟩ := bind_t hsh
   obtain ⟨rv1444, h1443, hsh⟩ := bind_t hsh
   refine wp_only (fun a w => ∃ (Sv1446 : Nat → Prop) (b1445 : Nat), Sl 125 [(2, .pointer (some ⟨b6, 0, none⟩)), (3, .pointer (some ⟨b7, 0, none⟩)), (4, .pointer (some ⟨b8, 0, none⟩)), (9, .pointer (some ⟨b1009, 0, none⟩)), (10, .int .i64 sv1186.2.2), (11, .pointer (some ⟨b1445, 0, none⟩)), (12, .int .i64 rv1444.2)] a ∧ Wd ⟨w0, S0, []⟩ Sv1446 [.box b6 [.slice (some ⟨b1430, o1431, none⟩) r1.Stages.length k3] 37, .box b7 [.int .i64 out5.Num, .int .i64 out5.Den] 51, .box b8 [.int .i64 0, .int .i64 0] 57, .box b1009 [.int .i64 sv1186.1, .int .i64 sv1186.2.1] 57, .box b1445 [.int .i64 rv1444.1.Num, .int .i64 rv1444.1.Den] 51] [SlA (some ⟨b1430, o1431, none⟩) r1.Stages.length k3 r1.Stages] w) ?_ ?_
   ·refine h_b (C := Cls [.box b6 [.slice (some ⟨b1430, o1431, none⟩) r1.Stages.length k3] 37, .box b7 [.int .i64 out5.Num, .int .i64 out5.Den] 51, .box b8 [.int .i64 0, .int .i64 0] 57, .box b1009 [.int .i64 sv1186.1, .int .i64 sv1186.2.1] 57] [CeA b1430 q1428 [.int .i64 x1424.Kind, .int .i64 x1424.Num.e0, .int .i64 x1424.Num.e1, .int .i64 x1424.Num.e2, .int .i64 x1424.Den.e0, .int .i64 x1424.Den.e1, .int .i64 x1424.Den.e2, .slice p1435 x1424.Taps.length k1437, .int .i64 x1424.Factor, .int .i64 x1424.Shift]]) (by kernel_rfl) rfl (hw.drew.cs [0, 1, 2, 3] [0] rfl rfl) fun hC => ?_
    have hw := hw.drew
    refine gv hs 0 rfl rfl hC (fun w hC => y_loadBA (hC.ownAt 1 rfl) rfl Try.isAgg51 Try.sizeOf51 rfl rfl) fun a hs => ?_
    refine gv hs 1 rfl rfl hC (fun w hC => y_loadBA (hC.ownAt 0 rfl) rfl Try.isAgg37 Try.sizeOf37 rfl rfl) fun a hs => ?_
    refine gm hs 2 rfl rfl rfl hC fun a hs => ?_
    refine h_all (rs := [3, 8]) (by kernel_rfl) rfl ?_
    refine AllH.cons rfl ?_ ?_
    ·refine st_callR hs (ref18_factor_ok h1441 hw.bdom (hw.bE 2 rfl)) (do_call Try.call61 rfl) trivial rfl rfl ?_
     intro v1450 Sv1447 w a h1448 h1449 hs
     subst h1449
     have hw := hw.callB h1448
     refine h_nx (hw.cs [0, 1, 2, 3] [0] rfl rfl) fun hC => ?_
     refine h_all (rs := [4, 8]) (by kernel_rfl) rfl ?_
     refine AllH.cons rfl ?_ ?_
     ·refine st_callR hs (ref18_faster_ok h1443 hw.bdom) (do_call Try.call60 rfl) trivial rfl rfl ?_
      intro v1455 Sv1452 w a h1453 h1454 hs
      subst h1454
      have hw := hw.callB h1453
      refine h_nx (hw.cs [0, 1, 2, 3] [0] rfl rfl) fun hC => ?_
      refine gm hs 5 rfl rfl rfl hC fun a hs => ?_
      refine gv hs 6 rfl rfl hC (fun w hC => y_extract rfl rfl) fun a hs => ?_
      refine gv hs 7 rfl rfl hC (fun w hC => y_extract rfl rfl) fun a hs => ?_
      refine ho 8 rfl ?_
      refine w_alloc (cs := [.int .i64 0, .int .i64 0]) hs hw Try.zeroValue51 rfl rfl trivial ?_
      intro b1445 a w hs hw
      refine h_nx (hw.cs [1, 2, 3, 4] [0] rfl rfl) fun hC => ?_
      refine ho 9 rfl ?_
      refine w_store (m := 2) (cs' := [.int .i64 rv1444.1.Num, .int .i64 rv1444.1.Den]) hs hw 0 rfl rfl rfl Try.sizeOf51 rfl rfl rfl rfl trivial ?_
      intro a w hs hw
      refine h_nx (hw.cs [1, 2, 3, 4] [0] rfl rfl) fun hC => ?_
      refine gv hs 10 rfl rfl hC (fun w hC => y_assign rfl) fun a hs => ?_
      refine h_done (by kernel_rfl) ?_
      exact ⟨Sv1302, b1445, (hs.wk rfl), (hw.ft [1, 2, 3, 4, 0] [2] (by decide) rfl rfl)⟩
     refine AllH.cons rfl ?_ ?_
     ·refine w_alloc (cs := [.int .i64 0, .int .i64 0]) hs hw Try.zeroValue51 rfl rfl trivial ?_
      intro b1445 a w hs hw
      refine h_nx (hw.cs [1, 2, 3, 4] [0] rfl rfl) fun hC => ?_
      refine ho 4 rfl ?_
      refine st_callR hs (ref18_faster_ok h1443 hw.bdom) (do_call Try.call60 rfl) trivial rfl rfl ?_
      intro v1460 Sv1457 w a h1458 h1459 hs
      subst h1459
      have hw := hw.callB h1458
      refine h_nx (hw.cs [1, 2, 3, 4] [0] rfl rfl) fun hC => ?_
      refine gm hs 5 rfl rfl rfl hC fun a hs => ?_
      refine gv hs 6 rfl rfl hC (fun w hC => y_extract rfl rfl) fun a hs => ?_
      refine gv hs 7 rfl rfl hC (fun w hC => y_extract rfl rfl) fun a hs => ?_
      refine ho 9 rfl ?_
      refine w_store (m := 2) (cs' := [.int .i64 rv1444.1.Num, .int .i64 rv1444.1.Den]) hs hw 0 rfl rfl rfl Try.sizeOf51 rfl rfl rfl rfl trivial ?_
      intro a w hs hw
      refine h_nx (hw.cs [1, 2, 3, 4] [0] rfl rfl) fun hC => ?_
      refine gv hs 10 rfl rfl hC (fun w hC => y_assign rfl) fun a hs => ?_
      refine h_done (by kernel_rfl) ?_
      exact ⟨Sv1302, b1445, (hs.wk rfl), (hw.ft [1, 2, 3, 4, 0] [2] (by decide) rfl rfl)⟩
     exact AllH.nil
    refine AllH.cons rfl ?_ ?_
    ·refine w_alloc (cs := [.int .i64 0, .int .i64 0]) hs hw Try.zeroValue51 rfl rfl trivial ?_
     intro b1445 a w hs hw
     refine h_nx (hw.cs [1, 2, 3, 4] [0] rfl rfl) fun hC => ?_
     refine ho 3 rfl ?_
     refine st_callR hs (ref18_factor_ok h1441 hw.bdom (hw.bE 2 rfl)) (do_call Try.call61 rfl) trivial rfl rfl ?_
     intro v1465 Sv1462 w a h1463 h1464 hs
     subst h1464
     have hw := hw.callB h1463
     refine h_nx (hw.cs [1, 2, 3, 4] [0] rfl rfl) fun hC => ?_
     refine ho 4 rfl ?_
     refine st_callR hs (ref18_faster_ok h1443 hw.bdom) (do_call Try.call60 rfl) trivial rfl rfl ?_
     intro v1470 Sv1467 w a h1468 h1469 hs
     subst h1469
     have hw := hw.callB h1468
     refine h_nx (hw.cs [1, 2, 3, 4] [0] rfl rfl) fun hC => ?_
     refine gm hs 5 rfl rfl rfl hC fun a hs => ?_
     refine gv hs 6 rfl rfl hC (fun w hC => y_extract rfl rfl) fun a hs => ?_
     refine gv hs 7 rfl rfl hC (fun w hC => y_extract rfl rfl) fun a hs => ?_
     refine ho 9 rfl ?_
     refine w_store (m := 2) (cs' := [.int .i64 rv1444.1.Num, .int .i64 rv1444.1.Den]) hs hw 0 rfl rfl rfl Try.sizeOf51 rfl rfl rfl rfl trivial ?_
     intro a w hs hw
     refine h_nx (hw.cs [1, 2, 3, 4] [0] rfl rfl) fun hC => ?_
     refine gv hs 10 rfl rfl hC (fun w hC => y_assign rfl) fun a hs => ?_
     refine h_done (by kernel_rfl) ?_
     exact ⟨Sv1302, b1445, (hs.wk rfl), (hw.ft [1, 2, 3, 4, 0] [2] (by decide) rfl rfl)⟩
    exact AllH.nil
   rintro a w ⟨Sv1446, b1445, hs, hw⟩
   refine then_normal ?_
   refine wp_seq ?_
   refine sr ?_
   refine mv hs rfl rfl fun a hs => ?_
   refine sv hs (y_neq rfl rfl) rfl fun a hs => ?_
   refine nl ?_
   refine wp_cond_split (hs.ev rfl) (fun h1473 => ?_) (fun h1473 => ?_)
   ·have hsh := ite_t hsh h1473
    refine sr ?_
    refine sv hs (y_build (vs := []) Bld57 rfl rfl) rfl fun a hs => ?_
    refine mv hs rfl rfl fun a hs => ?_
    refine w_store (m := 2) (cs' := [.int .i64 0, .int .i64 0]) hs hw 2 rfl rfl rfl Try.sizeOf57 rfl rfl rfl rfl trivial ?_
    intro a w hs hw
    refine av hs rfl rfl fun a hs => ?_
    refine nl ?_
    have hsh := oi hsh
    subst hsh
    have h1474 := hd1360 _ rfl
    subst h1474
    refine wp_ret ?_
    refine then_ret ?_
    refine blk_ret ?_
    refine then_ret ?_
    refine then_ret ?_
    refine then_ret ?_
    refine blk_ret ?_
    refine then_ret ?_
    exact ret2 hs rfl (rv_cell hw 2 rfl rfl Try.isAgg57 Try.sizeOf57 rfl) (rv_tmp rfl) (hw.ret rfl)
   have hsh := ite_f hsh h1473
   refine wp_skip ?_
   refine then_normal ?_
   refine wp_seq ?_
   obtain ⟨x1477, h1475, hsh⟩ := bind_t hsh
   obtain ⟨q1481, c1482, h1478, h1479, h1480, h1476⟩ := hw.elemK 0 rfl h1475
   obtain ⟨_, _, _, _, _, _, _, _, _, _, rfl, rfl, rfl, rfl, rfl, rfl, rfl, rfl, ⟨p1483, n1484, k1485, rfl, h1486⟩, rfl, rfl⟩ := h1476
   obtain rfl := h1486.1
   have hw := hw.addE (e := SlA p1483 _ k1485 x1477.Taps) h1486
   have hw := hw.addE h1480
   obtain ⟨rv1488, h1487, hsh⟩ := bind_t hsh
   refine wp_only (fun a w => ∃ (Sv1490 : Nat → Prop) (b1489 : Nat), Sl 125 [(2, .pointer (some ⟨b6, 0, none⟩)), (3, .pointer (some ⟨b7, 0, none⟩)), (4, .pointer (some ⟨b8, 0, none⟩)), (9, .pointer (some ⟨b1009, 0, none⟩)), (10, .int .i64 sv1186.2.2), (13, .pointer (some ⟨b1489, 0, none⟩))] a ∧ Wd ⟨w0, S0, []⟩ Sv1490 [.box b6 [.slice (some ⟨b1430, o1431, none⟩) r1.Stages.length k3] 37, .box b7 [.int .i64 out5.Num, .int .i64 out5.Den] 51, .box b8 [.int .i64 0, .int .i64 0] 57, .box b1009 [.int .i64 sv1186.1, .int .i64 sv1186.2.1] 57, .box b1489 [.int .i64 rv1488.Num, .int .i64 rv1488.Den] 57] [SlA (some ⟨b1430, o1431, none⟩) r1.Stages.length k3 r1.Stages] w) ?_ ?_
   ·refine h_b (C := Cls [.box b6 [.slice (some ⟨b1430, o1431, none⟩) r1.Stages.length k3] 37, .box b7 [.int .i64 out5.Num, .int .i64 out5.Den] 51, .box b8 [.int .i64 0, .int .i64 0] 57, .box b1009 [.int .i64 sv1186.1, .int .i64 sv1186.2.1] 57, .box b1445 [.int .i64 rv1444.1.Num, .int .i64 rv1444.1.Den] 51] [CeA b1430 q1481 [.int .i64 x1477.Kind, .int .i64 x1477.Num.e0, .int .i64 x1477.Num.e1, .int .i64 x1477.Num.e2, .int .i64 x1477.Den.e0, .int .i64 x1477.Den.e1, .int .i64 x1477.Den.e2, .slice p1483 x1477.Taps.length k1485, .int .i64 x1477.Factor, .int .i64 x1477.Shift]]) (by kernel_rfl) rfl (hw.drew.cs [0, 1, 2, 3, 4] [0] rfl rfl) fun hC => ?_
    have hw := hw.drew
    refine gv hs 0 rfl rfl hC (fun w hC => y_fieldAddr (o' := 0) Try.runUnderlying37 rfl Try.sizeOf35 rfl rfl rfl) fun a hs => ?_
    refine gv hs 1 rfl rfl hC (fun w hC => y_loadB1 (hC.ownAt 0 rfl) rfl Try.isAgg35 rfl) fun a hs => ?_
    refine gm hs 2 rfl rfl rfl hC fun a hs => ?_
    refine gv hs 3 rfl rfl hC (fun w hC => y_indexAt Try.runUnderlying35 Try.sizeOf26 rfl rfl h1478.1 h1478.2 h1479) fun a hs => ?_
    refine gv hs 4 rfl rfl hC (fun w hC => y_fieldAddr (o' := q1481 + 7) Try.runUnderlying26 rfl Try.sizeOf24 rfl rfl rfl) fun a hs => ?_
    refine gv hs 5 rfl rfl hC (fun w hC => y_loadE1 (j := 7) (hC.ceAt 0 rfl) rfl Try.isAgg24 rfl) fun a hs => ?_
    refine gv hs 6 rfl rfl hC (fun w hC => y_len Try.runUnderlying24 rfl) fun a hs => ?_
    refine gv hs 7 rfl rfl hC (fun w hC => y_sub rfl rfl) fun a hs => ?_
    refine gv hs 8 rfl rfl hC (fun w hC => y_fieldAddr (o' := 1) Try.runUnderlying51 rfl Try.sizeOf3 rfl rfl rfl) fun a hs => ?_
    refine gv hs 9 rfl rfl hC (fun w hC => y_loadB1 (hC.ownAt 4 rfl) rfl Try.isAgg3 rfl) fun a hs => ?_
    refine gv hs 10 rfl rfl hC (fun w hC => y_mul rfl rfl) fun a hs => ?_
    refine gv hs 11 rfl rfl hC (fun w hC => y_fieldAddr (o' := 0) Try.runUnderlying51 rfl Try.sizeOf3 rfl rfl rfl) fun a hs => ?_
    refine gv hs 12 rfl rfl hC (fun w hC => y_loadB1 (hC.ownAt 4 rfl) rfl Try.isAgg3 rfl) fun a hs => ?_
    refine gv hs 13 rfl rfl hC (fun w hC => y_mul rfl rfl) fun a hs => ?_
    refine h_all (rs := [14, 15]) (by kernel_rfl) rfl ?_
    refine AllH.cons rfl ?_ ?_
    ·refine st_callR hs (ref18_reduce_ok h1487 hw.bdom) (do_call Try.call62 rfl) trivial rfl rfl ?_
     intro v1494 Sv1491 w a h1492 h1493 hs
     subst h1493
     have hw := hw.callB h1492
     refine h_nx (hw.cs [0, 1, 2, 3, 4] [0] rfl rfl) fun hC => ?_
     refine ho 15 rfl ?_
     refine w_alloc (cs := [.int .i64 0, .int .i64 0]) hs hw Try.zeroValue57 rfl rfl trivial ?_
     intro b1489 a w hs hw
     refine h_nx (hw.cs [1, 2, 3, 4, 5] [0] rfl rfl) fun hC => ?_
     refine ho 16 rfl ?_
     refine w_store (m := 2) (cs' := [.int .i64 rv1488.Num, .int .i64 rv1488.Den]) hs hw 0 rfl rfl rfl Try.sizeOf57 rfl rfl rfl rfl trivial ?_
     intro a w hs hw
     refine h_nx (hw.cs [1, 2, 3, 4, 5] [0] rfl rfl) fun hC => ?_
     refine h_done (by kernel_rfl) ?_
     exact ⟨Sv1446, b1489, (hs.wk rfl), (hw.ft [1, 2, 3, 4, 0] [2] (by decide) rfl rfl)⟩
    refine AllH.cons rfl ?_ ?_
    ·refine w_alloc (cs := [.int .i64 0, .int .i64 0]) hs hw Try.zeroValue57 rfl rfl trivial ?_
     intro b1489 a w hs hw
     refine h_nx (hw.cs [1, 2, 3, 4, 5] [0] rfl rfl) fun hC => ?_
     refine ho 14 rfl ?_
     refine st_callR hs (ref18_reduce_ok h1487 hw.bdom) (do_call Try.call62 rfl) trivial rfl rfl ?_
     intro v1499 Sv1496 w a h1497 h1498 hs
     subst h1498
     have hw := hw.callB h1497
     refine h_nx (hw.cs [1, 2, 3, 4, 5] [0] rfl rfl) fun hC => ?_
     refine ho 16 rfl ?_
     refine w_store (m := 2) (cs' := [.int .i64 rv1488.Num, .int .i64 rv1488.Den]) hs hw 0 rfl rfl rfl Try.sizeOf57 rfl rfl rfl rfl trivial ?_
     intro a w hs hw
     refine h_nx (hw.cs [1, 2, 3, 4, 5] [0] rfl rfl) fun hC => ?_
     refine h_done (by kernel_rfl) ?_
     exact ⟨Sv1446, b1489, (hs.wk rfl), (hw.ft [1, 2, 3, 4, 0] [2] (by decide) rfl rfl)⟩
    exact AllH.nil
   rintro a w ⟨Sv1490, b1489, hs, hw⟩
   refine then_normal ?_
   refine sr ?_
   refine sv hs (y_fieldAddr (o' := 0) Try.runUnderlying57 rfl Try.sizeOf3 rfl rfl rfl) rfl fun a hs => ?_
   refine sv hs (y_loadB1 (hw.ownAt 3 rfl) rfl Try.isAgg3 rfl) rfl fun a hs => ?_
   refine sv hs (y_fieldAddr (o' := 1) Try.runUnderlying57 rfl Try.sizeOf3 rfl rfl rfl) rfl fun a hs => ?_
   refine sv hs (y_loadB1 (hw.ownAt 4 rfl) rfl Try.isAgg3 rfl) rfl fun a hs => ?_
   refine sv hs (y_mul rfl rfl) rfl fun a hs => ?_
   refine sv hs (y_fieldAddr (o' := 0) Try.runUnderlying57 rfl Try.sizeOf3 rfl rfl rfl) rfl fun a hs => ?_
   refine sv hs (y_loadB1 (hw.ownAt 4 rfl) rfl Try.isAgg3 rfl) rfl fun a hs => ?_
   refine sv hs (y_fieldAddr (o' := 1) Try.runUnderlying57 rfl Try.sizeOf3 rfl rfl rfl) rfl fun a hs => ?_
   refine sv hs (y_loadB1 (hw.ownAt 3 rfl) rfl Try.isAgg3 rfl) rfl fun a hs => ?_
   refine sv hs (y_mul rfl rfl) rfl fun a hs => ?_
   refine sv hs (y_add rfl rfl) rfl fun a hs => ?_
   refine sv hs (y_fieldAddr (o' := 1) Try.runUnderlying57 rfl Try.sizeOf3 rfl rfl rfl) rfl fun a hs => ?_
   refine sv hs (y_loadB1 (hw.ownAt 3 rfl) rfl Try.isAgg3 rfl) rfl fun a hs => ?_
   refine sv hs (y_fieldAddr (o' := 1) Try.runUnderlying57 rfl Try.sizeOf3 rfl rfl rfl) rfl fun a hs => ?_
   refine sv hs (y_loadB1 (hw.ownAt 4 rfl) rfl Try.isAgg3 rfl) rfl fun a hs => ?_
   refine sv hs (y_mul rfl rfl) rfl fun a hs => ?_
   obtain ⟨rv1502, h1501, hsh⟩ := bind_t hsh
   refine st_callR hs (ref18_reduce_ok h1501 hw.bdom) (do_call Try.call62 rfl) trivial rfl rfl ?_
   intro v1506 Sv1503 w a h1504 h1505 hs
   subst h1505
   have hw := hw.callB h1504
   refine w_store (m := 2) (cs' := [.int .i64 rv1502.Num, .int .i64 rv1502.Den]) hs hw 3 rfl rfl rfl Try.sizeOf57 rfl rfl rfl rfl trivial ?_
   intro a w hs hw
   refine nl ?_
   refine sr ?_
   refine sv hs (y_fieldAddr (o' := 0) Try.runUnderlying57 rfl Try.sizeOf3 rfl rfl rfl) rfl fun a hs => ?_
   refine sv hs (y_loadB1 (hw.ownAt 3 rfl) rfl Try.isAgg3 rfl) rfl fun a hs => ?_
   refine sv hs (y_gtr rfl rfl) rfl fun a hs => ?_
   refine mv hs rfl rfl fun a hs => ?_
   refine wpl_join 4 (fun a w1 => w = w1 ∧ Sl 125 [(2, .pointer (some ⟨b6, 0, none⟩)), (3, .pointer (some ⟨b7, 0, none⟩)), (4, .pointer (some ⟨b8, 0, none⟩)), (9, .pointer (some ⟨b1009, 0, none⟩)), (10, .int .i64 sv1186.2.2), (122, .bool ((decide (1099511627776 < rv1502.Num)) || (decide (1099511627776 < rv1502.Den))))] a) ?_ ?_
   ·rcases Bool.eq_false_or_eq_true (decide (1099511627776 < rv1502.Num)) with h1508 | h1508
    ·have hs := hs.fix 118 (.bool true) rfl (vb h1508)
     refine st_skip hs rfl rfl rfl rfl rfl fun a hs => ?_
     refine st_skip hs rfl rfl rfl rfl rfl fun a hs => ?_
     refine st_skip hs rfl rfl rfl rfl rfl fun a hs => ?_
     refine sv hs (y_pickT rfl rfl) rfl fun a hs => ?_
     refine nl ?_
     exact ⟨rfl, (hs.fix 122 (.bool ((decide (1099511627776 < rv1502.Num)) || (decide (1099511627776 < rv1502.Den)))) rfl (or_t h1508)).weaken _ ⟨rfl, rfl, rfl, rfl, rfl, rfl, trivial⟩⟩
    have hs := hs.fix 118 (.bool false) rfl (vb h1508)
    refine st_val hs (y_fieldAddr (o' := 1) Try.runUnderlying57 rfl Try.sizeOf3 rfl rfl rfl) ⟨_, rfl, rfl⟩ rfl rfl fun a hs => ?_
    refine st_val hs (y_loadB1 (hw.ownAt 3 rfl) rfl Try.isAgg3 rfl) ⟨_, rfl, rfl⟩ rfl rfl fun a hs => ?_
    refine st_val hs (y_gtr rfl rfl) ⟨_, rfl, rfl⟩ rfl rfl fun a hs => ?_
    refine sv hs (y_pickF rfl rfl) rfl fun a hs => ?_
    refine nl ?_
    exact ⟨rfl, (hs.fix 122 (.bool ((decide (1099511627776 < rv1502.Num)) || (decide (1099511627776 < rv1502.Den)))) rfl (or_f h1508)).weaken _ ⟨rfl, rfl, rfl, rfl, rfl, rfl, trivial⟩⟩
   rintro a w1 ⟨h1512, hs⟩
   subst h1512
   refine nl ?_
   refine wp_cond_split (hs.ev rfl) (fun h1510 => ?_) (fun h1510 => ?_)
   ·have hsh := ite_t hsh h1510
    refine sr ?_
    refine sv hs (y_build (vs := []) Bld57 rfl rfl) rfl fun a hs => ?_
    refine w_store (m := 2) (cs' := [.int .i64 0, .int .i64 0]) hs hw 2 rfl rfl rfl Try.sizeOf57 rfl rfl rfl rfl trivial ?_
    intro a w hs hw
    refine av hs rfl rfl fun a hs => ?_
    refine nl ?_
    have hsh := oi hsh
    subst hsh
    have h1511 := hd1360 _ rfl
    subst h1511
    refine wp_ret ?_
    refine blk_ret ?_
    refine then_ret ?_
    refine then_ret ?_
    refine then_ret ?_
    refine blk_ret ?_
    refine then_ret ?_
    exact ret2 hs rfl (rv_cell hw 2 rfl rfl Try.isAgg57 Try.sizeOf57 rfl) (rv_tmp rfl) (hw.ret rfl)
   have hsh := ite_f hsh h1510
   refine wp_skip ?_
   refine blk_normal ?_
   refine then_normal ?_
   exact ⟨rv1502.Num, rv1502.Den, Sv1490, hsh, (hs.wk rfl), (hw.ft [0, 1, 2, 3] [0] (by decide) rfl rfl)⟩
  rintro a w ⟨x1418, x1419, Sv1417, hsh, hs, hw⟩
  delta ref18_Delay_j2 at hsh
  refine then_normal ?_
  refine wp_region_lit ?_
  refine mv hs rfl rfl fun a hs => ?_
  refine sv hs (y_add rfl rfl) rfl fun a hs => ?_
  obtain ⟨i1421, h1420, hsh⟩ := bind_t hsh
  refine sv hs (y_assignI rfl h1420) rfl fun a hs => ?_
  refine nl ?_
  exact ⟨_, (Option.some.inj hsh).symm, Sv1417, (hs.wk rfl), (hw.ft [0, 1, 2, 3] [0] (by decide) rfl rfl)⟩
 have hsh := ite_f hsh h1365
 obtain ⟨rv1513, hsh, h1514⟩ := map_t hsh
 have h1514 := (hd1360 _ h1514.symm).symm
 subst h1514
 refine wp_exit ?_
 refine then_exit ?_
 refine then_exit ?_
 refine blk_exit ?_
 refine then_normal ?_
 refine sr ?_
 refine sv hs (y_loadBA (hw.ownAt 3 rfl) rfl Try.isAgg57 Try.sizeOf57 rfl rfl) rfl fun a hs => ?_
 refine w_store (m := 2) (cs' := [.int .i64 sv1186.1, .int .i64 sv1186.2.1]) hs hw 2 rfl rfl rfl Try.sizeOf57 rfl rfl rfl rfl trivial ?_
 intro a w hs hw
 refine av hs rfl rfl fun a hs => ?_
 refine nl ?_
 have hsh := oi hsh
 subst hsh
 refine wp_ret ?_
 exact ret2 hs rfl (rv_cell hw 2 rfl rfl Try.isAgg57 Try.sizeOf57 rfl) (rv_tmp rfl) (hw.ret rfl)

abbrev slices_Grow_Lapi_Stage_api_Stage_n_rd (w0 : World) (X : List Nat) (r : (List Stage)) : (Nat → Prop) → World → Value → Prop := fun S w v => ∃ (p0_0 : Option Addr) (k0_0 : Nat) (c0_0 : List Value), v = .slice p0_0 r.length k0_0 ∧ Outs X w0 S w [.row p0_0 r.length k0_0 c0_0 26 10] ∧ (RowA c0_0 r).p S w
set_option maxHeartbeats 4000000 in
set_option maxRecDepth 100000 in
theorem slices_Grow_Lapi_Stage_api_Stage_n_ok {w0 : World} {S0 : Nat → Prop} {n1 : Int} {r : (List Stage)} (hsh : slices_Grow_Lapi_Stage_api_Stage_n n1 = some r) (hS : ∀ b, S0 b → b < w0.heap.size) : Calls Try.prog 83 #[.slice none 0 0, .int .i64 n1] w0 (Ret ([]) w0 S0 (slices_Grow_Lapi_Stage_api_Stage_n_rd w0 ([]) r)) := by
 refine calls_of_wp Try.func83 rfl ?_
 have hs := Sl.enter #[.slice none 0 0, .int .i64 n1] 27 [(0, .slice none 0 0), (1, .int .i64 n1)] rfl ⟨rfl, rfl, trivial⟩
 have hw := Wd.enter (E := []) hS (fun _ h => (by cases h))
 delta slices_Grow_Lapi_Stage_api_Stage_n at hsh
 refine sr ?_
 refine av hs rfl rfl fun a hs => ?_
 refine nl ?_
 refine wp_seq ?_
 refine sr ?_
 refine mv hs rfl rfl fun a hs => ?_
 refine sv hs (y_lss rfl rfl) rfl fun a hs => ?_
 refine nl ?_
 refine wp_cond_split (hs.ev rfl) (fun h3 => ?_) (fun h3 => ?_)
 ·have hsh := ite_t hsh h3
  cases hsh
 have hsh := ite_f hsh h3
 refine wp_skip ?_
 refine then_normal ?_
 refine wp_seq ?_
 refine sr ?_
 refine mv hs rfl rfl fun a hs => ?_
 refine mv hs rfl rfl fun a hs => ?_
 refine sv hs (y_cap Try.runUnderlying35 rfl) rfl fun a hs => ?_
 refine mv hs rfl rfl fun a hs => ?_
 refine sv hs (y_len Try.runUnderlying35 rfl) rfl fun a hs => ?_
 refine sv hs (y_sub rfl rfl) rfl fun a hs => ?_
 refine sv hs (y_sub rfl rfl) rfl fun a hs => ?_
 obtain ⟨n5, h4, hsh⟩ := bind_t hsh
 refine sv hs (y_assignI rfl h4) rfl fun a hs => ?_
 refine nl ?_
 refine sr ?_
 refine mv hs rfl rfl fun a hs => ?_
 refine sv hs (y_gtr rfl rfl) rfl fun a hs => ?_
 refine nl ?_
 refine wp_join (fun a w => ∃ (sv23 : (List Stage)) (c19 : List Value) (p20 : Option Addr) (k21 : Nat) (Sv22 : Nat → Prop), slices_Grow_Lapi_Stage_api_Stage_n_j1 sv23 = some r ∧ Sl 27 [(0, .slice p20 sv23.length k21)] a ∧ Wd ⟨w0, S0, []⟩ Sv22 [.row p20 sv23.length k21 c19 26 10] [RowA c19 sv23] w) ?_ ?_
 ·refine wp_cond_split (hs.ev rfl) (fun h24 => ?_) (fun h24 => ?_)
  ·have hsh := ite_t hsh h24
   refine wp_region_lit ?_
   refine mv hs rfl rfl fun a hs => ?_
   refine mv hs rfl rfl fun a hs => ?_
   refine sv hs (y_cap Try.runUnderlying35 rfl) rfl fun a hs => ?_
   obtain ⟨l28, h25, hsh⟩ := bind_t hsh
   obtain ⟨h26, h27⟩ := sub_nil 10 h25
   subst h26
   refine sv hs (y_slc Try.runUnderlying35 Try.sizeOf26 rfl (by exact rfl) ⟨_, rfl⟩ h27) rfl fun a hs => ?_
   refine mv hs rfl rfl fun a hs => ?_
   obtain ⟨l30, h29, hsh⟩ := bind_t hsh
   refine w_appendMk (α := Stage) (z0 := ((⟨0, (⟨0, 0, 0⟩ : (Arr3 Int)), (⟨0, 0, 0⟩ : (Arr3 Int)), ([] : List Int), 0, 0⟩ : Stage) : Stage)) hs hw El35 ⟨_, _, _, _, _, _, _, _, _, _, rfl, rfl, rfl, rfl, rfl, rfl, rfl, rfl, ⟨none, 0, 0, rfl, nil_sl⟩, rfl, rfl⟩ Try.underlying3 rfl rfl h29 rfl rfl trivial ?_
   intro p31 k32 c33 a w hs hw
   refine mv hs rfl rfl fun a hs => ?_
   refine sv hs (y_len Try.runUnderlying35 rfl) rfl fun a hs => ?_
   obtain ⟨l36, h34, hsh⟩ := bind_t hsh
   obtain ⟨hw, h35⟩ := w_cut hw 0 rfl 0 rfl h34
   refine sv hs (y_slc Try.runUnderlying35 Try.sizeOf26 rfl (by exact rfl) ⟨_, rfl⟩ h35) rfl fun a hs => ?_
   refine av hs rfl rfl fun a hs => ?_
   refine nl ?_
   exact ⟨l36, (c33.take (l36.length * 10)), p31, k32, S0, hsh, (hs.wk rfl), (hw.ft [0] [0] (by decide) rfl rfl)⟩
  have hsh := ite_f hsh h24
  refine wp_skip ?_
  refine then_normal ?_
  have hw := hw.nilRow Stage 26
  exact ⟨([] : List Stage), [], none, 0, S0, hsh, (hs.wk rfl), (hw.ft [0] [0] (by decide) rfl rfl)⟩
 rintro a w ⟨sv23, c19, p20, k21, Sv22, hsh, hs, hw⟩
 delta slices_Grow_Lapi_Stage_api_Stage_n_j1 at hsh
 refine then_normal ?_
 refine sr ?_
 refine mv hs rfl rfl fun a hs => ?_
 refine av hs rfl rfl fun a hs => ?_
 refine nl ?_
 have hsh := oi hsh
 subst hsh
 refine wp_ret ?_
 exact ret1 hs rfl (rv_tmp rfl) (hw.ret ⟨p20, k21, c19, rfl, (hw.outs [0] (by decide) rfl), (hw.envAt 0 rfl)⟩)

abbrev slices_Concat_Lapi_Stage_api_Stage_rd (w0 : World) (X : List Nat) (r : (List Stage)) : (Nat → Prop) → World → Value → Prop := fun S w v => ∃ (p0_0 : Option Addr) (k0_0 : Nat) (c0_0 : List Value), v = .slice p0_0 r.length k0_0 ∧ Outs X w0 S w [.row p0_0 r.length k0_0 c0_0 26 10] ∧ (RowA c0_0 r).p S w
set_option maxHeartbeats 4000000 in
set_option maxRecDepth 100000 in
theorem slices_Concat_Lapi_Stage_api_Stage_ok {w0 : World} {S0 : Nat → Prop} {p2 : Option Addr} {k3 : Nat} {slices1 : (List (List Stage))} {r : (List Stage)} (hsh : slices_Concat_Lapi_Stage_api_Stage slices1 = some r) (hS : ∀ b, S0 b → b < w0.heap.size) (h4 : (SlA p2 slices1.length k3 slices1).p S0 w0) : Calls Try.prog 49 #[.slice p2 slices1.length k3] w0 (Ret ([]) w0 S0 (slices_Concat_Lapi_Stage_api_Stage_rd w0 ([]) r)) := by
 refine calls_of_wp Try.func49 rfl ?_
 have hs := Sl.enter #[.slice p2 slices1.length k3] 36 [(0, .slice p2 slices1.length k3)] rfl ⟨rfl, trivial⟩
 have hw := Wd.enter (E := []) hS (fun _ h => (by cases h))
 have hw := hw.addE h4
 delta slices_Concat_Lapi_Stage_api_Stage at hsh
 refine sr ?_
 refine av hs rfl rfl fun a hs => ?_
 refine nl ?_
 refine sr ?_
 refine av hs rfl rfl fun a hs => ?_
 refine nl ?_
 refine wp_seq ?_
 refine sr ?_
 refine mv hs rfl rfl fun a hs => ?_
 refine sv hs (y_len Try.runUnderlying111 rfl) rfl fun a hs => ?_
 refine mv hs rfl rfl fun a hs => ?_
 refine nl ?_
 obtain ⟨e74, h265, hsh⟩ := bind_t hsh
 refine wp_join (fun a w => ∃ (Sv75 : Nat → Prop), Sl 36 [(0, .slice p2 slices1.length k3), (3, .int .i64 e74)] a ∧ Wd ⟨w0, S0, []⟩ Sv75 [] [SlA p2 slices1.length k3 slices1] w) ?_ ?_
 ·refine wp_block ?_
  refine wp_while (fun sv5 a w => ∃ (Sv49 : Nat → Prop), Sl 36 [(0, .slice p2 slices1.length k3), (3, .int .i64 sv5.1), (9, .slice p2 slices1.length k3), (10, .int .i64 (slices1.length : Int)), (11, .int .i64 sv5.2)] a ∧ Wd ⟨w0, S0, []⟩ Sv49 [] [SlA p2 slices1.length k3 slices1] w) (0, 0) h265 ⟨S0, (hs.wk rfl), (hw.ft [] [0] (by decide) rfl rfl)⟩ ?_
  clear h265
  repeat clear hsh
  rintro sv5 a w tv72 ⟨Sv49, hs, hw⟩ hsh hd71
  delta slices_Concat_Lapi_Stage_api_Stage_l1 at hsh
  refine sr ?_
  refine sv hs (y_lss rfl rfl) rfl fun a hs => ?_
  refine nl ?_
  refine wp_seq ?_
  refine wp_cond_split (hs.ev rfl) (fun h77 => ?_) (fun h77 => ?_)
  ·have hsh := ite_t hsh h77
   refine wp_skip ?_
   refine then_normal ?_
   refine wp_seq ?_
   refine wp_block ?_
   refine sr ?_
   obtain ⟨x100, h98, hsh⟩ := bind_t hsh
   obtain ⟨b106, o107, q104, c105, h108, h101, h102, h103, h99⟩ := hw.elemV 0 rfl h98
   have hsv109 := hs
   have hwv110 := hw
   subst h108
   have hs := hsv109
   have hw := hwv110
   obtain ⟨_, rfl, ⟨p111, n112, k113, rfl, h114⟩⟩ := h99
   obtain rfl := h114.1
   have hw := hw.addE (e := SlA p111 _ k113 x100) h114
   have hw := hw.addE h103
   refine sv hs (y_indexAt Try.runUnderlying111 Try.sizeOf35 rfl rfl h101.1 h101.2 h102) rfl fun a hs => ?_
   refine sv hs (y_loadE1 (j := 0) (hw.ceAt 0 rfl) rfl Try.isAgg35 rfl) rfl fun a hs => ?_
   refine av hs rfl rfl fun a hs => ?_
   refine nl ?_
   refine sr ?_
   refine mv hs rfl rfl fun a hs => ?_
   refine mv hs rfl rfl fun a hs => ?_
   refine sv hs (y_len Try.runUnderlying35 rfl) rfl fun a hs => ?_
   refine sv hs (y_add rfl rfl) rfl fun a hs => ?_
   obtain ⟨size116, h115, hsh⟩ := bind_t hsh
   refine sv hs (y_assignI rfl h115) rfl fun a hs => ?_
   refine nl ?_
   refine sr ?_
   refine mv hs rfl rfl fun a hs => ?_
   refine sv hs (y_lss rfl rfl) rfl fun a hs => ?_
   refine nl ?_
   refine wp_cond_split (hs.ev rfl) (fun h118 => ?_) (fun h118 => ?_)
   ·have hsh := ite_t hsh h118
    cases hsh
   have hsh := ite_f hsh h118
   refine wp_skip ?_
   refine blk_normal ?_
   refine then_normal ?_
   refine wp_region_lit ?_
   refine sv hs (y_add rfl rfl) rfl fun a hs => ?_
   refine mv hs rfl rfl fun a hs => ?_
   refine nl ?_
   exact ⟨_, (Option.some.inj hsh).symm, Sv49, (hs.wk rfl), (hw.ft [] [2] (by decide) rfl rfl)⟩
  have hsh := ite_f hsh h77
  refine wp_exit ?_
  refine then_exit ?_
  refine then_exit ?_
  refine blk_exit ?_
  have hsh := oi hsh
  subst hsh
  have h119 := hd71 _ rfl
  subst h119
  refine then_normal ?_
  exact ⟨Sv49, (hs.wk rfl), (hw.ft [] [0] (by decide) rfl rfl)⟩
 rintro a w ⟨Sv75, hs, hw⟩
 refine then_normal ?_
 refine sr ?_
 refine mv hs rfl rfl fun a hs => ?_
 obtain ⟨rv121, h120, hsh⟩ := bind_t hsh
 refine st_callR hs (slices_Grow_Lapi_Stage_api_Stage_n_ok h120 hw.dom) (do_call Try.call83 rfl) trivial rfl rfl ?_
 intro v129 Sv126 w a h127 h128 hs
 obtain ⟨p122, k123, c125, rfl, h130, h124⟩ := h128
 have hw := hw.callN h127 h130
 have hw := hw.addE (e := RowA c125 rv121) h124
 refine av hs rfl rfl fun a hs => ?_
 refine nl ?_
 refine wp_seq ?_
 refine sr ?_
 refine mv hs rfl rfl fun a hs => ?_
 refine sv hs (y_len Try.runUnderlying111 rfl) rfl fun a hs => ?_
 refine mv hs rfl rfl fun a hs => ?_
 refine nl ?_
 obtain ⟨e212, h264, hsh⟩ := bind_t hsh
 refine wp_join (fun a w => ∃ (c213 : List Value) (p214 : Option Addr) (k215 : Nat) (Sv216 : Nat → Prop), Sl 36 [(6, .slice p214 e212.length k215)] a ∧ Wd ⟨w0, S0, []⟩ Sv216 [.row p214 e212.length k215 c213 26 10] [RowA c213 e212] w) ?_ ?_
 ·refine wp_block ?_
  refine wp_while (fun sv131 a w => ∃ (c182 : List Value) (p183 : Option Addr) (k184 : Nat) (Sv185 : Nat → Prop), Sl 36 [(6, .slice p183 sv131.1.length k184), (25, .slice p2 slices1.length k3), (26, .int .i64 (slices1.length : Int)), (27, .int .i64 sv131.2)] a ∧ Wd ⟨w0, S0, []⟩ Sv185 [.row p183 sv131.1.length k184 c182 26 10] [SlA p2 slices1.length k3 slices1, RowA c182 sv131.1] w) (rv121, 0) h264 ⟨c125, p122, k123, Sv126, (hs.wk rfl), (hw.ft [0] [1, 0] (by decide) rfl rfl)⟩ ?_
  clear h264
  repeat clear hsh
  rintro sv131 a w tv210 ⟨c182, p183, k184, Sv185, hs, hw⟩ hsh hd209
  delta slices_Concat_Lapi_Stage_api_Stage_l2 at hsh
  refine sr ?_
  refine sv hs (y_lss rfl rfl) rfl fun a hs => ?_
  refine nl ?_
  refine wp_seq ?_
  refine wp_cond_split (hs.ev rfl) (fun h218 => ?_) (fun h218 => ?_)
  ·have hsh := ite_t hsh h218
   refine wp_skip ?_
   refine then_normal ?_
   refine wp_seq ?_
   refine wp_block ?_
   refine sr ?_
   obtain ⟨x243, h241, hsh⟩ := bind_t hsh
   obtain ⟨b249, o250, q247, c248, h251, h244, h245, h246, h242⟩ := hw.elemV 0 rfl h241
   have hsv252 := hs
   have hwv253 := hw
   subst h251
   have hs := hsv252
   have hw := hwv253
   obtain ⟨_, rfl, ⟨p254, n255, k256, rfl, h257⟩⟩ := h242
   obtain rfl := h257.1
   have hw := hw.addE (e := SlA p254 _ k256 x243) h257
   have hw := hw.addE h246
   refine sv hs (y_indexAt Try.runUnderlying111 Try.sizeOf35 rfl rfl h244.1 h244.2 h245) rfl fun a hs => ?_
   refine sv hs (y_loadE1 (j := 0) (hw.ceAt 0 rfl) rfl Try.isAgg35 rfl) rfl fun a hs => ?_
   refine av hs rfl rfl fun a hs => ?_
   refine nl ?_
   refine wp_region_lit ?_
   refine mv hs rfl rfl fun a hs => ?_
   refine mv hs rfl rfl fun a hs => ?_
   obtain ⟨l259, h258, hsh⟩ := bind_t hsh
   refine w_appendE (α := Stage) hs hw El35 0 rfl rfl rfl 3 rfl 1 rfl h258 rfl trivial ?_
   intro p260 k261 c262 a w hs hw
   refine av hs rfl rfl fun a hs => ?_
   refine wpList_nil ?_
   refine blk_normal ?_
   refine then_normal ?_
   refine wp_region_lit ?_
   refine sv hs (y_add rfl rfl) rfl fun a hs => ?_
   refine mv hs rfl rfl fun a hs => ?_
   refine nl ?_
   exact ⟨_, (Option.some.inj hsh).symm, c262, p260, k261, Sv185, (hs.wk rfl), (hw.ft [0] [3, 0] (by decide) rfl rfl)⟩
  have hsh := ite_f hsh h218
  refine wp_exit ?_
  refine then_exit ?_
  refine then_exit ?_
  refine blk_exit ?_
  have hsh := oi hsh
  subst hsh
  have h263 := hd209 _ rfl
  subst h263
  refine then_normal ?_
  exact ⟨c182, p183, k184, Sv185, (hs.wk rfl), (hw.ft [0] [1] (by decide) rfl rfl)⟩
 rintro a w ⟨c213, p214, k215, Sv216, hs, hw⟩
 refine then_normal ?_
 refine sr ?_
 refine mv hs rfl rfl fun a hs => ?_
 refine av hs rfl rfl fun a hs => ?_
 refine nl ?_
 have hsh := oi hsh
 subst hsh
 refine wp_ret ?_
 exact ret1 hs rfl (rv_tmp rfl) (hw.ret ⟨p214, k215, c213, rfl, (hw.outs [0] (by decide) rfl), (hw.envAt 0 rfl)⟩)

abbrev slices_Clone_Lapi_Stage_api_Stage_rd (w0 : World) (X : List Nat) (r : (List Stage)) : (Nat → Prop) → World → Value → Prop := fun S w v => ∃ (p0_0 : Option Addr) (k0_0 : Nat) (c0_0 : List Value), v = .slice p0_0 r.length k0_0 ∧ Outs X w0 S w [.row p0_0 r.length k0_0 c0_0 26 10] ∧ (RowA c0_0 r).p S w
set_option maxHeartbeats 4000000 in
set_option maxRecDepth 100000 in
theorem slices_Clone_Lapi_Stage_api_Stage_ok {w0 : World} {S0 : Nat → Prop} {p2 : Option Addr} {k3 : Nat} {s1 : (List Stage)} {r : (List Stage)} (hsh : slices_Clone_Lapi_Stage_api_Stage s1 = some r) (hS : ∀ b, S0 b → b < w0.heap.size) (h4 : (SlA p2 s1.length k3 s1).p S0 w0) : Calls Try.prog 81 #[.slice p2 s1.length k3] w0 (Ret ([]) w0 S0 (slices_Clone_Lapi_Stage_api_Stage_rd w0 ([]) r)) := by
 refine calls_of_wp Try.func81 rfl ?_
 have hs := Sl.enter #[.slice p2 s1.length k3] 8 [(0, .slice p2 s1.length k3)] rfl ⟨rfl, trivial⟩
 have hw := Wd.enter (E := []) hS (fun _ h => (by cases h))
 have hw := hw.addE h4
 delta slices_Clone_Lapi_Stage_api_Stage at hsh
 refine sr ?_
 refine av hs rfl rfl fun a hs => ?_
 refine nl ?_
 refine wp_seq ?_
 refine sr ?_
 refine mv hs rfl rfl fun a hs => ?_
 refine sv hs (y_eqlN Try.runUnderlying35 rfl rfl) rfl fun a hs => ?_
 refine nl ?_
 have hsv15 := hs
 have hwv16 := hw
 rcases p2 with _ | av8
 ·have hs := hsv15
  have hw := hwv16
  obtain rfl := slnil (hw.envAt 0 rfl)
  have hsh : some ([] : List Stage) = some r := by simpa [appM, maxLen] using hsh
  refine wp_cond_true (hs.ev rfl) ?_
  refine sr ?_
  refine av hs rfl rfl fun a hs => ?_
  refine nl ?_
  have hsh := oi hsh
  subst hsh
  have hw := hw.nilRow Stage 26
  refine wp_ret ?_
  refine then_ret ?_
  exact ret1 hs rfl (rv_tmp rfl) (hw.ret ⟨none, 0, [], rfl, (hw.outs [0] (by decide) rfl), (hw.envAt 0 rfl)⟩)
 have hs := hsv15
 have hw := hwv16
 refine wp_cond_false (hs.ev rfl) ?_
 refine wp_skip ?_
 refine then_normal ?_
 refine sr ?_
 refine w_buildSlice (α := Stage) (vs := []) (cs := []) (xs := ([] : List Stage)) hs hw El35 rfl rfl rfl rfl rfl rfl rfl rfl trivial fun p9 a w hs hw => ?_
 refine mv hs rfl rfl fun a hs => ?_
 obtain ⟨l11, h10, hsh⟩ := bind_t hsh
 refine w_appendE (α := Stage) hs hw El35 0 rfl rfl rfl 0 rfl 1 rfl h10 rfl trivial ?_
 intro p12 k13 c14 a w hs hw
 refine av hs rfl rfl fun a hs => ?_
 refine nl ?_
 have hsh := oi hsh
 subst hsh
 refine wp_ret ?_
 exact ret1 hs rfl (rv_tmp rfl) (hw.ret ⟨p12, k13, c14, rfl, (hw.outs [0] (by decide) rfl), (hw.envAt 0 rfl)⟩)

end Go.Proofs.Ytoendkojgjobbaa.Wk

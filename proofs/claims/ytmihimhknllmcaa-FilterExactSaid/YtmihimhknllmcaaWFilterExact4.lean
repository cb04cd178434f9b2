/- The walks of FilterExact, part 4: each Go function computes what its plain program computes. Printed by a program of ours. -/
import Derived.Test.YtmihimhknllmcaaProg
import Derived.Test.YtmihimhknllmcaaDat
import Derived.Test.YtmihimhknllmcaaSh
import Derived.Test.YtmihimhknllmcaaLibL
import Derived.KernelRfl
import Derived.Test.YtmihimhknllmcaaWFilterExact3
namespace Go.Proofs.Ytmihimhknllmcaa.Wk
open Go Go.RowKit Go.Proofs Go.Proofs.Ytmihimhknllmcaa.Sh
set_option linter.unusedVariables false
set_option linter.unusedSimpArgs false

abbrev law21_FilterExact_rd (w0 : World) (X : List Nat) (r : Bool) : (Nat → Prop) → World → Value → Prop := fun S w v => v = .bool r
set_option maxHeartbeats 4000000 in
set_option maxRecDepth 100000 in
theorem law21_FilterExact_ok {w0 : World} {S0 : Nat → Prop} {p2 : Option Addr} {k3 : Nat} {p6 : Option Addr} {k7 : Nat} {p10 : Option Addr} {k11 : Nat} {p15 : Option Addr} {k16 : Nat} {p17 : Option Addr} {k18 : Nat} {p22 : Option Addr} {k23 : Nat} {t1 : (List Int)} {raw5 : Filter} {samples9 : (List Int)} {number13 : Int} {feed14 : Feed} {stage21 : Stage} {r : Bool} (hsh : law21_FilterExact t1 raw5 samples9 number13 feed14 stage21 = some r) (hS : ∀ b, S0 b → b < w0.heap.size) (h4 : (SlA p2 t1.length k3 t1).p S0 w0) (h8 : (SlA p6 raw5.Taps.length k7 raw5.Taps).p S0 w0) (h12 : (SlA p10 samples9.length k11 samples9).p S0 w0) (h19 : (SlA p15 feed14.Filter.Taps.length k16 feed14.Filter.Taps).p S0 w0) (h20 : (SlA p17 feed14.Past.length k18 feed14.Past).p S0 w0) (h24 : (SlA p22 stage21.Taps.length k23 stage21.Taps).p S0 w0) : Calls Try.prog 9 #[.slice p2 t1.length k3, .agg #[.slice p6 raw5.Taps.length k7, .int .i64 raw5.Factor, .int .i64 raw5.Shift], .slice p10 samples9.length k11, .int .i64 number13, .agg #[.slice p15 feed14.Filter.Taps.length k16, .int .i64 feed14.Filter.Factor, .int .i64 feed14.Filter.Shift, .slice p17 feed14.Past.length k18, .int .i64 feed14.Number], .agg #[.int .i64 stage21.Kind, .int .i64 stage21.Num.e0, .int .i64 stage21.Num.e1, .int .i64 stage21.Num.e2, .int .i64 stage21.Den.e0, .int .i64 stage21.Den.e1, .int .i64 stage21.Den.e2, .slice p22 stage21.Taps.length k23, .int .i64 stage21.Factor, .int .i64 stage21.Shift]] w0 (Ret ([]) w0 S0 (law21_FilterExact_rd w0 ([]) r)) := by
 refine calls_of_wp Try.func9 rfl ?_
 have hs := Sl.enter #[.slice p2 t1.length k3, .agg #[.slice p6 raw5.Taps.length k7, .int .i64 raw5.Factor, .int .i64 raw5.Shift], .slice p10 samples9.length k11, .int .i64 number13, .agg #[.slice p15 feed14.Filter.Taps.length k16, .int .i64 feed14.Filter.Factor, .int .i64 feed14.Filter.Shift, .slice p17 feed14.Past.length k18, .int .i64 feed14.Number], .agg #[.int .i64 stage21.Kind, .int .i64 stage21.Num.e0, .int .i64 stage21.Num.e1, .int .i64 stage21.Num.e2, .int .i64 stage21.Den.e0, .int .i64 stage21.Den.e1, .int .i64 stage21.Den.e2, .slice p22 stage21.Taps.length k23, .int .i64 stage21.Factor, .int .i64 stage21.Shift]] 306 [(0, .slice p2 t1.length k3), (1, .agg #[.slice p6 raw5.Taps.length k7, .int .i64 raw5.Factor, .int .i64 raw5.Shift]), (2, .slice p10 samples9.length k11), (3, .int .i64 number13), (4, .agg #[.slice p15 feed14.Filter.Taps.length k16, .int .i64 feed14.Filter.Factor, .int .i64 feed14.Filter.Shift, .slice p17 feed14.Past.length k18, .int .i64 feed14.Number]), (5, .agg #[.int .i64 stage21.Kind, .int .i64 stage21.Num.e0, .int .i64 stage21.Num.e1, .int .i64 stage21.Num.e2, .int .i64 stage21.Den.e0, .int .i64 stage21.Den.e1, .int .i64 stage21.Den.e2, .slice p22 stage21.Taps.length k23, .int .i64 stage21.Factor, .int .i64 stage21.Shift])] rfl ⟨rfl, rfl, rfl, rfl, rfl, rfl, trivial⟩
 have hw := Wd.enter (E := []) hS (fun _ h => (by cases h))
 have hw := hw.addE h4
 have hw := hw.addE h8
 have hw := hw.addE h12
 have hw := hw.addE h19
 have hw := hw.addE h20
 have hw := hw.addE h24
 delta law21_FilterExact at hsh
 refine wp_seq ?_
 refine wp_region_lit ?_
 refine w_box (cs := [.slice p6 raw5.Taps.length k7, .int .i64 raw5.Factor, .int .i64 raw5.Shift]) hs hw rfl rfl rfl trivial ?_
 intro b25 a w hs hw
 refine w_box (cs := [.slice p15 feed14.Filter.Taps.length k16, .int .i64 feed14.Filter.Factor, .int .i64 feed14.Filter.Shift, .slice p17 feed14.Past.length k18, .int .i64 feed14.Number]) hs hw rfl rfl rfl trivial ?_
 intro b26 a w hs hw
 refine w_box (cs := [.int .i64 stage21.Kind, .int .i64 stage21.Num.e0, .int .i64 stage21.Num.e1, .int .i64 stage21.Num.e2, .int .i64 stage21.Den.e0, .int .i64 stage21.Den.e1, .int .i64 stage21.Den.e2, .slice p22 stage21.Taps.length k23, .int .i64 stage21.Factor, .int .i64 stage21.Shift]) hs hw rfl rfl rfl trivial ?_
 intro b27 a w hs hw
 refine st_val hs (y_assign rfl) trivial rfl rfl fun a hs => ?_
 refine wpList_nil ?_
 refine then_normal ?_
 refine wp_seq ?_
 refine wp_seq ?_
 refine wp_region_lit ?_
 refine st_val hs (y_move rfl) trivial rfl rfl fun a hs => ?_
 obtain ⟨rv29, h28, hsh⟩ := bind_t hsh
 refine st_callR hs (made_Light_ok h28 hw.bdom (hw.bE 5 rfl)) (do_call Try.call10 rfl) trivial rfl rfl ?_
 intro v33 Sv30 w a h31 h32 hs
 subst h32
 have hw := hw.callB h31
 refine st_val hs (y_not rfl) trivial rfl rfl fun a hs => ?_
 refine st_val hs (y_move rfl) trivial rfl rfl fun a hs => ?_
 refine wpl_join 5 (fun a w1 => w = w1 ∧ Sl 306 [(0, .slice p2 t1.length k3), (2, .slice p10 samples9.length k11), (3, .int .i64 number13), (7, .pointer (some ⟨b25, 0, none⟩)), (10, .pointer (some ⟨b26, 0, none⟩)), (11, .pointer (some ⟨b27, 0, none⟩)), (62, .bool ((!rv29) || (decide (150 < (raw5.Taps.length : Int)))))] a) ?_ ?_
 ·rcases Bool.eq_false_or_eq_true (!rv29) with h35 | h35
  ·have hs := hs.fix 57 (.bool true) rfl (vb h35)
   refine st_skip hs rfl rfl rfl rfl rfl fun a hs => ?_
   refine st_skip hs rfl rfl rfl rfl rfl fun a hs => ?_
   refine st_skip hs rfl rfl rfl rfl rfl fun a hs => ?_
   refine st_skip hs rfl rfl rfl rfl rfl fun a hs => ?_
   refine st_val hs (y_pickT rfl rfl) trivial rfl rfl fun a hs => ?_
   refine wpList_nil ?_
   refine then_normal ?_
   exact ⟨rfl, (hs.fix 62 (.bool ((!rv29) || (decide (150 < (raw5.Taps.length : Int))))) rfl (or_t h35)).weaken _ ⟨rfl, rfl, rfl, rfl, rfl, rfl, rfl, trivial⟩⟩
  ·have hs := hs.fix 57 (.bool false) rfl (vb h35)
   refine st_val hs (y_fieldAddr (o' := 0) Try.runUnderlying28 rfl Try.sizeOf22 rfl rfl rfl) ⟨_, rfl, rfl⟩ rfl rfl fun a hs => ?_
   refine st_val hs (y_loadB1 (hw.ownAt 2 rfl) rfl Try.isAgg22 rfl) ⟨_, rfl, rfl⟩ rfl rfl fun a hs => ?_
   refine st_val hs (y_len Try.runUnderlying22 rfl) ⟨_, rfl, rfl⟩ rfl rfl fun a hs => ?_
   refine st_val hs (y_gtr rfl rfl) ⟨_, rfl, rfl⟩ rfl rfl fun a hs => ?_
   refine st_val hs (y_pickF rfl rfl) trivial rfl rfl fun a hs => ?_
   refine wpList_nil ?_
   refine then_normal ?_
   exact ⟨rfl, (hs.fix 62 (.bool ((!rv29) || (decide (150 < (raw5.Taps.length : Int))))) rfl (or_f h35)).weaken _ ⟨rfl, rfl, rfl, rfl, rfl, rfl, rfl, trivial⟩⟩
 ·rintro a w1 ⟨h10950, hs⟩
  subst h10950
  refine st_val hs (y_move rfl) trivial rfl rfl fun a hs => ?_
  refine wpl_join 4 (fun a w1 => w = w1 ∧ Sl 306 [(0, .slice p2 t1.length k3), (2, .slice p10 samples9.length k11), (3, .int .i64 number13), (7, .pointer (some ⟨b25, 0, none⟩)), (10, .pointer (some ⟨b26, 0, none⟩)), (11, .pointer (some ⟨b27, 0, none⟩)), (67, .bool (((!rv29) || (decide (150 < (raw5.Taps.length : Int)))) || (decide (80 < (samples9.length : Int)))))] a) ?_ ?_
  ·rcases Bool.eq_false_or_eq_true ((!rv29) || (decide (150 < (raw5.Taps.length : Int)))) with h36 | h36
   ·have hs := hs.fix 63 (.bool true) rfl (vb h36)
    refine st_skip hs rfl rfl rfl rfl rfl fun a hs => ?_
    refine st_skip hs rfl rfl rfl rfl rfl fun a hs => ?_
    refine st_skip hs rfl rfl rfl rfl rfl fun a hs => ?_
    refine st_val hs (y_pickT rfl rfl) trivial rfl rfl fun a hs => ?_
    refine wpList_nil ?_
    refine then_normal ?_
    exact ⟨rfl, (hs.fix 67 (.bool (((!rv29) || (decide (150 < (raw5.Taps.length : Int)))) || (decide (80 < (samples9.length : Int))))) rfl (or_t h36)).weaken _ ⟨rfl, rfl, rfl, rfl, rfl, rfl, rfl, trivial⟩⟩
   ·have hs := hs.fix 63 (.bool false) rfl (vb h36)
    refine st_val hs (y_move rfl) ⟨_, rfl, rfl⟩ rfl rfl fun a hs => ?_
    refine st_val hs (y_len Try.runUnderlying22 rfl) ⟨_, rfl, rfl⟩ rfl rfl fun a hs => ?_
    refine st_val hs (y_gtr rfl rfl) ⟨_, rfl, rfl⟩ rfl rfl fun a hs => ?_
    refine st_val hs (y_pickF rfl rfl) trivial rfl rfl fun a hs => ?_
    refine wpList_nil ?_
    refine then_normal ?_
    exact ⟨rfl, (hs.fix 67 (.bool (((!rv29) || (decide (150 < (raw5.Taps.length : Int)))) || (decide (80 < (samples9.length : Int))))) rfl (or_f h36)).weaken _ ⟨rfl, rfl, rfl, rfl, rfl, rfl, rfl, trivial⟩⟩
  ·rintro a w1 ⟨h10949, hs⟩
   subst h10949
   refine st_val hs (y_move rfl) trivial rfl rfl fun a hs => ?_
   refine wpl_join 5 (fun a w1 => w = w1 ∧ Sl 306 [(0, .slice p2 t1.length k3), (2, .slice p10 samples9.length k11), (3, .int .i64 number13), (7, .pointer (some ⟨b25, 0, none⟩)), (10, .pointer (some ⟨b26, 0, none⟩)), (11, .pointer (some ⟨b27, 0, none⟩)), (73, .bool ((((!rv29) || (decide (150 < (raw5.Taps.length : Int)))) || (decide (80 < (samples9.length : Int)))) || (decide (150 < (feed14.Past.length : Int)))))] a) ?_ ?_
   ·rcases Bool.eq_false_or_eq_true (((!rv29) || (decide (150 < (raw5.Taps.length : Int)))) || (decide (80 < (samples9.length : Int)))) with h37 | h37
    ·have hs := hs.fix 68 (.bool true) rfl (vb h37)
     refine st_skip hs rfl rfl rfl rfl rfl fun a hs => ?_
     refine st_skip hs rfl rfl rfl rfl rfl fun a hs => ?_
     refine st_skip hs rfl rfl rfl rfl rfl fun a hs => ?_
     refine st_skip hs rfl rfl rfl rfl rfl fun a hs => ?_
     refine st_val hs (y_pickT rfl rfl) trivial rfl rfl fun a hs => ?_
     refine wpList_nil ?_
     refine then_normal ?_
     exact ⟨rfl, (hs.fix 73 (.bool ((((!rv29) || (decide (150 < (raw5.Taps.length : Int)))) || (decide (80 < (samples9.length : Int)))) || (decide (150 < (feed14.Past.length : Int))))) rfl (or_t h37)).weaken _ ⟨rfl, rfl, rfl, rfl, rfl, rfl, rfl, trivial⟩⟩
    ·have hs := hs.fix 68 (.bool false) rfl (vb h37)
     refine st_val hs (y_fieldAddr (o' := 3) Try.runUnderlying51 rfl Try.sizeOf22 rfl rfl rfl) ⟨_, rfl, rfl⟩ rfl rfl fun a hs => ?_
     refine st_val hs (y_loadB1 (hw.ownAt 1 rfl) rfl Try.isAgg22 rfl) ⟨_, rfl, rfl⟩ rfl rfl fun a hs => ?_
     refine st_val hs (y_len Try.runUnderlying22 rfl) ⟨_, rfl, rfl⟩ rfl rfl fun a hs => ?_
     refine st_val hs (y_gtr rfl rfl) ⟨_, rfl, rfl⟩ rfl rfl fun a hs => ?_
     refine st_val hs (y_pickF rfl rfl) trivial rfl rfl fun a hs => ?_
     refine wpList_nil ?_
     refine then_normal ?_
     exact ⟨rfl, (hs.fix 73 (.bool ((((!rv29) || (decide (150 < (raw5.Taps.length : Int)))) || (decide (80 < (samples9.length : Int)))) || (decide (150 < (feed14.Past.length : Int))))) rfl (or_f h37)).weaken _ ⟨rfl, rfl, rfl, rfl, rfl, rfl, rfl, trivial⟩⟩
   ·rintro a w1 ⟨h10948, hs⟩
    subst h10948
    refine st_val hs (y_move rfl) trivial rfl rfl fun a hs => ?_
    refine wpl_join 6 (fun a w1 => w = w1 ∧ Sl 306 [(0, .slice p2 t1.length k3), (2, .slice p10 samples9.length k11), (3, .int .i64 number13), (7, .pointer (some ⟨b25, 0, none⟩)), (10, .pointer (some ⟨b26, 0, none⟩)), (11, .pointer (some ⟨b27, 0, none⟩)), (80, .bool (((((!rv29) || (decide (150 < (raw5.Taps.length : Int)))) || (decide (80 < (samples9.length : Int)))) || (decide (150 < (feed14.Past.length : Int)))) || (decide (150 < (feed14.Filter.Taps.length : Int)))))] a) ?_ ?_
    ·rcases Bool.eq_false_or_eq_true ((((!rv29) || (decide (150 < (raw5.Taps.length : Int)))) || (decide (80 < (samples9.length : Int)))) || (decide (150 < (feed14.Past.length : Int)))) with h38 | h38
     ·have hs := hs.fix 74 (.bool true) rfl (vb h38)
      refine st_skip hs rfl rfl rfl rfl rfl fun a hs => ?_
      refine st_skip hs rfl rfl rfl rfl rfl fun a hs => ?_
      refine st_skip hs rfl rfl rfl rfl rfl fun a hs => ?_
      refine st_skip hs rfl rfl rfl rfl rfl fun a hs => ?_
      refine st_skip hs rfl rfl rfl rfl rfl fun a hs => ?_
      refine st_val hs (y_pickT rfl rfl) trivial rfl rfl fun a hs => ?_
      refine wpList_nil ?_
      refine then_normal ?_
      exact ⟨rfl, (hs.fix 80 (.bool (((((!rv29) || (decide (150 < (raw5.Taps.length : Int)))) || (decide (80 < (samples9.length : Int)))) || (decide (150 < (feed14.Past.length : Int)))) || (decide (150 < (feed14.Filter.Taps.length : Int))))) rfl (or_t h38)).weaken _ ⟨rfl, rfl, rfl, rfl, rfl, rfl, rfl, trivial⟩⟩
     ·have hs := hs.fix 74 (.bool false) rfl (vb h38)
      refine st_val hs (y_fieldAddr (o' := 0) Try.runUnderlying51 rfl Try.sizeOf28 rfl rfl rfl) ⟨_, rfl, rfl⟩ rfl rfl fun a hs => ?_
      refine st_val hs (y_fieldAddr (o' := 0) Try.runUnderlying28 rfl Try.sizeOf22 rfl rfl rfl) ⟨_, rfl, rfl⟩ rfl rfl fun a hs => ?_
      refine st_val hs (y_loadB1 (hw.ownAt 1 rfl) rfl Try.isAgg22 rfl) ⟨_, rfl, rfl⟩ rfl rfl fun a hs => ?_
      refine st_val hs (y_len Try.runUnderlying22 rfl) ⟨_, rfl, rfl⟩ rfl rfl fun a hs => ?_
      refine st_val hs (y_gtr rfl rfl) ⟨_, rfl, rfl⟩ rfl rfl fun a hs => ?_
      refine st_val hs (y_pickF rfl rfl) trivial rfl rfl fun a hs => ?_
      refine wpList_nil ?_
      refine then_normal ?_
      exact ⟨rfl, (hs.fix 80 (.bool (((((!rv29) || (decide (150 < (raw5.Taps.length : Int)))) || (decide (80 < (samples9.length : Int)))) || (decide (150 < (feed14.Past.length : Int)))) || (decide (150 < (feed14.Filter.Taps.length : Int))))) rfl (or_f h38)).weaken _ ⟨rfl, rfl, rfl, rfl, rfl, rfl, rfl, trivial⟩⟩
    ·rintro a w1 ⟨h10947, hs⟩
     subst h10947
     refine st_val hs (y_move rfl) trivial rfl rfl fun a hs => ?_
     refine wpl_join 5 (fun a w1 => w = w1 ∧ Sl 306 [(0, .slice p2 t1.length k3), (2, .slice p10 samples9.length k11), (3, .int .i64 number13), (7, .pointer (some ⟨b25, 0, none⟩)), (10, .pointer (some ⟨b26, 0, none⟩)), (11, .pointer (some ⟨b27, 0, none⟩)), (86, .bool ((((((!rv29) || (decide (150 < (raw5.Taps.length : Int)))) || (decide (80 < (samples9.length : Int)))) || (decide (150 < (feed14.Past.length : Int)))) || (decide (150 < (feed14.Filter.Taps.length : Int)))) || (decide (150 < (stage21.Taps.length : Int)))))] a) ?_ ?_
     ·rcases Bool.eq_false_or_eq_true (((((!rv29) || (decide (150 < (raw5.Taps.length : Int)))) || (decide (80 < (samples9.length : Int)))) || (decide (150 < (feed14.Past.length : Int)))) || (decide (150 < (feed14.Filter.Taps.length : Int)))) with h39 | h39
      ·have hs := hs.fix 81 (.bool true) rfl (vb h39)
       refine st_skip hs rfl rfl rfl rfl rfl fun a hs => ?_
       refine st_skip hs rfl rfl rfl rfl rfl fun a hs => ?_
       refine st_skip hs rfl rfl rfl rfl rfl fun a hs => ?_
       refine st_skip hs rfl rfl rfl rfl rfl fun a hs => ?_
       refine st_val hs (y_pickT rfl rfl) trivial rfl rfl fun a hs => ?_
       refine wpList_nil ?_
       refine then_normal ?_
       exact ⟨rfl, (hs.fix 86 (.bool ((((((!rv29) || (decide (150 < (raw5.Taps.length : Int)))) || (decide (80 < (samples9.length : Int)))) || (decide (150 < (feed14.Past.length : Int)))) || (decide (150 < (feed14.Filter.Taps.length : Int)))) || (decide (150 < (stage21.Taps.length : Int))))) rfl (or_t h39)).weaken _ ⟨rfl, rfl, rfl, rfl, rfl, rfl, rfl, trivial⟩⟩
      ·have hs := hs.fix 81 (.bool false) rfl (vb h39)
       refine st_val hs (y_fieldAddr (o' := 7) Try.runUnderlying45 rfl Try.sizeOf22 rfl rfl rfl) ⟨_, rfl, rfl⟩ rfl rfl fun a hs => ?_
       refine st_val hs (y_loadB1 (hw.ownAt 0 rfl) rfl Try.isAgg22 rfl) ⟨_, rfl, rfl⟩ rfl rfl fun a hs => ?_
       refine st_val hs (y_len Try.runUnderlying22 rfl) ⟨_, rfl, rfl⟩ rfl rfl fun a hs => ?_
       refine st_val hs (y_gtr rfl rfl) ⟨_, rfl, rfl⟩ rfl rfl fun a hs => ?_
       refine st_val hs (y_pickF rfl rfl) trivial rfl rfl fun a hs => ?_
       refine wpList_nil ?_
       refine then_normal ?_
       exact ⟨rfl, (hs.fix 86 (.bool ((((((!rv29) || (decide (150 < (raw5.Taps.length : Int)))) || (decide (80 < (samples9.length : Int)))) || (decide (150 < (feed14.Past.length : Int)))) || (decide (150 < (feed14.Filter.Taps.length : Int)))) || (decide (150 < (stage21.Taps.length : Int))))) rfl (or_f h39)).weaken _ ⟨rfl, rfl, rfl, rfl, rfl, rfl, rfl, trivial⟩⟩
     ·rintro a w1 ⟨h10946, hs⟩
      subst h10946
      refine wpList_nil ?_
      refine then_normal ?_
      refine wp_cond_split (hs.ev rfl) (fun h48 => ?_) (fun h48 => ?_)
      ·have hsh := ite_t hsh h48
       refine wp_seq ?_
       refine wp_region_lit ?_
       obtain ⟨rv50, h49, hsh⟩ := bind_t hsh
       refine st_callR hs (law21_sane_ok h49 hw.bdom) (do_call Try.call11 rfl) trivial rfl rfl ?_
       intro v54 Sv51 w a h52 h53 hs
       subst h53
       have hw := hw.callB h52
       refine st_val hs (y_assign rfl) trivial rfl rfl fun a hs => ?_
       refine wpList_nil ?_
       refine then_normal ?_
       have hsh := Option.some.inj hsh
       subst hsh
       refine wp_ret ?_
       refine then_ret ?_
       exact ret1 hs rfl (rv_tmp rfl) (hw.ret rfl)
      ·have hsh := ite_f hsh h48
       refine wp_skip ?_
       refine then_normal ?_
       refine wp_seq ?_
       refine wp_region_lit ?_
       refine st_val hs (y_move rfl) trivial rfl rfl fun a hs => ?_
       obtain ⟨rv57, h56, hsh⟩ := bind_t hsh
       refine st_callR hs (made_Roll_ok h56 hw.dom (hw.envAt 5 rfl)) (do_call Try.call12 rfl) trivial rfl rfl ?_
       intro v65 Sv62 w a h63 h64 hs
       obtain ⟨b58, p59, k60, rfl, h66, h61⟩ := h64
       have hw := hw.callN h63 h66
       have hw := hw.addE (e := SlA p59 rv57.L.length k60 rv57.L) h61
       refine st_val hs (y_assign rfl) trivial rfl rfl fun a hs => ?_
       refine wpList_nil ?_
       refine then_normal ?_
       refine wp_seq ?_
       refine wp_region_lit ?_
       refine st_val hs (y_move rfl) trivial rfl rfl fun a hs => ?_
       obtain ⟨rv68, h67, hsh⟩ := bind_t hsh
       refine st_callR hs (made_Dice_Filter_ok h67 hw.dom (hw.ins [0] (by decide) rfl) (hw.envAt 0 rfl)) (do_call Try.call13 rfl) trivial rfl rfl ?_
       intro v79 Sv76 w a h77 h78 hs
       obtain ⟨p69, k70, c72, p73, k74, rfl, h80, h71, h75⟩ := h78
       have hw := hw.callO [0] [1, 2, 3] (by decide) rfl h77 h80
       have hw := hw.addE (e := RowA c72 rv68.1.Taps) h71
       have hw := hw.addE (e := SlA p73 rv68.2.L.length k74 rv68.2.L) h75
       refine st_val hs (y_move rfl) trivial rfl rfl fun a hs => ?_
       obtain ⟨rv82, h81, hsh⟩ := bind_t hsh
       refine st_callR hs (made_Dice_Filter_ok h81 hw.dom (hw.ins [1] (by decide) rfl) (hw.envAt 0 rfl)) (do_call Try.call13 rfl) trivial rfl rfl ?_
       intro v93 Sv90 w a h91 h92 hs
       obtain ⟨p83, k84, c86, p87, k88, rfl, h94, h85, h89⟩ := h92
       have hw := hw.callO [1] [0, 2, 3, 4] (by decide) rfl h91 h94
       have hw := hw.addE (e := RowA c86 rv82.1.Taps) h85
       have hw := hw.addE (e := SlA p87 rv82.2.L.length k88 rv82.2.L) h89
       refine w_alloc (cs := [.slice none ([] : List Int).length 0, .int .i64 0, .int .i64 0]) hs hw Try.zeroValue28 rfl rfl trivial ?_
       intro b95 a w hs hw
       refine w_alloc (cs := [.slice none ([] : List Int).length 0, .int .i64 0, .int .i64 0]) hs hw Try.zeroValue28 rfl rfl trivial ?_
       intro b96 a w hs hw
       refine w_store (m := 3) (cs' := [.slice p69 rv68.1.Taps.length k70, .int .i64 rv68.1.Factor, .int .i64 rv68.1.Shift]) hs hw 1 rfl rfl rfl Try.sizeOf28 rfl rfl rfl rfl trivial ?_
       intro a w hs hw
       refine w_store (m := 3) (cs' := [.slice p83 rv82.1.Taps.length k84, .int .i64 rv82.1.Factor, .int .i64 rv82.1.Shift]) hs hw 0 rfl rfl rfl Try.sizeOf28 rfl rfl rfl rfl trivial ?_
       intro a w hs hw
       refine wpList_nil ?_
       refine then_normal ?_
       refine wp_seq ?_
       refine wp_region_lit ?_
       refine st_val hs (y_move rfl) trivial rfl rfl fun a hs => ?_
       obtain ⟨rv98, h97, hsh⟩ := bind_t hsh
       refine st_callR hs (made_Dice_Samples_ok h97 hw.dom (hw.ins [3] (by decide) rfl) (hw.envAt 0 rfl)) (do_call Try.call16 rfl) trivial rfl rfl ?_
       intro v109 Sv106 w a h107 h108 hs
       obtain ⟨p99, k100, c102, p103, k104, rfl, h110, h101, h105⟩ := h108
       have hw := hw.callO [3] [0, 1, 2, 4, 5, 6, 7] (by decide) rfl h107 h110
       have hw := hw.addE (e := RowA c102 rv98.1) h101
       have hw := hw.addE (e := SlA p103 rv98.2.L.length k104 rv98.2.L) h105
       refine st_val hs (y_assign rfl) trivial rfl rfl fun a hs => ?_
       refine wpList_nil ?_
       refine then_normal ?_
       refine wp_seq ?_
       refine wp_seq ?_
       obtain ⟨rv112, h111, hsh⟩ := bind_t hsh
       refine wp_only (fun a w => ∃ (Sv122 : Nat → Prop) (b121 : Nat) (k114 : Nat) (k118 : Nat) (p113 : Option Addr) (p117 : Option Addr), Sl 306 [(2, .slice p10 samples9.length k11), (3, .int .i64 number13), (10, .pointer (some ⟨b26, 0, none⟩)), (11, .pointer (some ⟨b27, 0, none⟩)), (13, .pointer (some ⟨b58, 0, none⟩)), (14, .pointer (some ⟨b95, 0, none⟩)), (15, .pointer (some ⟨b96, 0, none⟩)), (16, .slice p99 rv98.1.length k100), (101, .slice (some ⟨b121, 0, none⟩) ([rv68.1, rv112.1, raw5] : List Filter).length ([rv68.1, rv112.1, raw5] : List Filter).length), (102, .int .i64 (([rv68.1, rv112.1, raw5] : List Filter).length : Int)), (103, .int .i64 0)] a ∧ Wd ⟨w0, S0, []⟩ Sv122 [.box b26 [.slice p15 feed14.Filter.Taps.length k16, .int .i64 feed14.Filter.Factor, .int .i64 feed14.Filter.Shift, .slice p17 feed14.Past.length k18, .int .i64 feed14.Number] 51, .box b27 [.int .i64 stage21.Kind, .int .i64 stage21.Num.e0, .int .i64 stage21.Num.e1, .int .i64 stage21.Num.e2, .int .i64 stage21.Den.e0, .int .i64 stage21.Den.e1, .int .i64 stage21.Den.e2, .slice p22 stage21.Taps.length k23, .int .i64 stage21.Factor, .int .i64 stage21.Shift] 45, .box b58 [.slice p117 rv112.2.L.length k118, .int .i64 rv112.2.At] 75, .box b95 [.slice p69 rv68.1.Taps.length k70, .int .i64 rv68.1.Factor, .int .i64 rv68.1.Shift] 28, .box b96 [.slice p83 rv82.1.Taps.length k84, .int .i64 rv82.1.Factor, .int .i64 rv82.1.Shift] 28, .row p83 rv82.1.Taps.length k84 c86 3 1, .row p99 rv98.1.length k100 c102 3 1, .row (some ⟨b121, 0, none⟩) ([rv68.1, rv112.1, raw5] : List Filter).length ([rv68.1, rv112.1, raw5] : List Filter).length [.slice p69 rv68.1.Taps.length k70, .int .i64 rv68.1.Factor, .int .i64 rv68.1.Shift, .slice p113 rv112.1.Taps.length k114, .int .i64 rv112.1.Factor, .int .i64 rv112.1.Shift, .slice p6 raw5.Taps.length k7, .int .i64 raw5.Factor, .int .i64 raw5.Shift] 28 3] [SlA p10 samples9.length k11 samples9, SlA p15 feed14.Filter.Taps.length k16 feed14.Filter.Taps, SlA p17 feed14.Past.length k18 feed14.Past, SlA p22 stage21.Taps.length k23 stage21.Taps, SlA p117 rv112.2.L.length k118 rv112.2.L, SlA p69 rv68.1.Taps.length k70 rv68.1.Taps, RowA c86 rv82.1.Taps, RowA c102 rv98.1, RowA [.slice p69 rv68.1.Taps.length k70, .int .i64 rv68.1.Factor, .int .i64 rv68.1.Shift, .slice p113 rv112.1.Taps.length k114, .int .i64 rv112.1.Factor, .int .i64 rv112.1.Shift, .slice p6 raw5.Taps.length k7, .int .i64 raw5.Factor, .int .i64 raw5.Shift] ([rv68.1, rv112.1, raw5] : List Filter)] w) ?_ ?_
       ·refine h_b (C := Cls [.row p99 rv98.1.length k100 c102 3 1, .box b96 [.slice p83 rv82.1.Taps.length k84, .int .i64 rv82.1.Factor, .int .i64 rv82.1.Shift] 28, .box b95 [.slice p69 rv68.1.Taps.length k70, .int .i64 rv68.1.Factor, .int .i64 rv68.1.Shift] 28, .row p83 rv82.1.Taps.length k84 c86 3 1, .box b27 [.int .i64 stage21.Kind, .int .i64 stage21.Num.e0, .int .i64 stage21.Num.e1, .int .i64 stage21.Num.e2, .int .i64 stage21.Den.e0, .int .i64 stage21.Den.e1, .int .i64 stage21.Den.e2, .slice p22 stage21.Taps.length k23, .int .i64 stage21.Factor, .int .i64 stage21.Shift] 45, .box b26 [.slice p15 feed14.Filter.Taps.length k16, .int .i64 feed14.Filter.Factor, .int .i64 feed14.Filter.Shift, .slice p17 feed14.Past.length k18, .int .i64 feed14.Number] 51, .box b25 [.slice p6 raw5.Taps.length k7, .int .i64 raw5.Factor, .int .i64 raw5.Shift] 28] []) (by kernel_rfl) rfl (hw.drew.cs [0, 2, 3, 4, 6, 7, 8] [] rfl rfl) fun hC => ?_
        have hw := hw.drew
        refine h_g hs 0 rfl (by kernel_rfl) rfl rfl hC rfl (fun w hC => y_loadBA (hC.ownAt 2 rfl) rfl Try.isAgg28 Try.sizeOf28 rfl rfl) fun a hs => ?_
        refine h_g hs 1 rfl (by kernel_rfl) rfl rfl hC rfl (fun w hC => y_move rfl) fun a hs => ?_
        refine h_g hs 2 rfl (by kernel_rfl) rfl rfl hC rfl (fun w hC => y_loadBA (hC.ownAt 2 rfl) rfl Try.isAgg28 Try.sizeOf28 rfl rfl) fun a hs => ?_
        refine h_g hs 4 rfl (by kernel_rfl) rfl rfl hC rfl (fun w hC => y_loadBA (hC.ownAt 6 rfl) rfl Try.isAgg28 Try.sizeOf28 rfl rfl) fun a hs => ?_
        refine h_g hs 7 rfl (by kernel_rfl) rfl rfl hC rfl (fun w hC => y_move rfl) fun a hs => ?_
        refine h_one (i := 3) (by kernel_rfl) rfl ?_
        obtain ⟨Sv123, hw⟩ := w_share (α := Int) hw 5 rfl 5 rfl
        refine st_callR hs (law21_odd_ok h111 hw.dom (hw.ins [1] (by decide) rfl) (hw.envAt 1 rfl) (hw.envAt 0 rfl)) (do_call Try.call31 rfl) trivial rfl rfl ?_
        intro v127 Sv124 w a h125 h126 hs
        obtain ⟨p113, k114, c116, p117, k118, rfl, h128, h115, h119⟩ := h126
        have hw := hw.callO [1] [0, 2, 3, 4, 5, 6, 7] (by decide) rfl h125 h128
        have hw := hw.addE (e := RowA c116 rv112.1.Taps) h115
        have hw := hw.addE (e := SlA p117 rv112.2.L.length k118 rv112.2.L) h119
        refine h_nx (hw.cs [2, 3, 4, 5, 6, 7, 8] [] rfl rfl) fun hC => ?_
        refine h_one (i := 5) (by kernel_rfl) rfl ?_
        obtain ⟨Sv129, hw⟩ := w_share (α := Int) hw 0 rfl 1 rfl
        refine w_litSlice (α := Filter) (vs := [.agg #[.slice p69 rv68.1.Taps.length k70, .int .i64 rv68.1.Factor, .int .i64 rv68.1.Shift], .agg #[.slice p113 rv112.1.Taps.length k114, .int .i64 rv112.1.Factor, .int .i64 rv112.1.Shift], .agg #[.slice p6 raw5.Taps.length k7, .int .i64 raw5.Factor, .int .i64 raw5.Shift]]) (cs := [.slice p69 rv68.1.Taps.length k70, .int .i64 rv68.1.Factor, .int .i64 rv68.1.Shift, .slice p113 rv112.1.Taps.length k114, .int .i64 rv112.1.Factor, .int .i64 rv112.1.Shift, .slice p6 raw5.Taps.length k7, .int .i64 raw5.Factor, .int .i64 raw5.Shift]) (xs := ([rv68.1, rv112.1, raw5] : List Filter)) hs hw El68 rfl rfl rfl rfl rfl rfl ⟨⟨_, _, _, rfl, ⟨_, _, _, rfl, hw.envAt 3 rfl⟩, rfl, rfl⟩, ⟨⟨_, _, _, rfl, ⟨_, _, _, rfl, hw.envAt 0 rfl⟩, rfl, rfl⟩, ⟨⟨_, _, _, rfl, ⟨_, _, _, rfl, hw.envAt 15 rfl⟩, rfl, rfl⟩, rfl⟩⟩⟩ rfl trivial rfl fun b121 a w hs hw => ?_
        refine h_nx (hw.cs [2, 3, 4, 5, 6, 7, 8] [] rfl rfl) fun hC => ?_
        refine h_st (C' := Cls [.row p99 rv98.1.length k100 c102 3 1, .box b96 [.slice p83 rv82.1.Taps.length k84, .int .i64 rv82.1.Factor, .int .i64 rv82.1.Shift] 28, .box b95 [.slice p69 rv68.1.Taps.length k70, .int .i64 rv68.1.Factor, .int .i64 rv68.1.Shift] 28, .row p83 rv82.1.Taps.length k84 c86 3 1, .box b27 [.int .i64 stage21.Kind, .int .i64 stage21.Num.e0, .int .i64 stage21.Num.e1, .int .i64 stage21.Num.e2, .int .i64 stage21.Den.e0, .int .i64 stage21.Den.e1, .int .i64 stage21.Den.e2, .slice p22 stage21.Taps.length k23, .int .i64 stage21.Factor, .int .i64 stage21.Shift] 45, .box b26 [.slice p15 feed14.Filter.Taps.length k16, .int .i64 feed14.Filter.Factor, .int .i64 feed14.Filter.Shift, .slice p17 feed14.Past.length k18, .int .i64 feed14.Number] 51, .box b25 [.slice p6 raw5.Taps.length k7, .int .i64 raw5.Factor, .int .i64 raw5.Shift] 28, .row (some ⟨b121, 0, none⟩) ([rv68.1, rv112.1, raw5] : List Filter).length ([rv68.1, rv112.1, raw5] : List Filter).length [.slice p69 rv68.1.Taps.length k70, .int .i64 rv68.1.Factor, .int .i64 rv68.1.Shift, .slice p113 rv112.1.Taps.length k114, .int .i64 rv112.1.Factor, .int .i64 rv112.1.Shift, .slice p6 raw5.Taps.length k7, .int .i64 raw5.Factor, .int .i64 raw5.Shift] 28 3] []) (fun _ h => by exact h.sub [0, 1, 2, 3, 4, 5, 6] (Sel.of rfl) (AllIn.of [] rfl)) (hw.cs [2, 3, 4, 5, 6, 7, 8, 0] [] rfl rfl) fun hC => ?_
        refine h_g hs 6 rfl (by kernel_rfl) rfl rfl hC rfl (fun w hC => y_len Try.runUnderlying68 rfl) fun a hs => ?_
        refine h_done (by kernel_rfl) ?_
        exact ⟨Sv129, b121, k114, k118, p113, p117, (hs.wk rfl), (hw.ft [7, 6, 1, 4, 3, 5, 2, 0] [15, 14, 13, 12, 2, 4, 8, 6, 0] (by decide) rfl rfl)⟩
       ·rintro a w ⟨Sv122, b121, k114, k118, p113, p117, hs, hw⟩
        refine then_normal ?_
        refine wp_block ?_
        obtain ⟨Sv4956, hw⟩ := w_share (α := Int) hw 5 rfl 6 rfl
        obtain ⟨Sv4957, hw⟩ := w_share (α := Int) hw 5 rfl 8 rfl
        refine wp_while (fun sv2544 a w => ∃ (p4151 : Option Addr) (k4152 : Nat) (Sv4153 : Nat → Prop), Sl 306 [(2, .slice p10 samples9.length k11), (3, .int .i64 number13), (10, .pointer (some ⟨b26, 0, none⟩)), (11, .pointer (some ⟨b27, 0, none⟩)), (13, .pointer (some ⟨b58, 0, none⟩)), (14, .pointer (some ⟨b95, 0, none⟩)), (15, .pointer (some ⟨b96, 0, none⟩)), (16, .slice p99 rv98.1.length k100), (101, .slice (some ⟨b121, 0, none⟩) ([rv68.1, rv112.1, raw5] : List Filter).length ([rv68.1, rv112.1, raw5] : List Filter).length), (102, .int .i64 (([rv68.1, rv112.1, raw5] : List Filter).length : Int)), (103, .int .i64 sv2544.2.2)] a ∧ Wd ⟨w0, S0, []⟩ Sv4153 [.box b26 [.slice p15 feed14.Filter.Taps.length k16, .int .i64 feed14.Filter.Factor, .int .i64 feed14.Filter.Shift, .slice p17 feed14.Past.length k18, .int .i64 feed14.Number] 51, .box b27 [.int .i64 stage21.Kind, .int .i64 stage21.Num.e0, .int .i64 stage21.Num.e1, .int .i64 stage21.Num.e2, .int .i64 stage21.Den.e0, .int .i64 stage21.Den.e1, .int .i64 stage21.Den.e2, .slice p22 stage21.Taps.length k23, .int .i64 stage21.Factor, .int .i64 stage21.Shift] 45, .box b58 [.slice p4151 sv2544.1.length k4152, .int .i64 sv2544.2.1] 75, .box b95 [.slice p69 rv68.1.Taps.length k70, .int .i64 rv68.1.Factor, .int .i64 rv68.1.Shift] 28, .box b96 [.slice p83 rv82.1.Taps.length k84, .int .i64 rv82.1.Factor, .int .i64 rv82.1.Shift] 28, .row (some ⟨b121, 0, none⟩) ([rv68.1, rv112.1, raw5] : List Filter).length ([rv68.1, rv112.1, raw5] : List Filter).length [.slice p69 rv68.1.Taps.length k70, .int .i64 rv68.1.Factor, .int .i64 rv68.1.Shift, .slice p113 rv112.1.Taps.length k114, .int .i64 rv112.1.Factor, .int .i64 rv112.1.Shift, .slice p6 raw5.Taps.length k7, .int .i64 raw5.Factor, .int .i64 raw5.Shift] 28 3] [SlA p10 samples9.length k11 samples9, SlA p99 rv98.1.length k100 rv98.1, SlA p15 feed14.Filter.Taps.length k16 feed14.Filter.Taps, SlA p17 feed14.Past.length k18 feed14.Past, SlA p22 stage21.Taps.length k23 stage21.Taps, SlA p4151 sv2544.1.length k4152 sv2544.1, SlA p69 rv68.1.Taps.length k70 rv68.1.Taps, SlA p83 rv82.1.Taps.length k84 rv82.1.Taps, RowA [.slice p69 rv68.1.Taps.length k70, .int .i64 rv68.1.Factor, .int .i64 rv68.1.Shift, .slice p113 rv112.1.Taps.length k114, .int .i64 rv112.1.Factor, .int .i64 rv112.1.Shift, .slice p6 raw5.Taps.length k7, .int .i64 raw5.Factor, .int .i64 raw5.Shift] ([rv68.1, rv112.1, raw5] : List Filter)] w) (rv112.2.L, rv112.2.At, 0) hsh ⟨p117, k118, Sv4957, (hs.wk rfl), (hw.ft [0, 1, 2, 3, 4, 5] [2, 0, 3, 4, 5, 6, 7, 1, 10] (by decide) rfl rfl)⟩ ?_
        repeat clear hsh
        rintro sv2544 a w tv4955 ⟨p4151, k4152, Sv4153, hs, hw⟩ hsh hd4954
        delta law21_FilterExact_l22 at hsh
        refine wp_seq ?_
        refine wp_region_lit ?_
        refine st_val hs (y_lss rfl rfl) trivial rfl rfl fun a hs => ?_
        refine wpList_nil ?_
        refine then_normal ?_
        refine wp_seq ?_
        refine wp_cond_split (hs.ev rfl) (fun h4961 => ?_) (fun h4961 => ?_)
        ·have hsh := ite_t hsh h4961
         refine wp_skip ?_
         refine then_normal ?_
         refine wp_seq ?_
         refine wp_block ?_
         refine wp_seq ?_
         refine wp_region_lit ?_
         obtain ⟨x5763, h5761, hsh⟩ := bind_t hsh
         obtain ⟨q5767, c5768, h5764, h5765, h5769, h5762⟩ := hw.elemRK (α := Filter) 5 rfl 8 rfl h5761
         obtain ⟨_, _, _, rfl, ⟨p5770, n5771, k5772, rfl, h5773⟩, rfl, rfl⟩ := h5762
         obtain rfl := h5773.1
         have hw := hw.addE (e := SlA p5770 _ k5772 x5763.Taps) h5773
         refine st_val hs (y_indexAt Try.runUnderlying68 Try.sizeOf28 rfl rfl h5764.1 h5764.2 h5765) trivial rfl rfl fun a hs => ?_
         refine st_val hs (y_loadQA (j := 0) (hw.ownAt 5 rfl) rfl Try.isAgg28 Try.sizeOf28 h5769 rfl rfl) trivial rfl rfl fun a hs => ?_
         refine w_alloc (cs := [.slice none ([] : List Int).length 0, .int .i64 0, .int .i64 0]) hs hw Try.zeroValue28 rfl rfl trivial ?_
         intro b5774 a w hs hw
         refine w_store (m := 3) (cs' := [.slice p5770 x5763.Taps.length k5772, .int .i64 x5763.Factor, .int .i64 x5763.Shift]) hs hw 0 rfl rfl rfl Try.sizeOf28 rfl rfl rfl rfl trivial ?_
         intro a w hs hw
         refine wpList_nil ?_
         refine then_normal ?_
         refine wp_seq ?_
         refine wp_seq ?_
         obtain ⟨rv5776, h5775, hsh⟩ := bind_t hsh
         obtain ⟨rv5778, h5777, hsh⟩ := bind_t hsh
         refine wp_only (fun a w => ∃ (Sv5779 : Nat → Prop), Sl 306 [(2, .slice p10 samples9.length k11), (3, .int .i64 number13), (10, .pointer (some ⟨b26, 0, none⟩)), (11, .pointer (some ⟨b27, 0, none⟩)), (13, .pointer (some ⟨b58, 0, none⟩)), (14, .pointer (some ⟨b95, 0, none⟩)), (15, .pointer (some ⟨b96, 0, none⟩)), (16, .slice p99 rv98.1.length k100), (18, .pointer (some ⟨b5774, 0, none⟩)), (101, .slice (some ⟨b121, 0, none⟩) ([rv68.1, rv112.1, raw5] : List Filter).length ([rv68.1, rv112.1, raw5] : List Filter).length), (102, .int .i64 (([rv68.1, rv112.1, raw5] : List Filter).length : Int)), (103, .int .i64 sv2544.2.2), (111, .bool (!(rv5776 == rv5778)))] a ∧ Wd ⟨w0, S0, []⟩ Sv5779 [.box b26 [.slice p15 feed14.Filter.Taps.length k16, .int .i64 feed14.Filter.Factor, .int .i64 feed14.Filter.Shift, .slice p17 feed14.Past.length k18, .int .i64 feed14.Number] 51, .box b27 [.int .i64 stage21.Kind, .int .i64 stage21.Num.e0, .int .i64 stage21.Num.e1, .int .i64 stage21.Num.e2, .int .i64 stage21.Den.e0, .int .i64 stage21.Den.e1, .int .i64 stage21.Den.e2, .slice p22 stage21.Taps.length k23, .int .i64 stage21.Factor, .int .i64 stage21.Shift] 45, .box b58 [.slice p4151 sv2544.1.length k4152, .int .i64 sv2544.2.1] 75, .box b95 [.slice p69 rv68.1.Taps.length k70, .int .i64 rv68.1.Factor, .int .i64 rv68.1.Shift] 28, .box b96 [.slice p83 rv82.1.Taps.length k84, .int .i64 rv82.1.Factor, .int .i64 rv82.1.Shift] 28, .box b5774 [.slice p5770 x5763.Taps.length k5772, .int .i64 x5763.Factor, .int .i64 x5763.Shift] 28, .row (some ⟨b121, 0, none⟩) ([rv68.1, rv112.1, raw5] : List Filter).length ([rv68.1, rv112.1, raw5] : List Filter).length [.slice p69 rv68.1.Taps.length k70, .int .i64 rv68.1.Factor, .int .i64 rv68.1.Shift, .slice p113 rv112.1.Taps.length k114, .int .i64 rv112.1.Factor, .int .i64 rv112.1.Shift, .slice p6 raw5.Taps.length k7, .int .i64 raw5.Factor, .int .i64 raw5.Shift] 28 3] [SlA p10 samples9.length k11 samples9, SlA p99 rv98.1.length k100 rv98.1, SlA p15 feed14.Filter.Taps.length k16 feed14.Filter.Taps, SlA p17 feed14.Past.length k18 feed14.Past, SlA p22 stage21.Taps.length k23 stage21.Taps, SlA p4151 sv2544.1.length k4152 sv2544.1, SlA p69 rv68.1.Taps.length k70 rv68.1.Taps, SlA p83 rv82.1.Taps.length k84 rv82.1.Taps, SlA p5770 x5763.Taps.length k5772 x5763.Taps, RowA [.slice p69 rv68.1.Taps.length k70, .int .i64 rv68.1.Factor, .int .i64 rv68.1.Shift, .slice p113 rv112.1.Taps.length k114, .int .i64 rv112.1.Factor, .int .i64 rv112.1.Shift, .slice p6 raw5.Taps.length k7, .int .i64 raw5.Factor, .int .i64 raw5.Shift] ([rv68.1, rv112.1, raw5] : List Filter)] w) ?_ ?_
         ·refine h_b (C := Cls [.box b5774 [.slice p5770 x5763.Taps.length k5772, .int .i64 x5763.Factor, .int .i64 x5763.Shift] 28, .box b26 [.slice p15 feed14.Filter.Taps.length k16, .int .i64 feed14.Filter.Factor, .int .i64 feed14.Filter.Shift, .slice p17 feed14.Past.length k18, .int .i64 feed14.Number] 51, .box b27 [.int .i64 stage21.Kind, .int .i64 stage21.Num.e0, .int .i64 stage21.Num.e1, .int .i64 stage21.Num.e2, .int .i64 stage21.Den.e0, .int .i64 stage21.Den.e1, .int .i64 stage21.Den.e2, .slice p22 stage21.Taps.length k23, .int .i64 stage21.Factor, .int .i64 stage21.Shift] 45, .box b58 [.slice p4151 sv2544.1.length k4152, .int .i64 sv2544.2.1] 75, .box b95 [.slice p69 rv68.1.Taps.length k70, .int .i64 rv68.1.Factor, .int .i64 rv68.1.Shift] 28, .box b96 [.slice p83 rv82.1.Taps.length k84, .int .i64 rv82.1.Factor, .int .i64 rv82.1.Shift] 28, .row (some ⟨b121, 0, none⟩) ([rv68.1, rv112.1, raw5] : List Filter).length ([rv68.1, rv112.1, raw5] : List Filter).length [.slice p69 rv68.1.Taps.length k70, .int .i64 rv68.1.Factor, .int .i64 rv68.1.Shift, .slice p113 rv112.1.Taps.length k114, .int .i64 rv112.1.Factor, .int .i64 rv112.1.Shift, .slice p6 raw5.Taps.length k7, .int .i64 raw5.Factor, .int .i64 raw5.Shift] 28 3] []) (by kernel_rfl) rfl (hw.drew.cs [0, 1, 2, 3, 4, 5, 6] [] rfl rfl) fun hC => ?_
          have hw := hw.drew
          refine h_g hs 0 rfl (by kernel_rfl) rfl rfl hC rfl (fun w hC => y_loadBA (hC.ownAt 0 rfl) rfl Try.isAgg28 Try.sizeOf28 rfl rfl) fun a hs => ?_
          refine h_g hs 2 rfl (by kernel_rfl) rfl rfl hC rfl (fun w hC => y_loadBA (hC.ownAt 0 rfl) rfl Try.isAgg28 Try.sizeOf28 rfl rfl) fun a hs => ?_
          refine h_one (i := 1) (by kernel_rfl) rfl ?_
          refine st_callR hs (filter_Valid_ok h5775 hw.bdom (hw.bE 0 rfl)) (do_call Try.call32 rfl) trivial rfl rfl ?_
          intro v5783 Sv5780 w a h5781 h5782 hs
          subst h5782
          have hw := hw.callB h5781
          refine h_nx (hw.cs [0, 1, 2, 3, 4, 5, 6] [] rfl rfl) fun hC => ?_
          refine h_one (i := 3) (by kernel_rfl) rfl ?_
          refine st_callR hs (ref21_Valid_ok h5777 hw.bdom (hw.bE 0 rfl)) (do_call Try.call20 rfl) trivial rfl rfl ?_
          intro v5788 Sv5785 w a h5786 h5787 hs
          subst h5787
          have hw := hw.callB h5786
          refine h_nx (hw.cs [0, 1, 2, 3, 4, 5, 6] [] rfl rfl) fun hC => ?_
          refine h_g hs 4 rfl (by kernel_rfl) rfl rfl hC rfl (fun w hC => y_neqB Try.runUnderlying4 rfl rfl) fun a hs => ?_
          refine h_done (by kernel_rfl) ?_
          exact ⟨Sv4153, (hs.wk rfl), (hw.ft [1, 2, 3, 4, 5, 0, 6] [1, 2, 3, 4, 5, 6, 7, 8, 0, 9] (by decide) rfl rfl)⟩
         ·rintro a w ⟨Sv5779, hs, hw⟩
          refine then_normal ?_
          refine wp_cond_split (hs.ev rfl) (fun h5791 => ?_) (fun h5791 => ?_)
          ·have hsh := ite_t hsh h5791
           refine wp_seq ?_
           refine wp_region_lit ?_
           refine st_val hs (y_assign rfl) trivial rfl rfl fun a hs => ?_
           refine wpList_nil ?_
           refine then_normal ?_
           have hsh := Option.some.inj hsh
           subst hsh
           have h5792 := hd4954 _ rfl
           subst h5792
           refine wp_ret ?_
           refine then_ret ?_
           refine blk_ret ?_
           refine then_ret ?_
           refine then_ret ?_
           refine blk_ret ?_
           refine then_ret ?_
           exact ret1 hs rfl (rv_tmp rfl) (hw.ret rfl)
          ·have hsh := ite_f hsh h5791
           refine wp_skip ?_
           refine then_normal ?_
           refine wp_seq ?_
           refine wp_seq ?_
           refine wp_region_lit ?_
           refine st_val hs (y_move rfl) trivial rfl rfl fun a hs => ?_
           refine st_val hs (y_move rfl) trivial rfl rfl fun a hs => ?_
           obtain ⟨rv5794, h5793, hsh⟩ := bind_t hsh
           refine st_callR hs (made_Dice_Next_ok h5793 hw.dom (hw.ins [2] (by decide) rfl) (hw.envAt 5 rfl)) (do_call Try.call15 rfl) trivial rfl rfl ?_
           intro v5801 Sv5798 w a h5799 h5800 hs
           obtain ⟨p5795, k5796, rfl, h5802, h5797⟩ := h5800
           have hw := hw.callO [2] [0, 1, 3, 4, 5, 6] (by decide) rfl h5799 h5802
           have hw := hw.addE (e := SlA p5795 rv5794.2.L.length k5796 rv5794.2.L) h5797
           refine w_litSlice (α := Int) (vs := [.int .i64 number13, .int .i64 rv5794.1, .int .i64 9007199254740992, .int .i64 9007199254740993, .int .i64 (-1)]) (cs := [.int .i64 number13, .int .i64 rv5794.1, .int .i64 9007199254740992, .int .i64 9007199254740993, .int .i64 (-1)]) (xs := ([number13, rv5794.1, 9007199254740992, 9007199254740993, (-1)] : List Int)) hs hw El22 rfl rfl rfl rfl rfl rfl ⟨⟨_, rfl, rfl⟩, ⟨⟨_, rfl, rfl⟩, ⟨⟨_, rfl, rfl⟩, ⟨⟨_, rfl, rfl⟩, ⟨⟨_, rfl, rfl⟩, rfl⟩⟩⟩⟩⟩ rfl trivial rfl fun b5804 a w hs hw => ?_
           refine st_val hs (y_len Try.runUnderlying22 rfl) trivial rfl rfl fun a hs => ?_
           refine st_val hs (y_move rfl) trivial rfl rfl fun a hs => ?_
           refine wpList_nil ?_
           refine then_normal ?_
           refine wp_block ?_
           refine wp_while (fun sv6530 a w => ∃ (Sv7012 : Nat → Prop), Sl 306 [(2, .slice p10 samples9.length k11), (3, .int .i64 number13), (10, .pointer (some ⟨b26, 0, none⟩)), (11, .pointer (some ⟨b27, 0, none⟩)), (13, .pointer (some ⟨b58, 0, none⟩)), (14, .pointer (some ⟨b95, 0, none⟩)), (15, .pointer (some ⟨b96, 0, none⟩)), (16, .slice p99 rv98.1.length k100), (18, .pointer (some ⟨b5774, 0, none⟩)), (101, .slice (some ⟨b121, 0, none⟩) ([rv68.1, rv112.1, raw5] : List Filter).length ([rv68.1, rv112.1, raw5] : List Filter).length), (102, .int .i64 (([rv68.1, rv112.1, raw5] : List Filter).length : Int)), (103, .int .i64 sv2544.2.2), (115, .slice (some ⟨b5804, 0, none⟩) ([number13, rv5794.1, 9007199254740992, 9007199254740993, (-1)] : List Int).length ([number13, rv5794.1, 9007199254740992, 9007199254740993, (-1)] : List Int).length), (116, .int .i64 (([number13, rv5794.1, 9007199254740992, 9007199254740993, (-1)] : List Int).length : Int)), (117, .int .i64 sv6530)] a ∧ Wd ⟨w0, S0, []⟩ Sv7012 [.box b26 [.slice p15 feed14.Filter.Taps.length k16, .int .i64 feed14.Filter.Factor, .int .i64 feed14.Filter.Shift, .slice p17 feed14.Past.length k18, .int .i64 feed14.Number] 51, .box b27 [.int .i64 stage21.Kind, .int .i64 stage21.Num.e0, .int .i64 stage21.Num.e1, .int .i64 stage21.Num.e2, .int .i64 stage21.Den.e0, .int .i64 stage21.Den.e1, .int .i64 stage21.Den.e2, .slice p22 stage21.Taps.length k23, .int .i64 stage21.Factor, .int .i64 stage21.Shift] 45, .box b58 [.slice p5795 rv5794.2.L.length k5796, .int .i64 rv5794.2.At] 75, .box b95 [.slice p69 rv68.1.Taps.length k70, .int .i64 rv68.1.Factor, .int .i64 rv68.1.Shift] 28, .box b96 [.slice p83 rv82.1.Taps.length k84, .int .i64 rv82.1.Factor, .int .i64 rv82.1.Shift] 28, .box b5774 [.slice p5770 x5763.Taps.length k5772, .int .i64 x5763.Factor, .int .i64 x5763.Shift] 28, .row (some ⟨b121, 0, none⟩) ([rv68.1, rv112.1, raw5] : List Filter).length ([rv68.1, rv112.1, raw5] : List Filter).length [.slice p69 rv68.1.Taps.length k70, .int .i64 rv68.1.Factor, .int .i64 rv68.1.Shift, .slice p113 rv112.1.Taps.length k114, .int .i64 rv112.1.Factor, .int .i64 rv112.1.Shift, .slice p6 raw5.Taps.length k7, .int .i64 raw5.Factor, .int .i64 raw5.Shift] 28 3, .row (some ⟨b5804, 0, none⟩) ([number13, rv5794.1, 9007199254740992, 9007199254740993, (-1)] : List Int).length ([number13, rv5794.1, 9007199254740992, 9007199254740993, (-1)] : List Int).length [.int .i64 number13, .int .i64 rv5794.1, .int .i64 9007199254740992, .int .i64 9007199254740993, .int .i64 (-1)] 3 1] [SlA p10 samples9.length k11 samples9, SlA p99 rv98.1.length k100 rv98.1, SlA p15 feed14.Filter.Taps.length k16 feed14.Filter.Taps, SlA p17 feed14.Past.length k18 feed14.Past, SlA p22 stage21.Taps.length k23 stage21.Taps, SlA p5795 rv5794.2.L.length k5796 rv5794.2.L, SlA p69 rv68.1.Taps.length k70 rv68.1.Taps, SlA p83 rv82.1.Taps.length k84 rv82.1.Taps, SlA p5770 x5763.Taps.length k5772 x5763.Taps, RowA [.slice p69 rv68.1.Taps.length k70, .int .i64 rv68.1.Factor, .int .i64 rv68.1.Shift, .slice p113 rv112.1.Taps.length k114, .int .i64 rv112.1.Factor, .int .i64 rv112.1.Shift, .slice p6 raw5.Taps.length k7, .int .i64 raw5.Factor, .int .i64 raw5.Shift] ([rv68.1, rv112.1, raw5] : List Filter), RowA [.int .i64 number13, .int .i64 rv5794.1, .int .i64 9007199254740992, .int .i64 9007199254740993, .int .i64 (-1)] ([number13, rv5794.1, 9007199254740992, 9007199254740993, (-1)] : List Int)] w) 0 hsh ⟨Sv5798, (hs.wk rfl), (hw.ft [2, 3, 1, 4, 5, 6, 7, 0] [2, 3, 4, 5, 6, 1, 8, 9, 10, 11, 0] (by decide) rfl rfl)⟩ ?_
           repeat clear hsh
           rintro sv6530 a w tv7254 ⟨Sv7012, hs, hw⟩ hsh hd7253
           delta law21_FilterExact_l37 at hsh
           refine wp_seq ?_
           refine wp_region_lit ?_
           refine st_val hs (y_lss rfl rfl) trivial rfl rfl fun a hs => ?_
           refine wpList_nil ?_
           refine then_normal ?_
           refine wp_seq ?_
           refine wp_cond_split (hs.ev rfl) (fun h7258 => ?_) (fun h7258 => ?_)
           ·have hsh := ite_t hsh h7258
            refine wp_skip ?_
            refine then_normal ?_
            refine wp_seq ?_
            refine wp_block ?_
            refine wp_seq ?_
            refine wp_region_lit ?_
            obtain ⟨x7500, h7498, hsh⟩ := bind_t hsh
            obtain ⟨q7504, c7505, h7501, h7502, h7506, h7499⟩ := hw.elemRK (α := Int) 7 rfl 10 rfl h7498
            obtain ⟨_, rfl, rfl⟩ := h7499
            refine st_val hs (y_indexAt Try.runUnderlying22 Try.sizeOf3 rfl rfl h7501.1 h7501.2 h7502) trivial rfl rfl fun a hs => ?_
            refine st_val hs (y_loadQ1 (j := 0) (hw.ownAt 7 rfl) rfl Try.isAgg3 h7506 rfl) trivial rfl rfl fun a hs => ?_
            refine st_val hs (y_assign rfl) trivial rfl rfl fun a hs => ?_
            refine wpList_nil ?_
            refine then_normal ?_
            refine wp_seq ?_
            refine wp_seq ?_
            refine wp_region_lit ?_
            refine st_val hs (y_move rfl) trivial rfl rfl fun a hs => ?_
            refine st_val hs (y_move rfl) trivial rfl rfl fun a hs => ?_
            refine st_val hs (y_move rfl) trivial rfl rfl fun a hs => ?_
            obtain ⟨l7508, h7507, hsh⟩ := bind_t hsh
            have hw := hw.nilRow Int 3
            refine w_appendE (α := Int) hs hw El22 0 rfl rfl rfl 0 rfl 2 rfl h7507 rfl trivial ?_
            intro p7509 k7510 c7511 a w hs hw
            refine w_litSlice (α := Int) (vs := [.int .i64 1073741824]) (cs := [.int .i64 1073741824]) (xs := ([1073741824] : List Int)) hs hw El22 rfl rfl rfl rfl rfl rfl ⟨⟨_, rfl, rfl⟩, rfl⟩ rfl trivial rfl fun b7513 a w hs hw => ?_
            obtain ⟨l7515, h7514, hsh⟩ := bind_t hsh
            refine w_appendR (α := Int) hs hw El22 1 rfl rfl rfl 1 rfl 0 rfl 0 rfl h7514 rfl trivial ?_
            intro p7516 k7517 c7518 a w hs hw
            obtain ⟨Sv7521, hw⟩ := w_share (α := Int) hw 1 rfl 0 rfl
            refine w_litSlice (α := (List Int)) (vs := [.slice p99 rv98.1.length k100, .slice p10 samples9.length k11, .slice p7516 l7515.length k7517]) (cs := [.slice p99 rv98.1.length k100, .slice p10 samples9.length k11, .slice p7516 l7515.length k7517]) (xs := ([rv98.1, samples9, l7515] : List (List Int))) hs hw El69 rfl rfl rfl rfl rfl rfl ⟨⟨_, rfl, ⟨_, _, _, rfl, hw.envAt 6 rfl⟩⟩, ⟨⟨_, rfl, ⟨_, _, _, rfl, hw.envAt 5 rfl⟩⟩, ⟨⟨_, rfl, ⟨_, _, _, rfl, hw.envAt 0 rfl⟩⟩, rfl⟩⟩⟩ rfl trivial rfl fun b7520 a w hs hw => ?_
            refine st_val hs (y_len Try.runUnderlying69 rfl) trivial rfl rfl fun a hs => ?_
            refine st_val hs (y_move rfl) trivial rfl rfl fun a hs => ?_
            refine wpList_nil ?_
            refine then_normal ?_
            refine wp_block ?_
            refine wp_while (fun sv7689 a w => ∃ (Sv7799 : Nat → Prop), Sl 306 [(2, .slice p10 samples9.length k11), (3, .int .i64 number13), (10, .pointer (some ⟨b26, 0, none⟩)), (11, .pointer (some ⟨b27, 0, none⟩)), (13, .pointer (some ⟨b58, 0, none⟩)), (14, .pointer (some ⟨b95, 0, none⟩)), (15, .pointer (some ⟨b96, 0, none⟩)), (16, .slice p99 rv98.1.length k100), (18, .pointer (some ⟨b5774, 0, none⟩)), (20, .int .i64 x7500), (101, .slice (some ⟨b121, 0, none⟩) ([rv68.1, rv112.1, raw5] : List Filter).length ([rv68.1, rv112.1, raw5] : List Filter).length), (102, .int .i64 (([rv68.1, rv112.1, raw5] : List Filter).length : Int)), (103, .int .i64 sv2544.2.2), (115, .slice (some ⟨b5804, 0, none⟩) ([number13, rv5794.1, 9007199254740992, 9007199254740993, (-1)] : List Int).length ([number13, rv5794.1, 9007199254740992, 9007199254740993, (-1)] : List Int).length), (116, .int .i64 (([number13, rv5794.1, 9007199254740992, 9007199254740993, (-1)] : List Int).length : Int)), (117, .int .i64 sv6530), (127, .slice (some ⟨b7520, 0, none⟩) ([rv98.1, samples9, l7515] : List (List Int)).length ([rv98.1, samples9, l7515] : List (List Int)).length), (128, .int .i64 (([rv98.1, samples9, l7515] : List (List Int)).length : Int)), (129, .int .i64 sv7689)] a ∧ Wd ⟨w0, S0, []⟩ Sv7799 [.box b26 [.slice p15 feed14.Filter.Taps.length k16, .int .i64 feed14.Filter.Factor, .int .i64 feed14.Filter.Shift, .slice p17 feed14.Past.length k18, .int .i64 feed14.Number] 51, .box b27 [.int .i64 stage21.Kind, .int .i64 stage21.Num.e0, .int .i64 stage21.Num.e1, .int .i64 stage21.Num.e2, .int .i64 stage21.Den.e0, .int .i64 stage21.Den.e1, .int .i64 stage21.Den.e2, .slice p22 stage21.Taps.length k23, .int .i64 stage21.Factor, .int .i64 stage21.Shift] 45, .box b58 [.slice p5795 rv5794.2.L.length k5796, .int .i64 rv5794.2.At] 75, .box b95 [.slice p69 rv68.1.Taps.length k70, .int .i64 rv68.1.Factor, .int .i64 rv68.1.Shift] 28, .box b96 [.slice p83 rv82.1.Taps.length k84, .int .i64 rv82.1.Factor, .int .i64 rv82.1.Shift] 28, .box b5774 [.slice p5770 x5763.Taps.length k5772, .int .i64 x5763.Factor, .int .i64 x5763.Shift] 28, .row (some ⟨b121, 0, none⟩) ([rv68.1, rv112.1, raw5] : List Filter).length ([rv68.1, rv112.1, raw5] : List Filter).length [.slice p69 rv68.1.Taps.length k70, .int .i64 rv68.1.Factor, .int .i64 rv68.1.Shift, .slice p113 rv112.1.Taps.length k114, .int .i64 rv112.1.Factor, .int .i64 rv112.1.Shift, .slice p6 raw5.Taps.length k7, .int .i64 raw5.Factor, .int .i64 raw5.Shift] 28 3, .row (some ⟨b5804, 0, none⟩) ([number13, rv5794.1, 9007199254740992, 9007199254740993, (-1)] : List Int).length ([number13, rv5794.1, 9007199254740992, 9007199254740993, (-1)] : List Int).length [.int .i64 number13, .int .i64 rv5794.1, .int .i64 9007199254740992, .int .i64 9007199254740993, .int .i64 (-1)] 3 1, .row (some ⟨b7520, 0, none⟩) ([rv98.1, samples9, l7515] : List (List Int)).length ([rv98.1, samples9, l7515] : List (List Int)).length [.slice p99 rv98.1.length k100, .slice p10 samples9.length k11, .slice p7516 l7515.length k7517] 22 1] [SlA p10 samples9.length k11 samples9, SlA p99 rv98.1.length k100 rv98.1, SlA p15 feed14.Filter.Taps.length k16 feed14.Filter.Taps, SlA p17 feed14.Past.length k18 feed14.Past, SlA p22 stage21.Taps.length k23 stage21.Taps, SlA p5795 rv5794.2.L.length k5796 rv5794.2.L, SlA p69 rv68.1.Taps.length k70 rv68.1.Taps, SlA p83 rv82.1.Taps.length k84 rv82.1.Taps, SlA p5770 x5763.Taps.length k5772 x5763.Taps, RowA [.slice p69 rv68.1.Taps.length k70, .int .i64 rv68.1.Factor, .int .i64 rv68.1.Shift, .slice p113 rv112.1.Taps.length k114, .int .i64 rv112.1.Factor, .int .i64 rv112.1.Shift, .slice p6 raw5.Taps.length k7, .int .i64 raw5.Factor, .int .i64 raw5.Shift] ([rv68.1, rv112.1, raw5] : List Filter), RowA [.int .i64 number13, .int .i64 rv5794.1, .int .i64 9007199254740992, .int .i64 9007199254740993, .int .i64 (-1)] ([number13, rv5794.1, 9007199254740992, 9007199254740993, (-1)] : List Int), RowA [.slice p99 rv98.1.length k100, .slice p10 samples9.length k11, .slice p7516 l7515.length k7517] ([rv98.1, samples9, l7515] : List (List Int))] w) 0 hsh ⟨Sv7521, (hs.wk rfl), (hw.ft [2, 3, 4, 5, 6, 7, 8, 9, 0] [6, 7, 8, 9, 10, 11, 12, 13, 14, 15, 16, 0] (by decide) rfl rfl)⟩ ?_
            repeat clear hsh
            rintro sv7689 a w tv7855 ⟨Sv7799, hs, hw⟩ hsh hd7854
            delta law21_FilterExact_l41 at hsh
            refine wp_seq ?_
            refine wp_region_lit ?_
            refine st_val hs (y_lss rfl rfl) trivial rfl rfl fun a hs => ?_
            refine wpList_nil ?_
            refine then_normal ?_
            refine wp_seq ?_
            refine wp_cond_split (hs.ev rfl) (fun h7859 => ?_) (fun h7859 => ?_)
            ·have hsh := ite_t hsh h7859
             refine wp_skip ?_
             refine then_normal ?_
             refine wp_seq ?_
             refine wp_block ?_
             refine wp_seq ?_
             refine wp_region_lit ?_
             obtain ⟨x7915, h7913, hsh⟩ := bind_t hsh
             obtain ⟨q7919, c7920, h7916, h7917, h7921, h7914⟩ := hw.elemRK (α := (List Int)) 8 rfl 11 rfl h7913
             obtain ⟨_, rfl, ⟨p7922, n7923, k7924, rfl, h7925⟩⟩ := h7914
             obtain rfl := h7925.1
             have hw := hw.addE (e := SlA p7922 _ k7924 x7915) h7925
             refine st_val hs (y_indexAt Try.runUnderlying69 Try.sizeOf22 rfl rfl h7916.1 h7916.2 h7917) trivial rfl rfl fun a hs => ?_
             refine st_val hs (y_loadQ1 (j := 0) (hw.ownAt 8 rfl) rfl Try.isAgg22 h7921 rfl) trivial rfl rfl fun a hs => ?_
             refine st_val hs (y_assign rfl) trivial rfl rfl fun a hs => ?_
             refine wpList_nil ?_
             refine then_normal ?_
             refine wp_seq ?_
             refine wp_region_lit ?_
             refine st_val hs (y_loadBA (hw.ownAt 5 rfl) rfl Try.isAgg28 Try.sizeOf28 rfl rfl) trivial rfl rfl fun a hs => ?_
             refine st_val hs (y_move rfl) trivial rfl rfl fun a hs => ?_
             refine st_val hs (y_move rfl) trivial rfl rfl fun a hs => ?_
             obtain ⟨rv7927, h7926, hsh⟩ := bind_t hsh
             refine st_callR hs (filter_Apply_ok h7926 hw.dom (hw.envAt 9 rfl) (hw.envAt 0 rfl)) (do_call Try.call14 rfl) trivial rfl rfl ?_
             intro v7935 Sv7932 w a h7933 h7934 hs
             obtain ⟨p7928, k7929, c7931, rfl, h7936, h7930⟩ := h7934
             have hw := hw.callN h7933 h7936
             have hw := hw.addE (e := RowA c7931 rv7927.1) h7930
             refine st_val hs (y_move rfl) trivial rfl rfl fun a hs => ?_
             refine st_val hs (y_extract rfl rfl) trivial rfl rfl fun a hs => ?_
             refine st_val hs (y_extract rfl rfl) trivial rfl rfl fun a hs => ?_
             refine st_val hs (y_assign rfl) trivial rfl rfl fun a hs => ?_
             refine st_val hs (y_assign rfl) trivial rfl rfl fun a hs => ?_
             refine wpList_nil ?_
             refine then_normal ?_
             refine wp_seq ?_
             refine wp_region_lit ?_
             refine st_val hs (y_loadBA (hw.ownAt 6 rfl) rfl Try.isAgg28 Try.sizeOf28 rfl rfl) trivial rfl rfl fun a hs => ?_
             refine st_val hs (y_move rfl) trivial rfl rfl fun a hs => ?_
             refine st_val hs (y_move rfl) trivial rfl rfl fun a hs => ?_
             obtain ⟨rv7938, h7937, hsh⟩ := bind_t hsh
             refine st_callR hs (ref21_Apply_ok h7937 hw.dom (hw.envAt 10 rfl) (hw.envAt 1 rfl)) (do_call Try.call33 rfl) trivial rfl rfl ?_
             intro v7946 Sv7943 w a h7944 h7945 hs
             obtain ⟨p7939, k7940, c7942, rfl, h7947, h7941⟩ := h7945
             have hw := hw.callN h7944 h7947
             have hw := hw.addE (e := RowA c7942 rv7938.1) h7941
             refine st_val hs (y_move rfl) trivial rfl rfl fun a hs => ?_
             refine st_val hs (y_extract rfl rfl) trivial rfl rfl fun a hs => ?_
             refine st_val hs (y_extract rfl rfl) trivial rfl rfl fun a hs => ?_
             refine st_val hs (y_assign rfl) trivial rfl rfl fun a hs => ?_
             refine st_val hs (y_assign rfl) trivial rfl rfl fun a hs => ?_
             refine wpList_nil ?_
             refine then_normal ?_
             refine wp_seq ?_
             refine wp_region_lit ?_
             refine st_val hs (y_move rfl) trivial rfl rfl fun a hs => ?_
             refine st_val hs (y_move rfl) trivial rfl rfl fun a hs => ?_
             refine st_val hs (y_neq rfl rfl) trivial rfl rfl fun a hs => ?_
             refine st_val hs (y_move rfl) trivial rfl rfl fun a hs => ?_
             obtain ⟨c7956, hc7956, hsh⟩ := bind_t hsh
             refine wpl_join 5 (fun a w => ∃ (Sv7957 : Nat → Prop), Sl 306 [(2, .slice p10 samples9.length k11), (3, .int .i64 number13), (10, .pointer (some ⟨b26, 0, none⟩)), (11, .pointer (some ⟨b27, 0, none⟩)), (13, .pointer (some ⟨b58, 0, none⟩)), (14, .pointer (some ⟨b95, 0, none⟩)), (15, .pointer (some ⟨b96, 0, none⟩)), (16, .slice p99 rv98.1.length k100), (18, .pointer (some ⟨b5774, 0, none⟩)), (20, .int .i64 x7500), (101, .slice (some ⟨b121, 0, none⟩) ([rv68.1, rv112.1, raw5] : List Filter).length ([rv68.1, rv112.1, raw5] : List Filter).length), (102, .int .i64 (([rv68.1, rv112.1, raw5] : List Filter).length : Int)), (103, .int .i64 sv2544.2.2), (115, .slice (some ⟨b5804, 0, none⟩) ([number13, rv5794.1, 9007199254740992, 9007199254740993, (-1)] : List Int).length ([number13, rv5794.1, 9007199254740992, 9007199254740993, (-1)] : List Int).length), (116, .int .i64 (([number13, rv5794.1, 9007199254740992, 9007199254740993, (-1)] : List Int).length : Int)), (117, .int .i64 sv6530), (127, .slice (some ⟨b7520, 0, none⟩) ([rv98.1, samples9, l7515] : List (List Int)).length ([rv98.1, samples9, l7515] : List (List Int)).length), (128, .int .i64 (([rv98.1, samples9, l7515] : List (List Int)).length : Int)), (129, .int .i64 sv7689), (155, .bool c7956)] a ∧ Wd ⟨w0, S0, []⟩ Sv7957 [.box b26 [.slice p15 feed14.Filter.Taps.length k16, .int .i64 feed14.Filter.Factor, .int .i64 feed14.Filter.Shift, .slice p17 feed14.Past.length k18, .int .i64 feed14.Number] 51, .box b27 [.int .i64 stage21.Kind, .int .i64 stage21.Num.e0, .int .i64 stage21.Num.e1, .int .i64 stage21.Num.e2, .int .i64 stage21.Den.e0, .int .i64 stage21.Den.e1, .int .i64 stage21.Den.e2, .slice p22 stage21.Taps.length k23, .int .i64 stage21.Factor, .int .i64 stage21.Shift] 45, .box b58 [.slice p5795 rv5794.2.L.length k5796, .int .i64 rv5794.2.At] 75, .box b95 [.slice p69 rv68.1.Taps.length k70, .int .i64 rv68.1.Factor, .int .i64 rv68.1.Shift] 28, .box b96 [.slice p83 rv82.1.Taps.length k84, .int .i64 rv82.1.Factor, .int .i64 rv82.1.Shift] 28, .box b5774 [.slice p5770 x5763.Taps.length k5772, .int .i64 x5763.Factor, .int .i64 x5763.Shift] 28, .row (some ⟨b121, 0, none⟩) ([rv68.1, rv112.1, raw5] : List Filter).length ([rv68.1, rv112.1, raw5] : List Filter).length [.slice p69 rv68.1.Taps.length k70, .int .i64 rv68.1.Factor, .int .i64 rv68.1.Shift, .slice p113 rv112.1.Taps.length k114, .int .i64 rv112.1.Factor, .int .i64 rv112.1.Shift, .slice p6 raw5.Taps.length k7, .int .i64 raw5.Factor, .int .i64 raw5.Shift] 28 3, .row (some ⟨b5804, 0, none⟩) ([number13, rv5794.1, 9007199254740992, 9007199254740993, (-1)] : List Int).length ([number13, rv5794.1, 9007199254740992, 9007199254740993, (-1)] : List Int).length [.int .i64 number13, .int .i64 rv5794.1, .int .i64 9007199254740992, .int .i64 9007199254740993, .int .i64 (-1)] 3 1, .row (some ⟨b7520, 0, none⟩) ([rv98.1, samples9, l7515] : List (List Int)).length ([rv98.1, samples9, l7515] : List (List Int)).length [.slice p99 rv98.1.length k100, .slice p10 samples9.length k11, .slice p7516 l7515.length k7517] 22 1] [SlA p10 samples9.length k11 samples9, SlA p99 rv98.1.length k100 rv98.1, SlA p15 feed14.Filter.Taps.length k16 feed14.Filter.Taps, SlA p17 feed14.Past.length k18 feed14.Past, SlA p22 stage21.Taps.length k23 stage21.Taps, SlA p5795 rv5794.2.L.length k5796 rv5794.2.L, SlA p69 rv68.1.Taps.length k70 rv68.1.Taps, SlA p83 rv82.1.Taps.length k84 rv82.1.Taps, SlA p5770 x5763.Taps.length k5772 x5763.Taps, RowA [.slice p69 rv68.1.Taps.length k70, .int .i64 rv68.1.Factor, .int .i64 rv68.1.Shift, .slice p113 rv112.1.Taps.length k114, .int .i64 rv112.1.Factor, .int .i64 rv112.1.Shift, .slice p6 raw5.Taps.length k7, .int .i64 raw5.Factor, .int .i64 raw5.Shift] ([rv68.1, rv112.1, raw5] : List Filter), RowA [.int .i64 number13, .int .i64 rv5794.1, .int .i64 9007199254740992, .int .i64 9007199254740993, .int .i64 (-1)] ([number13, rv5794.1, 9007199254740992, 9007199254740993, (-1)] : List Int), RowA [.slice p99 rv98.1.length k100, .slice p10 samples9.length k11, .slice p7516 l7515.length k7517] ([rv98.1, samples9, l7515] : List (List Int))] w) ?_ ?_
             ·rcases Bool.eq_false_or_eq_true (rv7927.2 != rv7938.2) with h7955 | h7955
              ·have hs := hs.fix 150 (.bool true) rfl (vb h7955)
               have hsh := ite_t hc7956 h7955
               refine st_skip hs rfl rfl rfl rfl rfl fun a hs => ?_
               refine st_skip hs rfl rfl rfl rfl rfl fun a hs => ?_
               refine st_skip hs rfl rfl rfl rfl rfl fun a hs => ?_
               refine st_skip hs rfl rfl rfl rfl rfl fun a hs => ?_
               refine st_val hs (y_pickT rfl rfl) trivial rfl rfl fun a hs => ?_
               refine wpList_nil ?_
               have hsh := Option.some.inj hsh
               subst hsh
               refine then_normal ?_
               exact ⟨Sv7943, (hs.wk rfl), (hw.ft [2, 3, 4, 5, 6, 7, 8, 9, 10] [3, 4, 5, 6, 7, 8, 9, 10, 11, 12, 13, 14] (by decide) rfl rfl)⟩
              ·have hs := hs.fix 150 (.bool false) rfl (vb h7955)
               have hsh := ite_f hc7956 h7955
               refine st_val hs (y_move rfl) ⟨_, rfl, rfl⟩ rfl rfl fun a hs => ?_
               refine st_val hs (y_move rfl) ⟨_, rfl, rfl⟩ rfl rfl fun a hs => ?_
               obtain ⟨rv7959, h7958, hsh⟩ := bind_t hsh
               refine st_callR hs (ref05_Same_ok h7958 hw.bdom (hw.bRow 1 rfl 1 rfl) (hw.bRow 0 rfl 0 rfl)) (do_call Try.call23 rfl) ⟨_, rfl, rfl⟩ rfl rfl ?_
               intro v7963 Sv7960 w a h7961 h7962 hs
               subst h7962
               have hw := hw.callB h7961
               refine st_val hs (y_not rfl) ⟨_, rfl, rfl⟩ rfl rfl fun a hs => ?_
               refine st_val hs (y_pickF rfl rfl) trivial rfl rfl fun a hs => ?_
               refine wpList_nil ?_
               have hsh := Option.some.inj hsh
               subst hsh
               refine then_normal ?_
               exact ⟨Sv7943, (hs.wk rfl), (hw.ft [2, 3, 4, 5, 6, 7, 8, 9, 10] [3, 4, 5, 6, 7, 8, 9, 10, 11, 12, 13, 14] (by decide) rfl rfl)⟩
             ·rintro a w ⟨Sv7957, hs, hw⟩
              refine wpList_nil ?_
              refine then_normal ?_
              refine wp_cond_split (hs.ev rfl) (fun h7966 => ?_) (fun h7966 => ?_)
              ·have hsh := ite_t hsh h7966
               refine wp_seq ?_
               refine wp_region_lit ?_
               refine st_val hs (y_assign rfl) trivial rfl rfl fun a hs => ?_
               refine wpList_nil ?_
               refine then_normal ?_
               have hsh := Option.some.inj hsh
               subst hsh
               have h7967 := hd7854 _ rfl
               subst h7967
               have h7968 := hd7253 _ rfl
               subst h7968
               have h7969 := hd4954 _ rfl
               subst h7969
               refine wp_ret ?_
               refine blk_ret ?_
               refine then_ret ?_
               refine then_ret ?_
               refine blk_ret ?_
               refine then_ret ?_
               refine blk_ret ?_
               refine then_ret ?_
               refine then_ret ?_
               refine blk_ret ?_
               refine then_ret ?_
               refine blk_ret ?_
               refine then_ret ?_
               refine then_ret ?_
               refine blk_ret ?_
               refine then_ret ?_
               exact ret1 hs rfl (rv_tmp rfl) (hw.ret rfl)
              ·have hsh := ite_f hsh h7966
               refine wp_skip ?_
               refine blk_normal ?_
               refine then_normal ?_
               refine wp_region_lit ?_
               refine st_val hs (y_add rfl rfl) trivial rfl rfl fun a hs => ?_
               refine st_val hs (y_move rfl) trivial rfl rfl fun a hs => ?_
               refine wpList_nil ?_
               refine then_normal ?_
               exact ⟨_, (Option.some.inj hsh).symm, Sv7957, (hs.wk rfl), (hw.ft [0, 1, 2, 3, 4, 5, 6, 7, 8] [0, 1, 2, 3, 4, 5, 6, 7, 8, 9, 10, 11] (by decide) rfl rfl)⟩
            ·have hsh := ite_f hsh h7859
             obtain ⟨rv8021, hsh, h8022⟩ := map_t hsh
             have h8022 := (hd7854 _ h8022.symm).symm
             subst h8022
             refine wp_exit ?_
             refine then_exit ?_
             refine then_exit ?_
             refine blk_exit ?_
             refine then_normal ?_
             refine wp_seq ?_
             refine wp_region_lit ?_
             refine st_val hs (y_loadBA (hw.ownAt 5 rfl) rfl Try.isAgg28 Try.sizeOf28 rfl rfl) trivial rfl rfl fun a hs => ?_
             refine st_val hs (y_move rfl) trivial rfl rfl fun a hs => ?_
             obtain ⟨rv7971, h7970, hsh⟩ := bind_t hsh
             refine st_callR hs (filter_Start_ok h7970 hw.dom (hw.envAt 8 rfl)) (do_call Try.call24 rfl) trivial rfl rfl ?_
             intro v7982 Sv7979 w a h7980 h7981 hs
             obtain ⟨p7972, k7973, c7975, p7976, k7977, rfl, h7983, h7974, h7978⟩ := h7981
             have hw := hw.callN h7980 h7983
             have hw := hw.addE (e := RowA c7975 rv7971.1.Filter.Taps) h7974
             have hw := hw.addE (e := SlA p7976 rv7971.1.Past.length k7977 rv7971.1.Past) h7978
             refine st_val hs (y_move rfl) trivial rfl rfl fun a hs => ?_
             refine st_val hs (y_extract rfl rfl) trivial rfl rfl fun a hs => ?_
             refine st_val hs (y_extract rfl rfl) trivial rfl rfl fun a hs => ?_
             refine w_alloc (cs := [.slice none ([] : List Int).length 0, .int .i64 0, .int .i64 0, .slice none ([] : List Int).length 0, .int .i64 0]) hs hw Try.zeroValue51 rfl rfl trivial ?_
             intro b7984 a w hs hw
             refine w_store (m := 5) (cs' := [.slice p7972 rv7971.1.Filter.Taps.length k7973, .int .i64 rv7971.1.Filter.Factor, .int .i64 rv7971.1.Filter.Shift, .slice p7976 rv7971.1.Past.length k7977, .int .i64 rv7971.1.Number]) hs hw 0 rfl rfl rfl Try.sizeOf51 rfl rfl rfl rfl trivial ?_
             intro a w hs hw
             refine st_val hs (y_assign rfl) trivial rfl rfl fun a hs => ?_
             refine wpList_nil ?_
             refine then_normal ?_
             refine wp_seq ?_
             refine wp_region_lit ?_
             refine st_val hs (y_loadBA (hw.ownAt 7 rfl) rfl Try.isAgg28 Try.sizeOf28 rfl rfl) trivial rfl rfl fun a hs => ?_
             refine st_val hs (y_move rfl) trivial rfl rfl fun a hs => ?_
             obtain ⟨rv7986, h7985, hsh⟩ := bind_t hsh
             refine st_callR hs (ref21_Start_ok h7985 hw.dom (hw.envAt 10 rfl)) (do_call Try.call34 rfl) trivial rfl rfl ?_
             intro v7997 Sv7994 w a h7995 h7996 hs
             obtain ⟨p7987, k7988, c7990, p7991, k7992, rfl, h7998, h7989, h7993⟩ := h7996
             have hw := hw.callN h7995 h7998
             have hw := hw.addE (e := RowA c7990 rv7986.1.Filter.Taps) h7989
             have hw := hw.addE (e := SlA p7991 rv7986.1.Past.length k7992 rv7986.1.Past) h7993
             refine st_val hs (y_move rfl) trivial rfl rfl fun a hs => ?_
             refine st_val hs (y_extract rfl rfl) trivial rfl rfl fun a hs => ?_
             refine st_val hs (y_extract rfl rfl) trivial rfl rfl fun a hs => ?_
             refine w_alloc (cs := [.slice none ([] : List Int).length 0, .int .i64 0, .int .i64 0, .slice none ([] : List Int).length 0, .int .i64 0]) hs hw Try.zeroValue51 rfl rfl trivial ?_
             intro b7999 a w hs hw
             refine w_store (m := 5) (cs' := [.slice p7987 rv7986.1.Filter.Taps.length k7988, .int .i64 rv7986.1.Filter.Factor, .int .i64 rv7986.1.Filter.Shift, .slice p7991 rv7986.1.Past.length k7992, .int .i64 rv7986.1.Number]) hs hw 0 rfl rfl rfl Try.sizeOf51 rfl rfl rfl rfl trivial ?_
             intro a w hs hw
             refine st_val hs (y_assign rfl) trivial rfl rfl fun a hs => ?_
             refine wpList_nil ?_
             refine then_normal ?_
             refine wp_seq ?_
             refine wp_region_lit ?_
             refine st_val hs (y_move rfl) trivial rfl rfl fun a hs => ?_
             refine st_val hs (y_move rfl) trivial rfl rfl fun a hs => ?_
             refine st_val hs (y_neq rfl rfl) trivial rfl rfl fun a hs => ?_
             refine st_val hs (y_move rfl) trivial rfl rfl fun a hs => ?_
             obtain ⟨c8008, hc8008, hsh⟩ := bind_t hsh
             refine wpl_join 5 (fun a w => ∃ (Sv8009 : Nat → Prop), Sl 306 [(2, .slice p10 samples9.length k11), (3, .int .i64 number13), (10, .pointer (some ⟨b26, 0, none⟩)), (11, .pointer (some ⟨b27, 0, none⟩)), (13, .pointer (some ⟨b58, 0, none⟩)), (14, .pointer (some ⟨b95, 0, none⟩)), (15, .pointer (some ⟨b96, 0, none⟩)), (16, .slice p99 rv98.1.length k100), (18, .pointer (some ⟨b5774, 0, none⟩)), (101, .slice (some ⟨b121, 0, none⟩) ([rv68.1, rv112.1, raw5] : List Filter).length ([rv68.1, rv112.1, raw5] : List Filter).length), (102, .int .i64 (([rv68.1, rv112.1, raw5] : List Filter).length : Int)), (103, .int .i64 sv2544.2.2), (115, .slice (some ⟨b5804, 0, none⟩) ([number13, rv5794.1, 9007199254740992, 9007199254740993, (-1)] : List Int).length ([number13, rv5794.1, 9007199254740992, 9007199254740993, (-1)] : List Int).length), (116, .int .i64 (([number13, rv5794.1, 9007199254740992, 9007199254740993, (-1)] : List Int).length : Int)), (117, .int .i64 sv6530), (177, .bool c8008)] a ∧ Wd ⟨w0, S0, []⟩ Sv8009 [.box b26 [.slice p15 feed14.Filter.Taps.length k16, .int .i64 feed14.Filter.Factor, .int .i64 feed14.Filter.Shift, .slice p17 feed14.Past.length k18, .int .i64 feed14.Number] 51, .box b27 [.int .i64 stage21.Kind, .int .i64 stage21.Num.e0, .int .i64 stage21.Num.e1, .int .i64 stage21.Num.e2, .int .i64 stage21.Den.e0, .int .i64 stage21.Den.e1, .int .i64 stage21.Den.e2, .slice p22 stage21.Taps.length k23, .int .i64 stage21.Factor, .int .i64 stage21.Shift] 45, .box b58 [.slice p5795 rv5794.2.L.length k5796, .int .i64 rv5794.2.At] 75, .box b95 [.slice p69 rv68.1.Taps.length k70, .int .i64 rv68.1.Factor, .int .i64 rv68.1.Shift] 28, .box b96 [.slice p83 rv82.1.Taps.length k84, .int .i64 rv82.1.Factor, .int .i64 rv82.1.Shift] 28, .box b5774 [.slice p5770 x5763.Taps.length k5772, .int .i64 x5763.Factor, .int .i64 x5763.Shift] 28, .row (some ⟨b121, 0, none⟩) ([rv68.1, rv112.1, raw5] : List Filter).length ([rv68.1, rv112.1, raw5] : List Filter).length [.slice p69 rv68.1.Taps.length k70, .int .i64 rv68.1.Factor, .int .i64 rv68.1.Shift, .slice p113 rv112.1.Taps.length k114, .int .i64 rv112.1.Factor, .int .i64 rv112.1.Shift, .slice p6 raw5.Taps.length k7, .int .i64 raw5.Factor, .int .i64 raw5.Shift] 28 3, .row (some ⟨b5804, 0, none⟩) ([number13, rv5794.1, 9007199254740992, 9007199254740993, (-1)] : List Int).length ([number13, rv5794.1, 9007199254740992, 9007199254740993, (-1)] : List Int).length [.int .i64 number13, .int .i64 rv5794.1, .int .i64 9007199254740992, .int .i64 9007199254740993, .int .i64 (-1)] 3 1] [SlA p10 samples9.length k11 samples9, SlA p99 rv98.1.length k100 rv98.1, SlA p15 feed14.Filter.Taps.length k16 feed14.Filter.Taps, SlA p17 feed14.Past.length k18 feed14.Past, SlA p22 stage21.Taps.length k23 stage21.Taps, SlA p5795 rv5794.2.L.length k5796 rv5794.2.L, SlA p69 rv68.1.Taps.length k70 rv68.1.Taps, SlA p83 rv82.1.Taps.length k84 rv82.1.Taps, SlA p5770 x5763.Taps.length k5772 x5763.Taps, RowA [.slice p69 rv68.1.Taps.length k70, .int .i64 rv68.1.Factor, .int .i64 rv68.1.Shift, .slice p113 rv112.1.Taps.length k114, .int .i64 rv112.1.Factor, .int .i64 rv112.1.Shift, .slice p6 raw5.Taps.length k7, .int .i64 raw5.Factor, .int .i64 raw5.Shift] ([rv68.1, rv112.1, raw5] : List Filter), RowA [.int .i64 number13, .int .i64 rv5794.1, .int .i64 9007199254740992, .int .i64 9007199254740993, .int .i64 (-1)] ([number13, rv5794.1, 9007199254740992, 9007199254740993, (-1)] : List Int)] w) ?_ ?_
             ·rcases Bool.eq_false_or_eq_true (rv7971.2 != rv7986.2) with h8007 | h8007
              ·have hs := hs.fix 172 (.bool true) rfl (vb h8007)
               have hsh := ite_t hc8008 h8007
               refine st_skip hs rfl rfl rfl rfl rfl fun a hs => ?_
               refine st_skip hs rfl rfl rfl rfl rfl fun a hs => ?_
               refine st_skip hs rfl rfl rfl rfl rfl fun a hs => ?_
               refine st_skip hs rfl rfl rfl rfl rfl fun a hs => ?_
               refine st_val hs (y_pickT rfl rfl) trivial rfl rfl fun a hs => ?_
               refine wpList_nil ?_
               have hsh := Option.some.inj hsh
               subst hsh
               refine then_normal ?_
               exact ⟨Sv7994, (hs.wk rfl), (hw.ft [4, 5, 6, 7, 8, 9, 10, 11] [4, 5, 6, 7, 8, 9, 10, 11, 12, 13, 14] (by decide) rfl rfl)⟩
              ·have hs := hs.fix 172 (.bool false) rfl (vb h8007)
               have hsh := ite_f hc8008 h8007
               refine st_val hs (y_loadBA (hw.ownAt 2 rfl) rfl Try.isAgg51 Try.sizeOf51 rfl rfl) ⟨_, rfl, rfl⟩ rfl rfl fun a hs => ?_
               refine st_val hs (y_loadBA (hw.ownAt 0 rfl) rfl Try.isAgg51 Try.sizeOf51 rfl rfl) ⟨_, rfl, rfl⟩ rfl rfl fun a hs => ?_
               obtain ⟨rv8011, h8010, hsh⟩ := bind_t hsh
               refine st_callR hs (ref21_SameFeed_ok h8010 hw.bdom (hw.bRow 3 rfl 3 rfl) (hw.bE 2 rfl) (hw.bRow 1 rfl 1 rfl) (hw.bE 0 rfl)) (do_call Try.call26 rfl) ⟨_, rfl, rfl⟩ rfl rfl ?_
               intro v8015 Sv8012 w a h8013 h8014 hs
               subst h8014
               have hw := hw.callB h8013
               refine st_val hs (y_not rfl) ⟨_, rfl, rfl⟩ rfl rfl fun a hs => ?_
               refine st_val hs (y_pickF rfl rfl) trivial rfl rfl fun a hs => ?_
               refine wpList_nil ?_
               have hsh := Option.some.inj hsh
               subst hsh
               refine then_normal ?_
               exact ⟨Sv7994, (hs.wk rfl), (hw.ft [4, 5, 6, 7, 8, 9, 10, 11] [4, 5, 6, 7, 8, 9, 10, 11, 12, 13, 14] (by decide) rfl rfl)⟩
             ·rintro a w ⟨Sv8009, hs, hw⟩
              refine wpList_nil ?_
              refine then_normal ?_
              refine wp_cond_split (hs.ev rfl) (fun h8018 => ?_) (fun h8018 => ?_)
              ·have hsh := ite_t hsh h8018
               refine wp_seq ?_
               refine wp_region_lit ?_
               refine st_val hs (y_assign rfl) trivial rfl rfl fun a hs => ?_
               refine wpList_nil ?_
               refine then_normal ?_
               have hsh := Option.some.inj hsh
               subst hsh
               have h8019 := hd7253 _ rfl
               subst h8019
               have h8020 := hd4954 _ rfl
               subst h8020
               refine wp_ret ?_
               refine blk_ret ?_
               refine then_ret ?_
               refine then_ret ?_
               refine blk_ret ?_
               refine then_ret ?_
               refine blk_ret ?_
               refine then_ret ?_
               refine then_ret ?_
               refine blk_ret ?_
               refine then_ret ?_
               exact ret1 hs rfl (rv_tmp rfl) (hw.ret rfl)
              ·have hsh := ite_f hsh h8018
               refine wp_skip ?_
               refine blk_normal ?_
               refine then_normal ?_
               refine wp_region_lit ?_
               refine st_val hs (y_add rfl rfl) trivial rfl rfl fun a hs => ?_
               refine st_val hs (y_move rfl) trivial rfl rfl fun a hs => ?_
               refine wpList_nil ?_
               refine then_normal ?_
               exact ⟨_, (Option.some.inj hsh).symm, Sv8009, (hs.wk rfl), (hw.ft [0, 1, 2, 3, 4, 5, 6, 7] [0, 1, 2, 3, 4, 5, 6, 7, 8, 9, 10] (by decide) rfl rfl)⟩
           ·have hsh := ite_f hsh h7258
            obtain ⟨rv8067, hsh, h8068⟩ := map_t hsh
            have h8068 := (hd7253 _ h8068.symm).symm
            subst h8068
            refine wp_exit ?_
            refine then_exit ?_
            refine then_exit ?_
            refine blk_exit ?_
            refine then_normal ?_
            refine wp_seq ?_
            refine wp_region_lit ?_
            refine st_val hs (y_loadBA (hw.ownAt 5 rfl) rfl Try.isAgg28 Try.sizeOf28 rfl rfl) trivial rfl rfl fun a hs => ?_
            refine st_val hs (y_loadBA (hw.ownAt 4 rfl) rfl Try.isAgg28 Try.sizeOf28 rfl rfl) trivial rfl rfl fun a hs => ?_
            obtain ⟨rv8024, h8023, hsh⟩ := bind_t hsh
            refine st_callR hs (filter_Convolve_ok h8023 hw.dom (hw.envAt 8 rfl) (hw.envAt 7 rfl)) (do_call Try.call18 rfl) trivial rfl rfl ?_
            intro v8032 Sv8029 w a h8030 h8031 hs
            obtain ⟨p8025, k8026, c8028, rfl, h8033, h8027⟩ := h8031
            have hw := hw.callN h8030 h8033
            have hw := hw.addE (e := RowA c8028 rv8024.1.Taps) h8027
            refine st_val hs (y_move rfl) trivial rfl rfl fun a hs => ?_
            refine st_val hs (y_extract rfl rfl) trivial rfl rfl fun a hs => ?_
            refine st_val hs (y_extract rfl rfl) trivial rfl rfl fun a hs => ?_
            refine w_alloc (cs := [.slice none ([] : List Int).length 0, .int .i64 0, .int .i64 0]) hs hw Try.zeroValue28 rfl rfl trivial ?_
            intro b8034 a w hs hw
            refine w_store (m := 3) (cs' := [.slice p8025 rv8024.1.Taps.length k8026, .int .i64 rv8024.1.Factor, .int .i64 rv8024.1.Shift]) hs hw 0 rfl rfl rfl Try.sizeOf28 rfl rfl rfl rfl trivial ?_
            intro a w hs hw
            refine st_val hs (y_assign rfl) trivial rfl rfl fun a hs => ?_
            refine wpList_nil ?_
            refine then_normal ?_
            refine wp_seq ?_
            refine wp_region_lit ?_
            refine st_val hs (y_loadBA (hw.ownAt 7 rfl) rfl Try.isAgg28 Try.sizeOf28 rfl rfl) trivial rfl rfl fun a hs => ?_
            refine st_val hs (y_loadBA (hw.ownAt 6 rfl) rfl Try.isAgg28 Try.sizeOf28 rfl rfl) trivial rfl rfl fun a hs => ?_
            obtain ⟨rv8036, h8035, hsh⟩ := bind_t hsh
            refine st_callR hs (ref21_Convolve_ok h8035 hw.dom (hw.envAt 9 rfl) (hw.envAt 8 rfl)) (do_call Try.call35 rfl) trivial rfl rfl ?_
            intro v8044 Sv8041 w a h8042 h8043 hs
            obtain ⟨p8037, k8038, c8040, rfl, h8045, h8039⟩ := h8043
            have hw := hw.callN h8042 h8045
            have hw := hw.addE (e := RowA c8040 rv8036.1.Taps) h8039
            refine st_val hs (y_move rfl) trivial rfl rfl fun a hs => ?_
            refine st_val hs (y_extract rfl rfl) trivial rfl rfl fun a hs => ?_
            refine st_val hs (y_extract rfl rfl) trivial rfl rfl fun a hs => ?_
            refine w_alloc (cs := [.slice none ([] : List Int).length 0, .int .i64 0, .int .i64 0]) hs hw Try.zeroValue28 rfl rfl trivial ?_
            intro b8046 a w hs hw
            refine w_store (m := 3) (cs' := [.slice p8037 rv8036.1.Taps.length k8038, .int .i64 rv8036.1.Factor, .int .i64 rv8036.1.Shift]) hs hw 0 rfl rfl rfl Try.sizeOf28 rfl rfl rfl rfl trivial ?_
            intro a w hs hw
            refine st_val hs (y_assign rfl) trivial rfl rfl fun a hs => ?_
            refine wpList_nil ?_
            refine then_normal ?_
            refine wp_seq ?_
            refine wp_region_lit ?_
            refine st_val hs (y_move rfl) trivial rfl rfl fun a hs => ?_
            refine st_val hs (y_move rfl) trivial rfl rfl fun a hs => ?_
            refine st_val hs (y_neq rfl rfl) trivial rfl rfl fun a hs => ?_
            refine st_val hs (y_move rfl) trivial rfl rfl fun a hs => ?_
            obtain ⟨c8055, hc8055, hsh⟩ := bind_t hsh
            refine wpl_join 5 (fun a w => ∃ (Sv8056 : Nat → Prop), Sl 306 [(2, .slice p10 samples9.length k11), (3, .int .i64 number13), (10, .pointer (some ⟨b26, 0, none⟩)), (11, .pointer (some ⟨b27, 0, none⟩)), (13, .pointer (some ⟨b58, 0, none⟩)), (14, .pointer (some ⟨b95, 0, none⟩)), (15, .pointer (some ⟨b96, 0, none⟩)), (16, .slice p99 rv98.1.length k100), (101, .slice (some ⟨b121, 0, none⟩) ([rv68.1, rv112.1, raw5] : List Filter).length ([rv68.1, rv112.1, raw5] : List Filter).length), (102, .int .i64 (([rv68.1, rv112.1, raw5] : List Filter).length : Int)), (103, .int .i64 sv2544.2.2), (199, .bool c8055)] a ∧ Wd ⟨w0, S0, []⟩ Sv8056 [.box b26 [.slice p15 feed14.Filter.Taps.length k16, .int .i64 feed14.Filter.Factor, .int .i64 feed14.Filter.Shift, .slice p17 feed14.Past.length k18, .int .i64 feed14.Number] 51, .box b27 [.int .i64 stage21.Kind, .int .i64 stage21.Num.e0, .int .i64 stage21.Num.e1, .int .i64 stage21.Num.e2, .int .i64 stage21.Den.e0, .int .i64 stage21.Den.e1, .int .i64 stage21.Den.e2, .slice p22 stage21.Taps.length k23, .int .i64 stage21.Factor, .int .i64 stage21.Shift] 45, .box b58 [.slice p5795 rv5794.2.L.length k5796, .int .i64 rv5794.2.At] 75, .box b95 [.slice p69 rv68.1.Taps.length k70, .int .i64 rv68.1.Factor, .int .i64 rv68.1.Shift] 28, .box b96 [.slice p83 rv82.1.Taps.length k84, .int .i64 rv82.1.Factor, .int .i64 rv82.1.Shift] 28, .row (some ⟨b121, 0, none⟩) ([rv68.1, rv112.1, raw5] : List Filter).length ([rv68.1, rv112.1, raw5] : List Filter).length [.slice p69 rv68.1.Taps.length k70, .int .i64 rv68.1.Factor, .int .i64 rv68.1.Shift, .slice p113 rv112.1.Taps.length k114, .int .i64 rv112.1.Factor, .int .i64 rv112.1.Shift, .slice p6 raw5.Taps.length k7, .int .i64 raw5.Factor, .int .i64 raw5.Shift] 28 3] [SlA p10 samples9.length k11 samples9, SlA p99 rv98.1.length k100 rv98.1, SlA p15 feed14.Filter.Taps.length k16 feed14.Filter.Taps, SlA p17 feed14.Past.length k18 feed14.Past, SlA p22 stage21.Taps.length k23 stage21.Taps, SlA p5795 rv5794.2.L.length k5796 rv5794.2.L, SlA p69 rv68.1.Taps.length k70 rv68.1.Taps, SlA p83 rv82.1.Taps.length k84 rv82.1.Taps, RowA [.slice p69 rv68.1.Taps.length k70, .int .i64 rv68.1.Factor, .int .i64 rv68.1.Shift, .slice p113 rv112.1.Taps.length k114, .int .i64 rv112.1.Factor, .int .i64 rv112.1.Shift, .slice p6 raw5.Taps.length k7, .int .i64 raw5.Factor, .int .i64 raw5.Shift] ([rv68.1, rv112.1, raw5] : List Filter)] w) ?_ ?_
            ·rcases Bool.eq_false_or_eq_true (rv8024.2 != rv8036.2) with h8054 | h8054
             ·have hs := hs.fix 194 (.bool true) rfl (vb h8054)
              have hsh := ite_t hc8055 h8054
              refine st_skip hs rfl rfl rfl rfl rfl fun a hs => ?_
              refine st_skip hs rfl rfl rfl rfl rfl fun a hs => ?_
              refine st_skip hs rfl rfl rfl rfl rfl fun a hs => ?_
              refine st_skip hs rfl rfl rfl rfl rfl fun a hs => ?_
              refine st_val hs (y_pickT rfl rfl) trivial rfl rfl fun a hs => ?_
              refine wpList_nil ?_
              have hsh := Option.some.inj hsh
              subst hsh
              refine then_normal ?_
              exact ⟨Sv8041, (hs.wk rfl), (hw.ft [4, 5, 6, 7, 8, 10] [2, 3, 4, 5, 6, 7, 8, 9, 11] (by decide) rfl rfl)⟩
             ·have hs := hs.fix 194 (.bool false) rfl (vb h8054)
              have hsh := ite_f hc8055 h8054
              refine st_val hs (y_loadBA (hw.ownAt 2 rfl) rfl Try.isAgg28 Try.sizeOf28 rfl rfl) ⟨_, rfl, rfl⟩ rfl rfl fun a hs => ?_
              refine st_val hs (y_loadBA (hw.ownAt 0 rfl) rfl Try.isAgg28 Try.sizeOf28 rfl rfl) ⟨_, rfl, rfl⟩ rfl rfl fun a hs => ?_
              obtain ⟨rv8058, h8057, hsh⟩ := bind_t hsh
              refine st_callR hs (ref21_Same_ok h8057 hw.bdom (hw.bRow 3 rfl 1 rfl) (hw.bRow 1 rfl 0 rfl)) (do_call Try.call19 rfl) ⟨_, rfl, rfl⟩ rfl rfl ?_
              intro v8062 Sv8059 w a h8060 h8061 hs
              subst h8061
              have hw := hw.callB h8060
              refine st_val hs (y_not rfl) ⟨_, rfl, rfl⟩ rfl rfl fun a hs => ?_
              refine st_val hs (y_pickF rfl rfl) trivial rfl rfl fun a hs => ?_
              refine wpList_nil ?_
              have hsh := Option.some.inj hsh
              subst hsh
              refine then_normal ?_
              exact ⟨Sv8041, (hs.wk rfl), (hw.ft [4, 5, 6, 7, 8, 10] [2, 3, 4, 5, 6, 7, 8, 9, 11] (by decide) rfl rfl)⟩
            ·rintro a w ⟨Sv8056, hs, hw⟩
             refine wpList_nil ?_
             refine then_normal ?_
             refine wp_cond_split (hs.ev rfl) (fun h8065 => ?_) (fun h8065 => ?_)
             ·have hsh := ite_t hsh h8065
              refine wp_seq ?_
              refine wp_region_lit ?_
              refine st_val hs (y_assign rfl) trivial rfl rfl fun a hs => ?_
              refine wpList_nil ?_
              refine then_normal ?_
              have hsh := Option.some.inj hsh
              subst hsh
              have h8066 := hd4954 _ rfl
              subst h8066
              refine wp_ret ?_
              refine blk_ret ?_
              refine then_ret ?_
              refine then_ret ?_
              refine blk_ret ?_
              refine then_ret ?_
              exact ret1 hs rfl (rv_tmp rfl) (hw.ret rfl)
             ·have hsh := ite_f hsh h8065
              refine wp_skip ?_
              refine blk_normal ?_
              refine then_normal ?_
              refine wp_region_lit ?_
              refine st_val hs (y_add rfl rfl) trivial rfl rfl fun a hs => ?_
              refine st_val hs (y_move rfl) trivial rfl rfl fun a hs => ?_
              refine wpList_nil ?_
              refine then_normal ?_
              exact ⟨_, (Option.some.inj hsh).symm, p5795, k5796, Sv8056, (hs.wk rfl), (hw.ft [0, 1, 2, 3, 4, 5] [0, 1, 2, 3, 4, 5, 6, 7, 8] (by decide) rfl rfl)⟩
        ·have hsh := ite_f hsh h4961
         obtain ⟨rv10944, hsh, h10945⟩ := map_t hsh
         have h10945 := (hd4954 _ h10945.symm).symm
         subst h10945
         refine wp_exit ?_
         refine then_exit ?_
         refine then_exit ?_
         refine blk_exit ?_
         refine then_normal ?_
         refine wp_seq ?_
         obtain ⟨rv8070, h8069, hsh⟩ := bind_t hsh
         obtain ⟨rv8075, h8074, hsh⟩ := bind_t hsh
         refine wp_only (fun a w => ∃ (Sv8084 : Nat → Prop) (b8083 : Nat) (c8079 : List Value) (k8072 : Nat) (k8077 : Nat) (k8081 : Nat) (p8071 : Option Addr) (p8076 : Option Addr) (p8080 : Option Addr), Sl 306 [(2, .slice p10 samples9.length k11), (10, .pointer (some ⟨b26, 0, none⟩)), (11, .pointer (some ⟨b27, 0, none⟩)), (13, .pointer (some ⟨b58, 0, none⟩)), (16, .slice p99 rv98.1.length k100), (35, .pointer (some ⟨b8083, 0, none⟩))] a ∧ Wd ⟨w0, S0, []⟩ Sv8084 [.box b26 [.slice p15 feed14.Filter.Taps.length k16, .int .i64 feed14.Filter.Factor, .int .i64 feed14.Filter.Shift, .slice p17 feed14.Past.length k18, .int .i64 feed14.Number] 51, .box b27 [.int .i64 stage21.Kind, .int .i64 stage21.Num.e0, .int .i64 stage21.Num.e1, .int .i64 stage21.Num.e2, .int .i64 stage21.Den.e0, .int .i64 stage21.Den.e1, .int .i64 stage21.Den.e2, .slice p22 stage21.Taps.length k23, .int .i64 stage21.Factor, .int .i64 stage21.Shift] 45, .box b58 [.slice p8071 rv8070.2.L.length k8072, .int .i64 rv8070.2.At] 75, .box b8083 [.slice p8076 rv8075.1.Filter.Taps.length k8077, .int .i64 rv8075.1.Filter.Factor, .int .i64 rv8075.1.Filter.Shift, .slice p8080 rv8075.1.Past.length k8081, .int .i64 rv8075.1.Number] 51, .row p8076 rv8075.1.Filter.Taps.length k8077 c8079 3 1] [SlA p10 samples9.length k11 samples9, SlA p99 rv98.1.length k100 rv98.1, SlA p15 feed14.Filter.Taps.length k16 feed14.Filter.Taps, SlA p17 feed14.Past.length k18 feed14.Past, SlA p22 stage21.Taps.length k23 stage21.Taps, SlA p8071 rv8070.2.L.length k8072 rv8070.2.L, SlA p8080 rv8075.1.Past.length k8081 rv8075.1.Past, RowA c8079 rv8075.1.Filter.Taps] w) ?_ ?_
         ·refine h_b (C := Cls [.box b26 [.slice p15 feed14.Filter.Taps.length k16, .int .i64 feed14.Filter.Factor, .int .i64 feed14.Filter.Shift, .slice p17 feed14.Past.length k18, .int .i64 feed14.Number] 51, .box b27 [.int .i64 stage21.Kind, .int .i64 stage21.Num.e0, .int .i64 stage21.Num.e1, .int .i64 stage21.Num.e2, .int .i64 stage21.Den.e0, .int .i64 stage21.Den.e1, .int .i64 stage21.Den.e2, .slice p22 stage21.Taps.length k23, .int .i64 stage21.Factor, .int .i64 stage21.Shift] 45, .box b95 [.slice p69 rv68.1.Taps.length k70, .int .i64 rv68.1.Factor, .int .i64 rv68.1.Shift] 28, .box b96 [.slice p83 rv82.1.Taps.length k84, .int .i64 rv82.1.Factor, .int .i64 rv82.1.Shift] 28, .row (some ⟨b121, 0, none⟩) ([rv68.1, rv112.1, raw5] : List Filter).length ([rv68.1, rv112.1, raw5] : List Filter).length [.slice p69 rv68.1.Taps.length k70, .int .i64 rv68.1.Factor, .int .i64 rv68.1.Shift, .slice p113 rv112.1.Taps.length k114, .int .i64 rv112.1.Factor, .int .i64 rv112.1.Shift, .slice p6 raw5.Taps.length k7, .int .i64 raw5.Factor, .int .i64 raw5.Shift] 28 3] []) (by kernel_rfl) rfl (hw.drew.cs [0, 1, 3, 4, 5] [] rfl rfl) fun hC => ?_
          have hw := hw.drew
          refine h_g hs 0 rfl (by kernel_rfl) rfl rfl hC rfl (fun w hC => y_loadBA (hC.ownAt 2 rfl) rfl Try.isAgg28 Try.sizeOf28 rfl rfl) fun a hs => ?_
          refine h_g hs 1 rfl (by kernel_rfl) rfl rfl hC rfl (fun w hC => y_move rfl) fun a hs => ?_
          refine h_all (rs := [2, 7]) (by kernel_rfl) rfl ?_
          refine AllH.cons rfl ?_ ?_
          ·refine st_callR hs (made_Dice_Next_ok h8069 hw.dom (hw.ins [2] (by decide) rfl) (hw.envAt 5 rfl)) (do_call Try.call15 rfl) trivial rfl rfl ?_
           intro v8088 Sv8085 w a h8086 h8087 hs
           obtain ⟨p8071, k8072, rfl, h8089, h8073⟩ := h8087
           have hw := hw.callO [2] [0, 1, 3, 4, 5] (by decide) rfl h8086 h8089
           have hw := hw.addE (e := SlA p8071 rv8070.2.L.length k8072 rv8070.2.L) h8073
           refine h_nx (hw.cs [1, 2, 3, 4, 5] [] rfl rfl) fun hC => ?_
           refine h_all (rs := [3, 7]) (by kernel_rfl) rfl ?_
           refine AllH.cons rfl ?_ ?_
           ·refine st_callR hs (ref21_Start_ok h8074 hw.dom (hw.envAt 7 rfl)) (do_call Try.call34 rfl) trivial rfl rfl ?_
            intro v8093 Sv8090 w a h8091 h8092 hs
            obtain ⟨p8076, k8077, c8079, p8080, k8081, rfl, h8094, h8078, h8082⟩ := h8092
            have hw := hw.callN h8091 h8094
            have hw := hw.addE (e := RowA c8079 rv8075.1.Filter.Taps) h8078
            have hw := hw.addE (e := SlA p8080 rv8075.1.Past.length k8081 rv8075.1.Past) h8082
            refine h_nx (hw.cs [2, 3, 4, 5, 6] [] rfl rfl) fun hC => ?_
            refine h_st (C' := Cls [.box b26 [.slice p15 feed14.Filter.Taps.length k16, .int .i64 feed14.Filter.Factor, .int .i64 feed14.Filter.Shift, .slice p17 feed14.Past.length k18, .int .i64 feed14.Number] 51, .box b27 [.int .i64 stage21.Kind, .int .i64 stage21.Num.e0, .int .i64 stage21.Num.e1, .int .i64 stage21.Num.e2, .int .i64 stage21.Den.e0, .int .i64 stage21.Den.e1, .int .i64 stage21.Den.e2, .slice p22 stage21.Taps.length k23, .int .i64 stage21.Factor, .int .i64 stage21.Shift] 45, .box b95 [.slice p69 rv68.1.Taps.length k70, .int .i64 rv68.1.Factor, .int .i64 rv68.1.Shift] 28, .box b96 [.slice p83 rv82.1.Taps.length k84, .int .i64 rv82.1.Factor, .int .i64 rv82.1.Shift] 28, .row (some ⟨b121, 0, none⟩) ([rv68.1, rv112.1, raw5] : List Filter).length ([rv68.1, rv112.1, raw5] : List Filter).length [.slice p69 rv68.1.Taps.length k70, .int .i64 rv68.1.Factor, .int .i64 rv68.1.Shift, .slice p113 rv112.1.Taps.length k114, .int .i64 rv112.1.Factor, .int .i64 rv112.1.Shift, .slice p6 raw5.Taps.length k7, .int .i64 raw5.Factor, .int .i64 raw5.Shift] 28 3, .row p8076 rv8075.1.Filter.Taps.length k8077 c8079 3 1] []) (fun _ h => by exact h.sub [0, 1, 2, 3, 4] (Sel.of rfl) (AllIn.of [] rfl)) (hw.cs [2, 3, 4, 5, 6, 0] [] rfl rfl) fun hC => ?_
            refine h_g hs 4 rfl (by kernel_rfl) rfl rfl hC rfl (fun w hC => y_move rfl) fun a hs => ?_
            refine h_g hs 5 rfl (by kernel_rfl) rfl rfl hC rfl (fun w hC => y_extract rfl rfl) fun a hs => ?_
            refine h_g hs 6 rfl (by kernel_rfl) rfl rfl hC rfl (fun w hC => y_extract rfl rfl) fun a hs => ?_
            refine h_one (i := 7) (by kernel_rfl) rfl ?_
            refine w_alloc (cs := [.slice none ([] : List Int).length 0, .int .i64 0, .int .i64 0, .slice none ([] : List Int).length 0, .int .i64 0]) hs hw Try.zeroValue51 rfl rfl trivial ?_
            intro b8083 a w hs hw
            refine h_nx (hw.cs [3, 4, 5, 6, 7, 1] [] rfl rfl) fun hC => ?_
            refine h_one (i := 8) (by kernel_rfl) rfl ?_
            refine w_store (m := 5) (cs' := [.slice p8076 rv8075.1.Filter.Taps.length k8077, .int .i64 rv8075.1.Filter.Factor, .int .i64 rv8075.1.Filter.Shift, .slice p8080 rv8075.1.Past.length k8081, .int .i64 rv8075.1.Number]) hs hw 0 rfl rfl rfl Try.sizeOf51 rfl rfl rfl rfl trivial ?_
            intro a w hs hw
            refine h_nx (hw.cs [3, 4, 5, 6, 7, 1] [] rfl rfl) fun hC => ?_
            refine h_g hs 9 rfl (by kernel_rfl) rfl rfl hC rfl (fun w hC => y_assign rfl) fun a hs => ?_
            refine h_done (by kernel_rfl) ?_
            exact ⟨Sv8090, b8083, c8079, k8072, k8077, k8081, p8071, p8076, p8080, (hs.wk rfl), (hw.ft [3, 4, 2, 0, 1] [3, 4, 5, 6, 7, 2, 0, 1] (by decide) rfl rfl)⟩
           refine AllH.cons rfl ?_ ?_
           ·refine w_alloc (cs := [.slice none ([] : List Int).length 0, .int .i64 0, .int .i64 0, .slice none ([] : List Int).length 0, .int .i64 0]) hs hw Try.zeroValue51 rfl rfl trivial ?_
            intro b8083 a w hs hw
            refine h_nx (hw.cs [2, 3, 4, 5, 6] [] rfl rfl) fun hC => ?_
            refine h_one (i := 3) (by kernel_rfl) rfl ?_
            refine st_callR hs (ref21_Start_ok h8074 hw.dom (hw.envAt 7 rfl)) (do_call Try.call34 rfl) trivial rfl rfl ?_
            intro v8098 Sv8095 w a h8096 h8097 hs
            obtain ⟨p8076, k8077, c8079, p8080, k8081, rfl, h8099, h8078, h8082⟩ := h8097
            have hw := hw.callN h8096 h8099
            have hw := hw.addE (e := RowA c8079 rv8075.1.Filter.Taps) h8078
            have hw := hw.addE (e := SlA p8080 rv8075.1.Past.length k8081 rv8075.1.Past) h8082
            refine h_nx (hw.cs [3, 4, 5, 6, 7] [] rfl rfl) fun hC => ?_
            refine h_st (C' := Cls [.box b26 [.slice p15 feed14.Filter.Taps.length k16, .int .i64 feed14.Filter.Factor, .int .i64 feed14.Filter.Shift, .slice p17 feed14.Past.length k18, .int .i64 feed14.Number] 51, .box b27 [.int .i64 stage21.Kind, .int .i64 stage21.Num.e0, .int .i64 stage21.Num.e1, .int .i64 stage21.Num.e2, .int .i64 stage21.Den.e0, .int .i64 stage21.Den.e1, .int .i64 stage21.Den.e2, .slice p22 stage21.Taps.length k23, .int .i64 stage21.Factor, .int .i64 stage21.Shift] 45, .box b95 [.slice p69 rv68.1.Taps.length k70, .int .i64 rv68.1.Factor, .int .i64 rv68.1.Shift] 28, .box b96 [.slice p83 rv82.1.Taps.length k84, .int .i64 rv82.1.Factor, .int .i64 rv82.1.Shift] 28, .row (some ⟨b121, 0, none⟩) ([rv68.1, rv112.1, raw5] : List Filter).length ([rv68.1, rv112.1, raw5] : List Filter).length [.slice p69 rv68.1.Taps.length k70, .int .i64 rv68.1.Factor, .int .i64 rv68.1.Shift, .slice p113 rv112.1.Taps.length k114, .int .i64 rv112.1.Factor, .int .i64 rv112.1.Shift, .slice p6 raw5.Taps.length k7, .int .i64 raw5.Factor, .int .i64 raw5.Shift] 28 3, .row p8076 rv8075.1.Filter.Taps.length k8077 c8079 3 1] []) (fun _ h => by exact h.sub [0, 1, 2, 3, 4] (Sel.of rfl) (AllIn.of [] rfl)) (hw.cs [3, 4, 5, 6, 7, 0] [] rfl rfl) fun hC => ?_
            refine h_g hs 4 rfl (by kernel_rfl) rfl rfl hC rfl (fun w hC => y_move rfl) fun a hs => ?_
            refine h_g hs 5 rfl (by kernel_rfl) rfl rfl hC rfl (fun w hC => y_extract rfl rfl) fun a hs => ?_
            refine h_g hs 6 rfl (by kernel_rfl) rfl rfl hC rfl (fun w hC => y_extract rfl rfl) fun a hs => ?_
            refine h_one (i := 8) (by kernel_rfl) rfl ?_
            refine w_store (m := 5) (cs' := [.slice p8076 rv8075.1.Filter.Taps.length k8077, .int .i64 rv8075.1.Filter.Factor, .int .i64 rv8075.1.Filter.Shift, .slice p8080 rv8075.1.Past.length k8081, .int .i64 rv8075.1.Number]) hs hw 1 rfl rfl rfl Try.sizeOf51 rfl rfl rfl rfl trivial ?_
            intro a w hs hw
            refine h_nx (hw.cs [3, 4, 5, 6, 7, 0] [] rfl rfl) fun hC => ?_
            refine h_g hs 9 rfl (by kernel_rfl) rfl rfl hC rfl (fun w hC => y_assign rfl) fun a hs => ?_
            refine h_done (by kernel_rfl) ?_
            exact ⟨Sv8095, b8083, c8079, k8072, k8077, k8081, p8071, p8076, p8080, (hs.wk rfl), (hw.ft [3, 4, 2, 1, 0] [3, 4, 5, 6, 7, 2, 0, 1] (by decide) rfl rfl)⟩
           exact AllH.nil
          refine AllH.cons rfl ?_ ?_
          ·refine w_alloc (cs := [.slice none ([] : List Int).length 0, .int .i64 0, .int .i64 0, .slice none ([] : List Int).length 0, .int .i64 0]) hs hw Try.zeroValue51 rfl rfl trivial ?_
           intro b8083 a w hs hw
           refine h_nx (hw.cs [1, 2, 4, 5, 6] [] rfl rfl) fun hC => ?_
           refine h_one (i := 2) (by kernel_rfl) rfl ?_
           refine st_callR hs (made_Dice_Next_ok h8069 hw.dom (hw.ins [3] (by decide) rfl) (hw.envAt 5 rfl)) (do_call Try.call15 rfl) trivial rfl rfl ?_
           intro v8103 Sv8100 w a h8101 h8102 hs
           obtain ⟨p8071, k8072, rfl, h8104, h8073⟩ := h8102
           have hw := hw.callO [3] [0, 1, 2, 4, 5, 6] (by decide) rfl h8101 h8104
           have hw := hw.addE (e := SlA p8071 rv8070.2.L.length k8072 rv8070.2.L) h8073
           refine h_nx (hw.cs [2, 3, 4, 5, 6] [] rfl rfl) fun hC => ?_
           refine h_one (i := 3) (by kernel_rfl) rfl ?_
           refine st_callR hs (ref21_Start_ok h8074 hw.dom (hw.envAt 7 rfl)) (do_call Try.call34 rfl) trivial rfl rfl ?_
           intro v8108 Sv8105 w a h8106 h8107 hs
           obtain ⟨p8076, k8077, c8079, p8080, k8081, rfl, h8109, h8078, h8082⟩ := h8107
           have hw := hw.callN h8106 h8109
           have hw := hw.addE (e := RowA c8079 rv8075.1.Filter.Taps) h8078
           have hw := hw.addE (e := SlA p8080 rv8075.1.Past.length k8081 rv8075.1.Past) h8082
           refine h_nx (hw.cs [3, 4, 5, 6, 7] [] rfl rfl) fun hC => ?_
           refine h_st (C' := Cls [.box b26 [.slice p15 feed14.Filter.Taps.length k16, .int .i64 feed14.Filter.Factor, .int .i64 feed14.Filter.Shift, .slice p17 feed14.Past.length k18, .int .i64 feed14.Number] 51, .box b27 [.int .i64 stage21.Kind, .int .i64 stage21.Num.e0, .int .i64 stage21.Num.e1, .int .i64 stage21.Num.e2, .int .i64 stage21.Den.e0, .int .i64 stage21.Den.e1, .int .i64 stage21.Den.e2, .slice p22 stage21.Taps.length k23, .int .i64 stage21.Factor, .int .i64 stage21.Shift] 45, .box b95 [.slice p69 rv68.1.Taps.length k70, .int .i64 rv68.1.Factor, .int .i64 rv68.1.Shift] 28, .box b96 [.slice p83 rv82.1.Taps.length k84, .int .i64 rv82.1.Factor, .int .i64 rv82.1.Shift] 28, .row (some ⟨b121, 0, none⟩) ([rv68.1, rv112.1, raw5] : List Filter).length ([rv68.1, rv112.1, raw5] : List Filter).length [.slice p69 rv68.1.Taps.length k70, .int .i64 rv68.1.Factor, .int .i64 rv68.1.Shift, .slice p113 rv112.1.Taps.length k114, .int .i64 rv112.1.Factor, .int .i64 rv112.1.Shift, .slice p6 raw5.Taps.length k7, .int .i64 raw5.Factor, .int .i64 raw5.Shift] 28 3, .row p8076 rv8075.1.Filter.Taps.length k8077 c8079 3 1] []) (fun _ h => by exact h.sub [0, 1, 2, 3, 4] (Sel.of rfl) (AllIn.of [] rfl)) (hw.cs [3, 4, 5, 6, 7, 0] [] rfl rfl) fun hC => ?_
           refine h_g hs 4 rfl (by kernel_rfl) rfl rfl hC rfl (fun w hC => y_move rfl) fun a hs => ?_
           refine h_g hs 5 rfl (by kernel_rfl) rfl rfl hC rfl (fun w hC => y_extract rfl rfl) fun a hs => ?_
           refine h_g hs 6 rfl (by kernel_rfl) rfl rfl hC rfl (fun w hC => y_extract rfl rfl) fun a hs => ?_
           refine h_one (i := 8) (by kernel_rfl) rfl ?_
           refine w_store (m := 5) (cs' := [.slice p8076 rv8075.1.Filter.Taps.length k8077, .int .i64 rv8075.1.Filter.Factor, .int .i64 rv8075.1.Filter.Shift, .slice p8080 rv8075.1.Past.length k8081, .int .i64 rv8075.1.Number]) hs hw 2 rfl rfl rfl Try.sizeOf51 rfl rfl rfl rfl trivial ?_
           intro a w hs hw
           refine h_nx (hw.cs [3, 4, 5, 6, 7, 0] [] rfl rfl) fun hC => ?_
           refine h_g hs 9 rfl (by kernel_rfl) rfl rfl hC rfl (fun w hC => y_assign rfl) fun a hs => ?_
           refine h_done (by kernel_rfl) ?_
           exact ⟨Sv8105, b8083, c8079, k8072, k8077, k8081, p8071, p8076, p8080, (hs.wk rfl), (hw.ft [3, 4, 1, 2, 0] [3, 4, 5, 6, 7, 2, 0, 1] (by decide) rfl rfl)⟩
          exact AllH.nil
         ·rintro a w ⟨Sv8084, b8083, c8079, k8072, k8077, k8081, p8071, p8076, p8080, hs, hw⟩
          refine then_normal ?_
          refine wp_seq ?_
          obtain ⟨rv8111, h8110, hsh⟩ := bind_t hsh
          obtain ⟨rv8120, h8119, hsh⟩ := bind_t hsh
          refine wp_only (fun a w => ∃ (Sv8133 : Nat → Prop) (c8124 : List Value) (c8128 : List Value) (k8117 : Nat) (k8122 : Nat) (k8126 : Nat) (p8116 : Option Addr) (p8121 : Option Addr) (p8125 : Option Addr), Sl 306 [(2, .slice p10 samples9.length k11), (10, .pointer (some ⟨b26, 0, none⟩)), (11, .pointer (some ⟨b27, 0, none⟩)), (13, .pointer (some ⟨b58, 0, none⟩)), (16, .slice p99 rv98.1.length k100), (35, .pointer (some ⟨b8083, 0, none⟩))] a ∧ Wd ⟨w0, S0, []⟩ Sv8133 [.box b26 [.slice p15 feed14.Filter.Taps.length k16, .int .i64 feed14.Filter.Factor, .int .i64 feed14.Filter.Shift, .slice p17 feed14.Past.length k18, .int .i64 feed14.Number] 51, .box b27 [.int .i64 stage21.Kind, .int .i64 stage21.Num.e0, .int .i64 stage21.Num.e1, .int .i64 stage21.Num.e2, .int .i64 stage21.Den.e0, .int .i64 stage21.Den.e1, .int .i64 stage21.Den.e2, .slice p22 stage21.Taps.length k23, .int .i64 stage21.Factor, .int .i64 stage21.Shift] 45, .box b58 [.slice p8116 rv8111.2.L.length k8117, .int .i64 rv8111.2.At] 75, .box b8083 [.slice p8121 rv8120.1.Filter.Taps.length k8122, .int .i64 rv8120.1.Filter.Factor, .int .i64 rv8120.1.Filter.Shift, .slice p8125 rv8120.1.Past.length k8126, .int .i64 rv8120.1.Number] 51, .row p8121 rv8120.1.Filter.Taps.length k8122 c8124 3 1, .row p8125 rv8120.1.Past.length k8126 c8128 3 1] [SlA p10 samples9.length k11 samples9, SlA p99 rv98.1.length k100 rv98.1, SlA p15 feed14.Filter.Taps.length k16 feed14.Filter.Taps, SlA p17 feed14.Past.length k18 feed14.Past, SlA p22 stage21.Taps.length k23 stage21.Taps, SlA p8116 rv8111.2.L.length k8117 rv8111.2.L, RowA c8124 rv8120.1.Filter.Taps, RowA c8128 rv8120.1.Past] w) ?_ ?_
          ·refine h_b (C := Cls [.box b26 [.slice p15 feed14.Filter.Taps.length k16, .int .i64 feed14.Filter.Factor, .int .i64 feed14.Filter.Shift, .slice p17 feed14.Past.length k18, .int .i64 feed14.Number] 51, .box b27 [.int .i64 stage21.Kind, .int .i64 stage21.Num.e0, .int .i64 stage21.Num.e1, .int .i64 stage21.Num.e2, .int .i64 stage21.Den.e0, .int .i64 stage21.Den.e1, .int .i64 stage21.Den.e2, .slice p22 stage21.Taps.length k23, .int .i64 stage21.Factor, .int .i64 stage21.Shift] 45] []) (by kernel_rfl) rfl (hw.drew.cs [0, 1] [] rfl rfl) fun hC => ?_
           have hw := hw.drew
           refine h_g hs 1 rfl (by kernel_rfl) rfl rfl hC rfl (fun w hC => y_move rfl) fun a hs => ?_
           refine h_all (rs := [0, 2]) (by kernel_rfl) rfl ?_
           refine AllH.cons rfl ?_ ?_
           ·refine st_val hs (y_loadBA (hw.ownAt 3 rfl) rfl Try.isAgg51 Try.sizeOf51 rfl rfl) trivial rfl rfl fun a hs => ?_
            refine h_nx (hw.cs [0, 1] [] rfl rfl) fun hC => ?_
            refine h_one (i := 2) (by kernel_rfl) rfl ?_
            refine st_callR hs (made_Dice_Samples_ok h8110 hw.dom (hw.ins [2] (by decide) rfl) (hw.envAt 5 rfl)) (do_call Try.call16 rfl) trivial rfl rfl ?_
            intro v8137 Sv8134 w a h8135 h8136 hs
            obtain ⟨p8112, k8113, c8115, p8116, k8117, rfl, h8138, h8114, h8118⟩ := h8136
            have hw := hw.callO [2] [0, 1, 3, 4] (by decide) rfl h8135 h8138
            have hw := hw.addE (e := RowA c8115 rv8111.1) h8114
            have hw := hw.addE (e := SlA p8116 rv8111.2.L.length k8117 rv8111.2.L) h8118
            refine h_nx (hw.cs [2, 3] [] rfl rfl) fun hC => ?_
            refine h_one (i := 3) (by kernel_rfl) rfl ?_
            obtain ⟨Sv8139, hw⟩ := w_share (α := Int) hw 5 rfl 9 rfl
            obtain ⟨Sv8140, hw⟩ := w_share (α := Int) hw 0 rfl 2 rfl
            refine st_callR hs (ref21_Push_ok h8119 hw.dom (hw.envAt 1 rfl) (hw.envAt 10 rfl) (hw.envAt 0 rfl)) (do_call Try.call36 rfl) trivial rfl rfl ?_
            intro v8144 Sv8141 w a h8142 h8143 hs
            obtain ⟨p8121, k8122, c8124, p8125, k8126, c8128, p8129, k8130, c8132, rfl, h8145, h8123, h8127, h8131⟩ := h8143
            have hw := hw.callN h8142 h8145
            have hw := hw.addE (e := RowA c8124 rv8120.1.Filter.Taps) h8123
            have hw := hw.addE (e := RowA c8128 rv8120.1.Past) h8127
            have hw := hw.addE (e := RowA c8132 rv8120.2.1) h8131
            refine h_nx (hw.cs [4, 5] [] rfl rfl) fun hC => ?_
            refine h_st (C' := Cls [.box b26 [.slice p15 feed14.Filter.Taps.length k16, .int .i64 feed14.Filter.Factor, .int .i64 feed14.Filter.Shift, .slice p17 feed14.Past.length k18, .int .i64 feed14.Number] 51, .box b27 [.int .i64 stage21.Kind, .int .i64 stage21.Num.e0, .int .i64 stage21.Num.e1, .int .i64 stage21.Num.e2, .int .i64 stage21.Den.e0, .int .i64 stage21.Den.e1, .int .i64 stage21.Den.e2, .slice p22 stage21.Taps.length k23, .int .i64 stage21.Factor, .int .i64 stage21.Shift] 45, .row p8121 rv8120.1.Filter.Taps.length k8122 c8124 3 1, .row p8125 rv8120.1.Past.length k8126 c8128 3 1, .row p8129 rv8120.2.1.length k8130 c8132 3 1] []) (fun _ h => by exact h.sub [0, 1] (Sel.of rfl) (AllIn.of [] rfl)) (hw.cs [4, 5, 0, 1, 2] [] rfl rfl) fun hC => ?_
            refine h_g hs 4 rfl (by kernel_rfl) rfl rfl hC rfl (fun w hC => y_move rfl) fun a hs => ?_
            refine h_g hs 5 rfl (by kernel_rfl) rfl rfl hC rfl (fun w hC => y_extract rfl rfl) fun a hs => ?_
            refine h_g hs 6 rfl (by kernel_rfl) rfl rfl hC rfl (fun w hC => y_extract rfl rfl) fun a hs => ?_
            refine h_g hs 7 rfl (by kernel_rfl) rfl rfl hC rfl (fun w hC => y_extract rfl rfl) fun a hs => ?_
            refine h_one (i := 8) (by kernel_rfl) rfl ?_
            refine w_store (m := 5) (cs' := [.slice p8121 rv8120.1.Filter.Taps.length k8122, .int .i64 rv8120.1.Filter.Factor, .int .i64 rv8120.1.Filter.Shift, .slice p8125 rv8120.1.Past.length k8126, .int .i64 rv8120.1.Number]) hs hw 6 rfl rfl rfl Try.sizeOf51 rfl rfl rfl rfl trivial ?_
            intro a w hs hw
            refine h_nx (hw.cs [4, 5, 0, 1, 2] [] rfl rfl) fun hC => ?_
            refine h_done (by kernel_rfl) ?_
            exact ⟨Sv8141, c8124, c8128, k8117, k8122, k8126, p8116, p8121, p8125, (hs.wk rfl), (hw.ft [4, 5, 3, 6, 0, 1] [7, 8, 9, 10, 11, 5, 2, 1] (by decide) rfl rfl)⟩
           refine AllH.cons rfl ?_ ?_
           ·refine st_callR hs (made_Dice_Samples_ok h8110 hw.dom (hw.ins [2] (by decide) rfl) (hw.envAt 5 rfl)) (do_call Try.call16 rfl) trivial rfl rfl ?_
            intro v8149 Sv8146 w a h8147 h8148 hs
            obtain ⟨p8112, k8113, c8115, p8116, k8117, rfl, h8150, h8114, h8118⟩ := h8148
            have hw := hw.callO [2] [0, 1, 3, 4] (by decide) rfl h8147 h8150
            have hw := hw.addE (e := RowA c8115 rv8111.1) h8114
            have hw := hw.addE (e := SlA p8116 rv8111.2.L.length k8117 rv8111.2.L) h8118
            refine h_nx (hw.cs [2, 3] [] rfl rfl) fun hC => ?_
            refine h_one (i := 0) (by kernel_rfl) rfl ?_
            refine st_val hs (y_loadBA (hw.ownAt 4 rfl) rfl Try.isAgg51 Try.sizeOf51 rfl rfl) trivial rfl rfl fun a hs => ?_
            refine h_nx (hw.cs [2, 3] [] rfl rfl) fun hC => ?_
            refine h_one (i := 3) (by kernel_rfl) rfl ?_
            obtain ⟨Sv8151, hw⟩ := w_share (α := Int) hw 5 rfl 9 rfl
            obtain ⟨Sv8152, hw⟩ := w_share (α := Int) hw 0 rfl 2 rfl
            refine st_callR hs (ref21_Push_ok h8119 hw.dom (hw.envAt 1 rfl) (hw.envAt 10 rfl) (hw.envAt 0 rfl)) (do_call Try.call36 rfl) trivial rfl rfl ?_
            intro v8156 Sv8153 w a h8154 h8155 hs
            obtain ⟨p8121, k8122, c8124, p8125, k8126, c8128, p8129, k8130, c8132, rfl, h8157, h8123, h8127, h8131⟩ := h8155
            have hw := hw.callN h8154 h8157
            have hw := hw.addE (e := RowA c8124 rv8120.1.Filter.Taps) h8123
            have hw := hw.addE (e := RowA c8128 rv8120.1.Past) h8127
            have hw := hw.addE (e := RowA c8132 rv8120.2.1) h8131
            refine h_nx (hw.cs [4, 5] [] rfl rfl) fun hC => ?_
            refine h_st (C' := Cls [.box b26 [.slice p15 feed14.Filter.Taps.length k16, .int .i64 feed14.Filter.Factor, .int .i64 feed14.Filter.Shift, .slice p17 feed14.Past.length k18, .int .i64 feed14.Number] 51, .box b27 [.int .i64 stage21.Kind, .int .i64 stage21.Num.e0, .int .i64 stage21.Num.e1, .int .i64 stage21.Num.e2, .int .i64 stage21.Den.e0, .int .i64 stage21.Den.e1, .int .i64 stage21.Den.e2, .slice p22 stage21.Taps.length k23, .int .i64 stage21.Factor, .int .i64 stage21.Shift] 45, .row p8121 rv8120.1.Filter.Taps.length k8122 c8124 3 1, .row p8125 rv8120.1.Past.length k8126 c8128 3 1, .row p8129 rv8120.2.1.length k8130 c8132 3 1] []) (fun _ h => by exact h.sub [0, 1] (Sel.of rfl) (AllIn.of [] rfl)) (hw.cs [4, 5, 0, 1, 2] [] rfl rfl) fun hC => ?_
            refine h_g hs 4 rfl (by kernel_rfl) rfl rfl hC rfl (fun w hC => y_move rfl) fun a hs => ?_
            refine h_g hs 5 rfl (by kernel_rfl) rfl rfl hC rfl (fun w hC => y_extract rfl rfl) fun a hs => ?_
            refine h_g hs 6 rfl (by kernel_rfl) rfl rfl hC rfl (fun w hC => y_extract rfl rfl) fun a hs => ?_
            refine h_g hs 7 rfl (by kernel_rfl) rfl rfl hC rfl (fun w hC => y_extract rfl rfl) fun a hs => ?_
            refine h_one (i := 8) (by kernel_rfl) rfl ?_
            refine w_store (m := 5) (cs' := [.slice p8121 rv8120.1.Filter.Taps.length k8122, .int .i64 rv8120.1.Filter.Factor, .int .i64 rv8120.1.Filter.Shift, .slice p8125 rv8120.1.Past.length k8126, .int .i64 rv8120.1.Number]) hs hw 6 rfl rfl rfl Try.sizeOf51 rfl rfl rfl rfl trivial ?_
            intro a w hs hw
            refine h_nx (hw.cs [4, 5, 0, 1, 2] [] rfl rfl) fun hC => ?_
            refine h_done (by kernel_rfl) ?_
            exact ⟨Sv8153, c8124, c8128, k8117, k8122, k8126, p8116, p8121, p8125, (hs.wk rfl), (hw.ft [4, 5, 3, 6, 0, 1] [7, 8, 9, 10, 11, 5, 2, 1] (by decide) rfl rfl)⟩
           exact AllH.nil
          ·rintro a w ⟨Sv8133, c8124, c8128, k8117, k8122, k8126, p8116, p8121, p8125, hs, hw⟩
           refine then_normal ?_
           refine wp_seq ?_
           refine wp_region_lit ?_
           refine st_val hs (y_loadBA (hw.ownAt 3 rfl) rfl Try.isAgg51 Try.sizeOf51 rfl rfl) trivial rfl rfl fun a hs => ?_
           refine w_alloc (cs := [.slice none ([] : List Int).length 0, .int .i64 0, .int .i64 0, .slice none ([] : List Int).length 0, .int .i64 0]) hs hw Try.zeroValue51 rfl rfl trivial ?_
           intro b8158 a w hs hw
           refine w_store (m := 5) (cs' := [.slice p8121 rv8120.1.Filter.Taps.length k8122, .int .i64 rv8120.1.Filter.Factor, .int .i64 rv8120.1.Filter.Shift, .slice p8125 rv8120.1.Past.length k8126, .int .i64 rv8120.1.Number]) hs hw 0 rfl rfl rfl Try.sizeOf51 rfl rfl rfl rfl trivial ?_
           intro a w hs hw
           refine wpList_nil ?_
           refine then_normal ?_
           refine wp_seq ?_
           refine wp_region_lit ?_
           refine st_val hs (y_move rfl) trivial rfl rfl fun a hs => ?_
           refine w_litSlice (α := Int) (vs := [.int .i64 0, .int .i64 (-1), .int .i64 18014398509481984, .int .i64 18014398509481985]) (cs := [.int .i64 0, .int .i64 (-1), .int .i64 18014398509481984, .int .i64 18014398509481985]) (xs := ([0, (-1), 18014398509481984, 18014398509481985] : List Int)) hs hw El22 rfl rfl rfl rfl rfl rfl ⟨⟨_, rfl, rfl⟩, ⟨⟨_, rfl, rfl⟩, ⟨⟨_, rfl, rfl⟩, ⟨⟨_, rfl, rfl⟩, rfl⟩⟩⟩⟩ rfl trivial rfl fun b8160 a w hs hw => ?_
           obtain ⟨rv8162, h8161, hsh⟩ := bind_t hsh
           obtain ⟨Sv8166, hw⟩ := w_share (α := Int) hw 0 rfl 0 rfl
           refine st_callR hs (made_Dice_Pick_ok h8161 hw.dom (hw.ins [3] (by decide) rfl) (hw.envAt 7 rfl) (hw.envAt 0 rfl)) (do_call Try.call27 rfl) trivial rfl rfl ?_
           intro v8170 Sv8167 w a h8168 h8169 hs
           obtain ⟨p8163, k8164, rfl, h8171, h8165⟩ := h8169
           have hw := hw.callO [3] [0, 1, 2, 4, 5, 6] (by decide) rfl h8168 h8171
           have hw := hw.addE (e := SlA p8163 rv8162.2.L.length k8164 rv8162.2.L) h8165
           refine st_val hs (y_fieldAddr (o' := 4) Try.runUnderlying51 rfl Try.sizeOf3 rfl rfl rfl) trivial rfl rfl fun a hs => ?_
           refine w_store (m := 1) (cs' := [.slice p8121 rv8120.1.Filter.Taps.length k8122, .int .i64 rv8120.1.Filter.Factor, .int .i64 rv8120.1.Filter.Shift, .slice p8125 rv8120.1.Past.length k8126, .int .i64 rv8162.1]) hs hw 1 rfl rfl rfl Try.sizeOf3 rfl rfl rfl rfl trivial ?_
           intro a w hs hw
           refine wpList_nil ?_
           refine then_normal ?_
           refine wp_seq ?_
           refine wp_seq ?_
           refine wp_region_lit ?_
           refine st_val hs (y_loadBA (hw.ownAt 4 rfl) rfl Try.isAgg51 Try.sizeOf51 rfl rfl) trivial rfl rfl fun a hs => ?_
           refine st_val hs (y_loadBA (hw.ownAt 1 rfl) rfl Try.isAgg51 Try.sizeOf51 rfl rfl) trivial rfl rfl fun a hs => ?_
           refine st_val hs (y_loadBA (hw.ownAt 2 rfl) rfl Try.isAgg51 Try.sizeOf51 rfl rfl) trivial rfl rfl fun a hs => ?_
           obtain ⟨Sv8174, hw⟩ := w_share (α := Int) hw 5 rfl 9 rfl
           obtain ⟨Sv8175, hw⟩ := w_share (α := Int) hw 5 rfl 11 rfl
           refine w_litSlice (α := Feed) (vs := [.agg #[.slice p8121 rv8120.1.Filter.Taps.length k8122, .int .i64 rv8120.1.Filter.Factor, .int .i64 rv8120.1.Filter.Shift, .slice p8125 rv8120.1.Past.length k8126, .int .i64 rv8120.1.Number], .agg #[.slice p8121 rv8120.1.Filter.Taps.length k8122, .int .i64 rv8120.1.Filter.Factor, .int .i64 rv8120.1.Filter.Shift, .slice p8125 rv8120.1.Past.length k8126, .int .i64 rv8162.1], .agg #[.slice p15 feed14.Filter.Taps.length k16, .int .i64 feed14.Filter.Factor, .int .i64 feed14.Filter.Shift, .slice p17 feed14.Past.length k18, .int .i64 feed14.Number]]) (cs := [.slice p8121 rv8120.1.Filter.Taps.length k8122, .int .i64 rv8120.1.Filter.Factor, .int .i64 rv8120.1.Filter.Shift, .slice p8125 rv8120.1.Past.length k8126, .int .i64 rv8120.1.Number, .slice p8121 rv8120.1.Filter.Taps.length k8122, .int .i64 rv8120.1.Filter.Factor, .int .i64 rv8120.1.Filter.Shift, .slice p8125 rv8120.1.Past.length k8126, .int .i64 rv8162.1, .slice p15 feed14.Filter.Taps.length k16, .int .i64 feed14.Filter.Factor, .int .i64 feed14.Filter.Shift, .slice p17 feed14.Past.length k18, .int .i64 feed14.Number]) (xs := ([rv8120.1, (⟨rv8120.1.Filter, rv8120.1.Past, rv8162.1⟩ : Feed), feed14] : List Feed)) hs hw El70 rfl rfl rfl rfl rfl rfl ⟨⟨_, _, _, _, _, rfl, ⟨_, _, _, rfl, hw.envAt 1 rfl⟩, rfl, rfl, ⟨_, _, _, rfl, hw.envAt 0 rfl⟩, rfl⟩, ⟨⟨_, _, _, _, _, rfl, ⟨_, _, _, rfl, hw.envAt 1 rfl⟩, rfl, rfl, ⟨_, _, _, rfl, hw.envAt 0 rfl⟩, rfl⟩, ⟨⟨_, _, _, _, _, rfl, ⟨_, _, _, rfl, hw.envAt 7 rfl⟩, rfl, rfl, ⟨_, _, _, rfl, hw.envAt 8 rfl⟩, rfl⟩, rfl⟩⟩⟩ rfl trivial rfl fun b8173 a w hs hw => ?_
           refine st_val hs (y_len Try.runUnderlying70 rfl) trivial rfl rfl fun a hs => ?_
           refine st_val hs (y_move rfl) trivial rfl rfl fun a hs => ?_
           refine wpList_nil ?_
           refine then_normal ?_
           refine wp_block ?_
           refine wp_while (fun sv8853 a w => ∃ (Sv9303 : Nat → Prop), Sl 306 [(2, .slice p10 samples9.length k11), (11, .pointer (some ⟨b27, 0, none⟩)), (13, .pointer (some ⟨b58, 0, none⟩)), (16, .slice p99 rv98.1.length k100), (224, .slice (some ⟨b8173, 0, none⟩) ([rv8120.1, (⟨rv8120.1.Filter, rv8120.1.Past, rv8162.1⟩ : Feed), feed14] : List Feed).length ([rv8120.1, (⟨rv8120.1.Filter, rv8120.1.Past, rv8162.1⟩ : Feed), feed14] : List Feed).length), (225, .int .i64 (([rv8120.1, (⟨rv8120.1.Filter, rv8120.1.Past, rv8162.1⟩ : Feed), feed14] : List Feed).length : Int)), (226, .int .i64 sv8853)] a ∧ Wd ⟨w0, S0, []⟩ Sv9303 [.box b27 [.int .i64 stage21.Kind, .int .i64 stage21.Num.e0, .int .i64 stage21.Num.e1, .int .i64 stage21.Num.e2, .int .i64 stage21.Den.e0, .int .i64 stage21.Den.e1, .int .i64 stage21.Den.e2, .slice p22 stage21.Taps.length k23, .int .i64 stage21.Factor, .int .i64 stage21.Shift] 45, .box b58 [.slice p8163 rv8162.2.L.length k8164, .int .i64 rv8162.2.At] 75, .row (some ⟨b8173, 0, none⟩) ([rv8120.1, (⟨rv8120.1.Filter, rv8120.1.Past, rv8162.1⟩ : Feed), feed14] : List Feed).length ([rv8120.1, (⟨rv8120.1.Filter, rv8120.1.Past, rv8162.1⟩ : Feed), feed14] : List Feed).length [.slice p8121 rv8120.1.Filter.Taps.length k8122, .int .i64 rv8120.1.Filter.Factor, .int .i64 rv8120.1.Filter.Shift, .slice p8125 rv8120.1.Past.length k8126, .int .i64 rv8120.1.Number, .slice p8121 rv8120.1.Filter.Taps.length k8122, .int .i64 rv8120.1.Filter.Factor, .int .i64 rv8120.1.Filter.Shift, .slice p8125 rv8120.1.Past.length k8126, .int .i64 rv8162.1, .slice p15 feed14.Filter.Taps.length k16, .int .i64 feed14.Filter.Factor, .int .i64 feed14.Filter.Shift, .slice p17 feed14.Past.length k18, .int .i64 feed14.Number] 51 5] [SlA p10 samples9.length k11 samples9, SlA p99 rv98.1.length k100 rv98.1, SlA p22 stage21.Taps.length k23 stage21.Taps, SlA p8163 rv8162.2.L.length k8164 rv8162.2.L, RowA [.slice p8121 rv8120.1.Filter.Taps.length k8122, .int .i64 rv8120.1.Filter.Factor, .int .i64 rv8120.1.Filter.Shift, .slice p8125 rv8120.1.Past.length k8126, .int .i64 rv8120.1.Number, .slice p8121 rv8120.1.Filter.Taps.length k8122, .int .i64 rv8120.1.Filter.Factor, .int .i64 rv8120.1.Filter.Shift, .slice p8125 rv8120.1.Past.length k8126, .int .i64 rv8162.1, .slice p15 feed14.Filter.Taps.length k16, .int .i64 feed14.Filter.Factor, .int .i64 feed14.Filter.Shift, .slice p17 feed14.Past.length k18, .int .i64 feed14.Number] ([rv8120.1, (⟨rv8120.1.Filter, rv8120.1.Past, rv8162.1⟩ : Feed), feed14] : List Feed)] w) 0 hsh ⟨Sv8175, (hs.wk rfl), (hw.ft [4, 1, 0] [6, 7, 10, 3, 0] (by decide) rfl rfl)⟩ ?_
           repeat clear hsh
           rintro sv8853 a w tv9529 ⟨Sv9303, hs, hw⟩ hsh hd9528
           delta law21_FilterExact_l48 at hsh
           refine wp_seq ?_
           refine wp_region_lit ?_
           refine st_val hs (y_lss rfl rfl) trivial rfl rfl fun a hs => ?_
           refine wpList_nil ?_
           refine then_normal ?_
           refine wp_seq ?_
           refine wp_cond_split (hs.ev rfl) (fun h9533 => ?_) (fun h9533 => ?_)
           ·have hsh := ite_t hsh h9533
            refine wp_skip ?_
            refine then_normal ?_
            refine wp_seq ?_
            refine wp_block ?_
            refine wp_seq ?_
            refine wp_region_lit ?_
            obtain ⟨x9759, h9757, hsh⟩ := bind_t hsh
            obtain ⟨q9763, c9764, h9760, h9761, h9765, h9758⟩ := hw.elemRK (α := Feed) 2 rfl 4 rfl h9757
            obtain ⟨_, _, _, _, _, rfl, ⟨p9766, n9767, k9768, rfl, h9769⟩, rfl, rfl, ⟨p9770, n9771, k9772, rfl, h9773⟩, rfl⟩ := h9758
            obtain rfl := h9769.1
            have hw := hw.addE (e := SlA p9766 _ k9768 x9759.Filter.Taps) h9769
            obtain rfl := h9773.1
            have hw := hw.addE (e := SlA p9770 _ k9772 x9759.Past) h9773
            refine st_val hs (y_indexAt Try.runUnderlying70 Try.sizeOf51 rfl rfl h9760.1 h9760.2 h9761) trivial rfl rfl fun a hs => ?_
            refine st_val hs (y_loadQA (j := 0) (hw.ownAt 2 rfl) rfl Try.isAgg51 Try.sizeOf51 h9765 rfl rfl) trivial rfl rfl fun a hs => ?_
            refine w_alloc (cs := [.slice none ([] : List Int).length 0, .int .i64 0, .int .i64 0, .slice none ([] : List Int).length 0, .int .i64 0]) hs hw Try.zeroValue51 rfl rfl trivial ?_
            intro b9774 a w hs hw
            refine w_store (m := 5) (cs' := [.slice p9766 x9759.Filter.Taps.length k9768, .int .i64 x9759.Filter.Factor, .int .i64 x9759.Filter.Shift, .slice p9770 x9759.Past.length k9772, .int .i64 x9759.Number]) hs hw 0 rfl rfl rfl Try.sizeOf51 rfl rfl rfl rfl trivial ?_
            intro a w hs hw
            refine wpList_nil ?_
            refine then_normal ?_
            refine wp_seq ?_
            refine wp_region_lit ?_
            refine st_val hs (y_move rfl) trivial rfl rfl fun a hs => ?_
            refine st_val hs (y_move rfl) trivial rfl rfl fun a hs => ?_
            have hw := hw.addE (e := SlA (α := Int) none 0 0 []) nil_sl
            refine w_litSlice (α := (List Int)) (vs := [.slice p99 rv98.1.length k100, .slice p10 samples9.length k11, .slice none ([] : List Int).length 0]) (cs := [.slice p99 rv98.1.length k100, .slice p10 samples9.length k11, .slice none ([] : List Int).length 0]) (xs := ([rv98.1, samples9, ([] : List Int)] : List (List Int))) hs hw El69 rfl rfl rfl rfl rfl rfl ⟨⟨_, rfl, ⟨_, _, _, rfl, hw.envAt 4 rfl⟩⟩, ⟨⟨_, rfl, ⟨_, _, _, rfl, hw.envAt 3 rfl⟩⟩, ⟨⟨_, rfl, ⟨_, _, _, rfl, hw.envAt 0 rfl⟩⟩, rfl⟩⟩⟩ rfl trivial rfl fun b9776 a w hs hw => ?_
            refine st_val hs (y_len Try.runUnderlying69 rfl) trivial rfl rfl fun a hs => ?_
            refine st_val hs (y_move rfl) trivial rfl rfl fun a hs => ?_
            refine wpList_nil ?_
            refine then_normal ?_
            refine wp_block ?_
            refine wp_while (fun sv9980 a w => ∃ (Sv10114 : Nat → Prop), Sl 306 [(2, .slice p10 samples9.length k11), (11, .pointer (some ⟨b27, 0, none⟩)), (13, .pointer (some ⟨b58, 0, none⟩)), (16, .slice p99 rv98.1.length k100), (39, .pointer (some ⟨b9774, 0, none⟩)), (224, .slice (some ⟨b8173, 0, none⟩) ([rv8120.1, (⟨rv8120.1.Filter, rv8120.1.Past, rv8162.1⟩ : Feed), feed14] : List Feed).length ([rv8120.1, (⟨rv8120.1.Filter, rv8120.1.Past, rv8162.1⟩ : Feed), feed14] : List Feed).length), (225, .int .i64 (([rv8120.1, (⟨rv8120.1.Filter, rv8120.1.Past, rv8162.1⟩ : Feed), feed14] : List Feed).length : Int)), (226, .int .i64 sv8853), (232, .slice (some ⟨b9776, 0, none⟩) ([rv98.1, samples9, ([] : List Int)] : List (List Int)).length ([rv98.1, samples9, ([] : List Int)] : List (List Int)).length), (233, .int .i64 (([rv98.1, samples9, ([] : List Int)] : List (List Int)).length : Int)), (234, .int .i64 sv9980)] a ∧ Wd ⟨w0, S0, []⟩ Sv10114 [.box b27 [.int .i64 stage21.Kind, .int .i64 stage21.Num.e0, .int .i64 stage21.Num.e1, .int .i64 stage21.Num.e2, .int .i64 stage21.Den.e0, .int .i64 stage21.Den.e1, .int .i64 stage21.Den.e2, .slice p22 stage21.Taps.length k23, .int .i64 stage21.Factor, .int .i64 stage21.Shift] 45, .box b58 [.slice p8163 rv8162.2.L.length k8164, .int .i64 rv8162.2.At] 75, .box b9774 [.slice p9766 x9759.Filter.Taps.length k9768, .int .i64 x9759.Filter.Factor, .int .i64 x9759.Filter.Shift, .slice p9770 x9759.Past.length k9772, .int .i64 x9759.Number] 51, .row (some ⟨b8173, 0, none⟩) ([rv8120.1, (⟨rv8120.1.Filter, rv8120.1.Past, rv8162.1⟩ : Feed), feed14] : List Feed).length ([rv8120.1, (⟨rv8120.1.Filter, rv8120.1.Past, rv8162.1⟩ : Feed), feed14] : List Feed).length [.slice p8121 rv8120.1.Filter.Taps.length k8122, .int .i64 rv8120.1.Filter.Factor, .int .i64 rv8120.1.Filter.Shift, .slice p8125 rv8120.1.Past.length k8126, .int .i64 rv8120.1.Number, .slice p8121 rv8120.1.Filter.Taps.length k8122, .int .i64 rv8120.1.Filter.Factor, .int .i64 rv8120.1.Filter.Shift, .slice p8125 rv8120.1.Past.length k8126, .int .i64 rv8162.1, .slice p15 feed14.Filter.Taps.length k16, .int .i64 feed14.Filter.Factor, .int .i64 feed14.Filter.Shift, .slice p17 feed14.Past.length k18, .int .i64 feed14.Number] 51 5, .row (some ⟨b9776, 0, none⟩) ([rv98.1, samples9, ([] : List Int)] : List (List Int)).length ([rv98.1, samples9, ([] : List Int)] : List (List Int)).length [.slice p99 rv98.1.length k100, .slice p10 samples9.length k11, .slice none ([] : List Int).length 0] 22 1] [SlA p10 samples9.length k11 samples9, SlA p99 rv98.1.length k100 rv98.1, SlA p22 stage21.Taps.length k23 stage21.Taps, SlA p8163 rv8162.2.L.length k8164 rv8162.2.L, SlA p9766 x9759.Filter.Taps.length k9768 x9759.Filter.Taps, SlA p9770 x9759.Past.length k9772 x9759.Past, RowA [.slice p8121 rv8120.1.Filter.Taps.length k8122, .int .i64 rv8120.1.Filter.Factor, .int .i64 rv8120.1.Filter.Shift, .slice p8125 rv8120.1.Past.length k8126, .int .i64 rv8120.1.Number, .slice p8121 rv8120.1.Filter.Taps.length k8122, .int .i64 rv8120.1.Filter.Factor, .int .i64 rv8120.1.Filter.Shift, .slice p8125 rv8120.1.Past.length k8126, .int .i64 rv8162.1, .slice p15 feed14.Filter.Taps.length k16, .int .i64 feed14.Filter.Factor, .int .i64 feed14.Filter.Shift, .slice p17 feed14.Past.length k18, .int .i64 feed14.Number] ([rv8120.1, (⟨rv8120.1.Filter, rv8120.1.Past, rv8162.1⟩ : Feed), feed14] : List Feed), RowA [.slice p99 rv98.1.length k100, .slice p10 samples9.length k11, .slice none ([] : List Int).length 0] ([rv98.1, samples9, ([] : List Int)] : List (List Int))] w) 0 hsh ⟨Sv9303, (hs.wk rfl), (hw.ft [2, 3, 1, 4, 0] [4, 5, 6, 7, 3, 2, 8, 0] (by decide) rfl rfl)⟩ ?_
            repeat clear hsh
            rintro sv9980 a w tv10182 ⟨Sv10114, hs, hw⟩ hsh hd10181
            delta law21_FilterExact_l52 at hsh
            refine wp_seq ?_
            refine wp_region_lit ?_
            refine st_val hs (y_lss rfl rfl) trivial rfl rfl fun a hs => ?_
            refine wpList_nil ?_
            refine then_normal ?_
            refine wp_seq ?_
            refine wp_cond_split (hs.ev rfl) (fun h10186 => ?_) (fun h10186 => ?_)
            ·have hsh := ite_t hsh h10186
             refine wp_skip ?_
             refine then_normal ?_
             refine wp_seq ?_
             refine wp_block ?_
             refine wp_seq ?_
             refine wp_region_lit ?_
             obtain ⟨x10254, h10252, hsh⟩ := bind_t hsh
             obtain ⟨q10258, c10259, h10255, h10256, h10260, h10253⟩ := hw.elemRK (α := (List Int)) 4 rfl 7 rfl h10252
             obtain ⟨_, rfl, ⟨p10261, n10262, k10263, rfl, h10264⟩⟩ := h10253
             obtain rfl := h10264.1
             have hw := hw.addE (e := SlA p10261 _ k10263 x10254) h10264
             refine st_val hs (y_indexAt Try.runUnderlying69 Try.sizeOf22 rfl rfl h10255.1 h10255.2 h10256) trivial rfl rfl fun a hs => ?_
             refine st_val hs (y_loadQ1 (j := 0) (hw.ownAt 4 rfl) rfl Try.isAgg22 h10260 rfl) trivial rfl rfl fun a hs => ?_
             refine st_val hs (y_assign rfl) trivial rfl rfl fun a hs => ?_
             refine wpList_nil ?_
             refine then_normal ?_
             refine wp_seq ?_
             refine wp_region_lit ?_
             refine st_val hs (y_loadBA (hw.ownAt 2 rfl) rfl Try.isAgg51 Try.sizeOf51 rfl rfl) trivial rfl rfl fun a hs => ?_
             refine st_val hs (y_move rfl) trivial rfl rfl fun a hs => ?_
             obtain ⟨rv10266, h10265, hsh⟩ := bind_t hsh
             refine st_callR hs (filter_Push_ok h10265 hw.dom (hw.envAt 5 rfl) (hw.envAt 6 rfl) (hw.envAt 0 rfl)) (do_call Try.call25 rfl) trivial rfl rfl ?_
             intro v10281 Sv10278 w a h10279 h10280 hs
             obtain ⟨p10267, k10268, c10270, p10271, k10272, p10274, k10275, c10277, rfl, h10282, h10269, h10273, h10276⟩ := h10280
             have hw := hw.callN h10279 h10282
             have hw := hw.addE (e := RowA c10270 rv10266.1.Filter.Taps) h10269
             have hw := hw.addE (e := SlA p10271 rv10266.1.Past.length k10272 rv10266.1.Past) h10273
             have hw := hw.addE (e := RowA c10277 rv10266.2.1) h10276
             refine st_val hs (y_move rfl) trivial rfl rfl fun a hs => ?_
             refine st_val hs (y_extract rfl rfl) trivial rfl rfl fun a hs => ?_
             refine st_val hs (y_extract rfl rfl) trivial rfl rfl fun a hs => ?_
             refine st_val hs (y_extract rfl rfl) trivial rfl rfl fun a hs => ?_
             refine w_alloc (cs := [.slice none ([] : List Int).length 0, .int .i64 0, .int .i64 0, .slice none ([] : List Int).length 0, .int .i64 0]) hs hw Try.zeroValue51 rfl rfl trivial ?_
             intro b10283 a w hs hw
             refine w_store (m := 5) (cs' := [.slice p10267 rv10266.1.Filter.Taps.length k10268, .int .i64 rv10266.1.Filter.Factor, .int .i64 rv10266.1.Filter.Shift, .slice p10271 rv10266.1.Past.length k10272, .int .i64 rv10266.1.Number]) hs hw 0 rfl rfl rfl Try.sizeOf51 rfl rfl rfl rfl trivial ?_
             intro a w hs hw
             refine st_val hs (y_assign rfl) trivial rfl rfl fun a hs => ?_
             refine st_val hs (y_assign rfl) trivial rfl rfl fun a hs => ?_
             refine wpList_nil ?_
             refine then_normal ?_
             refine wp_seq ?_
             refine wp_region_lit ?_
             refine st_val hs (y_loadBA (hw.ownAt 5 rfl) rfl Try.isAgg51 Try.sizeOf51 rfl rfl) trivial rfl rfl fun a hs => ?_
             refine st_val hs (y_move rfl) trivial rfl rfl fun a hs => ?_
             obtain ⟨rv10285, h10284, hsh⟩ := bind_t hsh
             refine st_callR hs (ref21_Push_ok h10284 hw.dom (hw.envAt 8 rfl) (hw.envAt 9 rfl) (hw.envAt 3 rfl)) (do_call Try.call36 rfl) trivial rfl rfl ?_
             intro v10301 Sv10298 w a h10299 h10300 hs
             obtain ⟨p10286, k10287, c10289, p10290, k10291, c10293, p10294, k10295, c10297, rfl, h10302, h10288, h10292, h10296⟩ := h10300
             have hw := hw.callN h10299 h10302
             have hw := hw.addE (e := RowA c10289 rv10285.1.Filter.Taps) h10288
             have hw := hw.addE (e := RowA c10293 rv10285.1.Past) h10292
             have hw := hw.addE (e := RowA c10297 rv10285.2.1) h10296
             refine st_val hs (y_move rfl) trivial rfl rfl fun a hs => ?_
             refine st_val hs (y_extract rfl rfl) trivial rfl rfl fun a hs => ?_
             refine st_val hs (y_extract rfl rfl) trivial rfl rfl fun a hs => ?_
             refine st_val hs (y_extract rfl rfl) trivial rfl rfl fun a hs => ?_
             refine w_alloc (cs := [.slice none ([] : List Int).length 0, .int .i64 0, .int .i64 0, .slice none ([] : List Int).length 0, .int .i64 0]) hs hw Try.zeroValue51 rfl rfl trivial ?_
             intro b10303 a w hs hw
             refine w_store (m := 5) (cs' := [.slice p10286 rv10285.1.Filter.Taps.length k10287, .int .i64 rv10285.1.Filter.Factor, .int .i64 rv10285.1.Filter.Shift, .slice p10290 rv10285.1.Past.length k10291, .int .i64 rv10285.1.Number]) hs hw 0 rfl rfl rfl Try.sizeOf51 rfl rfl rfl rfl trivial ?_
             intro a w hs hw
             refine st_val hs (y_assign rfl) trivial rfl rfl fun a hs => ?_
             refine st_val hs (y_assign rfl) trivial rfl rfl fun a hs => ?_
             refine wpList_nil ?_
             refine then_normal ?_
             refine wp_seq ?_
             obtain ⟨c10306, hc10306, hsh⟩ := bind_t hsh
             obtain ⟨c10309, hc10309, hsh⟩ := bind_t hsh
             obtain ⟨c10314, hc10314, hsh⟩ := bind_t hsh
             refine wp_only (fun a w => ∃ (Sv10315 : Nat → Prop), Sl 306 [(2, .slice p10 samples9.length k11), (11, .pointer (some ⟨b27, 0, none⟩)), (13, .pointer (some ⟨b58, 0, none⟩)), (16, .slice p99 rv98.1.length k100), (39, .pointer (some ⟨b9774, 0, none⟩)), (224, .slice (some ⟨b8173, 0, none⟩) ([rv8120.1, (⟨rv8120.1.Filter, rv8120.1.Past, rv8162.1⟩ : Feed), feed14] : List Feed).length ([rv8120.1, (⟨rv8120.1.Filter, rv8120.1.Past, rv8162.1⟩ : Feed), feed14] : List Feed).length), (225, .int .i64 (([rv8120.1, (⟨rv8120.1.Filter, rv8120.1.Past, rv8162.1⟩ : Feed), feed14] : List Feed).length : Int)), (226, .int .i64 sv8853), (232, .slice (some ⟨b9776, 0, none⟩) ([rv98.1, samples9, ([] : List Int)] : List (List Int)).length ([rv98.1, samples9, ([] : List Int)] : List (List Int)).length), (233, .int .i64 (([rv98.1, samples9, ([] : List Int)] : List (List Int)).length : Int)), (234, .int .i64 sv9980), (273, .bool c10314)] a ∧ Wd ⟨w0, S0, []⟩ Sv10315 [.box b27 [.int .i64 stage21.Kind, .int .i64 stage21.Num.e0, .int .i64 stage21.Num.e1, .int .i64 stage21.Num.e2, .int .i64 stage21.Den.e0, .int .i64 stage21.Den.e1, .int .i64 stage21.Den.e2, .slice p22 stage21.Taps.length k23, .int .i64 stage21.Factor, .int .i64 stage21.Shift] 45, .box b58 [.slice p8163 rv8162.2.L.length k8164, .int .i64 rv8162.2.At] 75, .box b9774 [.slice p9766 x9759.Filter.Taps.length k9768, .int .i64 x9759.Filter.Factor, .int .i64 x9759.Filter.Shift, .slice p9770 x9759.Past.length k9772, .int .i64 x9759.Number] 51, .row (some ⟨b8173, 0, none⟩) ([rv8120.1, (⟨rv8120.1.Filter, rv8120.1.Past, rv8162.1⟩ : Feed), feed14] : List Feed).length ([rv8120.1, (⟨rv8120.1.Filter, rv8120.1.Past, rv8162.1⟩ : Feed), feed14] : List Feed).length [.slice p8121 rv8120.1.Filter.Taps.length k8122, .int .i64 rv8120.1.Filter.Factor, .int .i64 rv8120.1.Filter.Shift, .slice p8125 rv8120.1.Past.length k8126, .int .i64 rv8120.1.Number, .slice p8121 rv8120.1.Filter.Taps.length k8122, .int .i64 rv8120.1.Filter.Factor, .int .i64 rv8120.1.Filter.Shift, .slice p8125 rv8120.1.Past.length k8126, .int .i64 rv8162.1, .slice p15 feed14.Filter.Taps.length k16, .int .i64 feed14.Filter.Factor, .int .i64 feed14.Filter.Shift, .slice p17 feed14.Past.length k18, .int .i64 feed14.Number] 51 5, .row (some ⟨b9776, 0, none⟩) ([rv98.1, samples9, ([] : List Int)] : List (List Int)).length ([rv98.1, samples9, ([] : List Int)] : List (List Int)).length [.slice p99 rv98.1.length k100, .slice p10 samples9.length k11, .slice none ([] : List Int).length 0] 22 1] [SlA p10 samples9.length k11 samples9, SlA p99 rv98.1.length k100 rv98.1, SlA p22 stage21.Taps.length k23 stage21.Taps, SlA p8163 rv8162.2.L.length k8164 rv8162.2.L, SlA p9766 x9759.Filter.Taps.length k9768 x9759.Filter.Taps, SlA p9770 x9759.Past.length k9772 x9759.Past, RowA [.slice p8121 rv8120.1.Filter.Taps.length k8122, .int .i64 rv8120.1.Filter.Factor, .int .i64 rv8120.1.Filter.Shift, .slice p8125 rv8120.1.Past.length k8126, .int .i64 rv8120.1.Number, .slice p8121 rv8120.1.Filter.Taps.length k8122, .int .i64 rv8120.1.Filter.Factor, .int .i64 rv8120.1.Filter.Shift, .slice p8125 rv8120.1.Past.length k8126, .int .i64 rv8162.1, .slice p15 feed14.Filter.Taps.length k16, .int .i64 feed14.Filter.Factor, .int .i64 feed14.Filter.Shift, .slice p17 feed14.Past.length k18, .int .i64 feed14.Number] ([rv8120.1, (⟨rv8120.1.Filter, rv8120.1.Past, rv8162.1⟩ : Feed), feed14] : List Feed), RowA [.slice p99 rv98.1.length k100, .slice p10 samples9.length k11, .slice none ([] : List Int).length 0] ([rv98.1, samples9, ([] : List Int)] : List (List Int))] w) ?_ ?_
             ·rcases Bool.eq_false_or_eq_true (rv10266.2.2 != rv10285.2.2) with h10316 | h10316
              ·have h10317 := ite_t hc10306 h10316
               rcases Bool.eq_false_or_eq_true c10306 with h10318 | h10318
               ·have h10319 := ite_t hc10309 h10318
                rcases Bool.eq_false_or_eq_true c10309 with h10320 | h10320
                ·have h10321 := ite_t hc10314 h10320
                 refine h_b (C := Cls [.box b10303 [.slice p10286 rv10285.1.Filter.Taps.length k10287, .int .i64 rv10285.1.Filter.Factor, .int .i64 rv10285.1.Filter.Shift, .slice p10290 rv10285.1.Past.length k10291, .int .i64 rv10285.1.Number] 51, .row p10286 rv10285.1.Filter.Taps.length k10287 c10289 3 1, .row p10290 rv10285.1.Past.length k10291 c10293 3 1, .row p10294 rv10285.2.1.length k10295 c10297 3 1, .box b10283 [.slice p10267 rv10266.1.Filter.Taps.length k10268, .int .i64 rv10266.1.Filter.Factor, .int .i64 rv10266.1.Filter.Shift, .slice p10271 rv10266.1.Past.length k10272, .int .i64 rv10266.1.Number] 51, .row p10267 rv10266.1.Filter.Taps.length k10268 c10270 3 1, .row p10274 rv10266.2.1.length k10275 c10277 3 1, .box b27 [.int .i64 stage21.Kind, .int .i64 stage21.Num.e0, .int .i64 stage21.Num.e1, .int .i64 stage21.Num.e2, .int .i64 stage21.Den.e0, .int .i64 stage21.Den.e1, .int .i64 stage21.Den.e2, .slice p22 stage21.Taps.length k23, .int .i64 stage21.Factor, .int .i64 stage21.Shift] 45, .box b58 [.slice p8163 rv8162.2.L.length k8164, .int .i64 rv8162.2.At] 75, .box b9774 [.slice p9766 x9759.Filter.Taps.length k9768, .int .i64 x9759.Filter.Factor, .int .i64 x9759.Filter.Shift, .slice p9770 x9759.Past.length k9772, .int .i64 x9759.Number] 51, .row (some ⟨b8173, 0, none⟩) ([rv8120.1, (⟨rv8120.1.Filter, rv8120.1.Past, rv8162.1⟩ : Feed), feed14] : List Feed).length ([rv8120.1, (⟨rv8120.1.Filter, rv8120.1.Past, rv8162.1⟩ : Feed), feed14] : List Feed).length [.slice p8121 rv8120.1.Filter.Taps.length k8122, .int .i64 rv8120.1.Filter.Factor, .int .i64 rv8120.1.Filter.Shift, .slice p8125 rv8120.1.Past.length k8126, .int .i64 rv8120.1.Number, .slice p8121 rv8120.1.Filter.Taps.length k8122, .int .i64 rv8120.1.Filter.Factor, .int .i64 rv8120.1.Filter.Shift, .slice p8125 rv8120.1.Past.length k8126, .int .i64 rv8162.1, .slice p15 feed14.Filter.Taps.length k16, .int .i64 feed14.Filter.Factor, .int .i64 feed14.Filter.Shift, .slice p17 feed14.Past.length k18, .int .i64 feed14.Number] 51 5, .row (some ⟨b9776, 0, none⟩) ([rv98.1, samples9, ([] : List Int)] : List (List Int)).length ([rv98.1, samples9, ([] : List Int)] : List (List Int)).length [.slice p99 rv98.1.length k100, .slice p10 samples9.length k11, .slice none ([] : List Int).length 0] 22 1] []) (by kernel_rfl) rfl (hw.drew.cs [0, 1, 2, 3, 4, 5, 6, 7, 8, 9, 10, 11] [] rfl rfl) fun hC => ?_
                 have hw := hw.drew
                 refine h_g hs 0 rfl (by kernel_rfl) rfl rfl hC rfl (fun w hC => y_move rfl) fun a hs => ?_
                 refine h_g hs 1 rfl (by kernel_rfl) rfl rfl hC rfl (fun w hC => y_move rfl) fun a hs => ?_
                 refine h_g hs 2 rfl (by kernel_rfl) rfl rfl hC rfl (fun w hC => y_neq rfl rfl) fun a hs => ?_
                 refine h_g hs 3 rfl (by kernel_rfl) rfl rfl hC rfl (fun w hC => y_move rfl) fun a hs => ?_
                 have hs := hs.fix 255 (.bool true) rfl (vb h10316)
                 refine h_s hs 4 rfl (by kernel_rfl) rfl rfl rfl (.inl rfl) rfl rfl hC fun a hs => ?_
                 refine h_s hs 5 rfl (by kernel_rfl) rfl rfl rfl (.inl rfl) rfl rfl hC fun a hs => ?_
                 refine h_s hs 6 rfl (by kernel_rfl) rfl rfl rfl (.inl rfl) rfl rfl hC fun a hs => ?_
                 refine h_s hs 7 rfl (by kernel_rfl) rfl rfl rfl (.inl rfl) rfl rfl hC fun a hs => ?_
                 refine h_g hs 8 rfl (by kernel_rfl) rfl rfl hC rfl (fun w hC => y_pickTE (v := .bool c10306) rfl rfl (vbs h10317)) fun a hs => ?_
                 refine h_g hs 9 rfl (by kernel_rfl) rfl rfl hC rfl (fun w hC => y_move rfl) fun a hs => ?_
                 have hs := hs.fix 261 (.bool true) rfl (vb h10318)
                 refine h_s hs 10 rfl (by kernel_rfl) rfl rfl rfl (.inl rfl) rfl rfl hC fun a hs => ?_
                 refine h_s hs 11 rfl (by kernel_rfl) rfl rfl rfl (.inl rfl) rfl rfl hC fun a hs => ?_
                 refine h_s hs 12 rfl (by kernel_rfl) rfl rfl rfl (.inl rfl) rfl rfl hC fun a hs => ?_
                 refine h_s hs 13 rfl (by kernel_rfl) rfl rfl rfl (.inl rfl) rfl rfl hC fun a hs => ?_
                 refine h_g hs 14 rfl (by kernel_rfl) rfl rfl hC rfl (fun w hC => y_pickTE (v := .bool c10309) rfl rfl (vbs h10319)) fun a hs => ?_
                 refine h_g hs 15 rfl (by kernel_rfl) rfl rfl hC rfl (fun w hC => y_move rfl) fun a hs => ?_
                 have hs := hs.fix 267 (.bool true) rfl (vb h10320)
                 refine h_s hs 16 rfl (by kernel_rfl) rfl rfl rfl (.inl rfl) rfl rfl hC fun a hs => ?_
                 refine h_s hs 17 rfl (by kernel_rfl) rfl rfl rfl (.inl rfl) rfl rfl hC fun a hs => ?_
                 refine h_s hs 18 rfl (by kernel_rfl) rfl rfl rfl (.inl rfl) rfl rfl hC fun a hs => ?_
                 refine h_s hs 19 rfl (by kernel_rfl) rfl rfl rfl (.inl rfl) rfl rfl hC fun a hs => ?_
                 refine h_s hs 20 rfl (by kernel_rfl) rfl rfl rfl (.inl rfl) rfl rfl hC fun a hs => ?_
                 refine h_g hs 21 rfl (by kernel_rfl) rfl rfl hC rfl (fun w hC => y_pickTE (v := .bool c10314) rfl rfl (vbs h10321)) fun a hs => ?_
                 refine h_done (by kernel_rfl) ?_
                 exact ⟨Sv10298, (hs.wk rfl), (hw.ft [7, 8, 9, 10, 11] [7, 8, 9, 10, 11, 12, 13, 14] (by decide) rfl rfl)⟩
                ·have h10322 := ite_f hc10314 h10320
                 obtain ⟨rv10324, h10323, h10322⟩ := bind_t h10322
                 obtain ⟨rv10326, h10325, h10322⟩ := bind_t h10322
                 refine h_b (C := Cls [.box b10303 [.slice p10286 rv10285.1.Filter.Taps.length k10287, .int .i64 rv10285.1.Filter.Factor, .int .i64 rv10285.1.Filter.Shift, .slice p10290 rv10285.1.Past.length k10291, .int .i64 rv10285.1.Number] 51, .row p10286 rv10285.1.Filter.Taps.length k10287 c10289 3 1, .row p10290 rv10285.1.Past.length k10291 c10293 3 1, .row p10294 rv10285.2.1.length k10295 c10297 3 1, .box b10283 [.slice p10267 rv10266.1.Filter.Taps.length k10268, .int .i64 rv10266.1.Filter.Factor, .int .i64 rv10266.1.Filter.Shift, .slice p10271 rv10266.1.Past.length k10272, .int .i64 rv10266.1.Number] 51, .row p10267 rv10266.1.Filter.Taps.length k10268 c10270 3 1, .row p10274 rv10266.2.1.length k10275 c10277 3 1, .box b27 [.int .i64 stage21.Kind, .int .i64 stage21.Num.e0, .int .i64 stage21.Num.e1, .int .i64 stage21.Num.e2, .int .i64 stage21.Den.e0, .int .i64 stage21.Den.e1, .int .i64 stage21.Den.e2, .slice p22 stage21.Taps.length k23, .int .i64 stage21.Factor, .int .i64 stage21.Shift] 45, .box b58 [.slice p8163 rv8162.2.L.length k8164, .int .i64 rv8162.2.At] 75, .box b9774 [.slice p9766 x9759.Filter.Taps.length k9768, .int .i64 x9759.Filter.Factor, .int .i64 x9759.Filter.Shift, .slice p9770 x9759.Past.length k9772, .int .i64 x9759.Number] 51, .row (some ⟨b8173, 0, none⟩) ([rv8120.1, (⟨rv8120.1.Filter, rv8120.1.Past, rv8162.1⟩ : Feed), feed14] : List Feed).length ([rv8120.1, (⟨rv8120.1.Filter, rv8120.1.Past, rv8162.1⟩ : Feed), feed14] : List Feed).length [.slice p8121 rv8120.1.Filter.Taps.length k8122, .int .i64 rv8120.1.Filter.Factor, .int .i64 rv8120.1.Filter.Shift, .slice p8125 rv8120.1.Past.length k8126, .int .i64 rv8120.1.Number, .slice p8121 rv8120.1.Filter.Taps.length k8122, .int .i64 rv8120.1.Filter.Factor, .int .i64 rv8120.1.Filter.Shift, .slice p8125 rv8120.1.Past.length k8126, .int .i64 rv8162.1, .slice p15 feed14.Filter.Taps.length k16, .int .i64 feed14.Filter.Factor, .int .i64 feed14.Filter.Shift, .slice p17 feed14.Past.length k18, .int .i64 feed14.Number] 51 5, .row (some ⟨b9776, 0, none⟩) ([rv98.1, samples9, ([] : List Int)] : List (List Int)).length ([rv98.1, samples9, ([] : List Int)] : List (List Int)).length [.slice p99 rv98.1.length k100, .slice p10 samples9.length k11, .slice none ([] : List Int).length 0] 22 1] []) (by kernel_rfl) rfl (hw.drew.cs [0, 1, 2, 3, 4, 5, 6, 7, 8, 9, 10, 11] [] rfl rfl) fun hC => ?_
                 have hw := hw.drew
                 refine h_g hs 0 rfl (by kernel_rfl) rfl rfl hC rfl (fun w hC => y_move rfl) fun a hs => ?_
                 refine h_g hs 1 rfl (by kernel_rfl) rfl rfl hC rfl (fun w hC => y_move rfl) fun a hs => ?_
                 refine h_g hs 2 rfl (by kernel_rfl) rfl rfl hC rfl (fun w hC => y_neq rfl rfl) fun a hs => ?_
                 refine h_g hs 3 rfl (by kernel_rfl) rfl rfl hC rfl (fun w hC => y_move rfl) fun a hs => ?_
                 have hs := hs.fix 255 (.bool true) rfl (vb h10316)
                 refine h_s hs 4 rfl (by kernel_rfl) rfl rfl rfl (.inl rfl) rfl rfl hC fun a hs => ?_
                 refine h_s hs 5 rfl (by kernel_rfl) rfl rfl rfl (.inl rfl) rfl rfl hC fun a hs => ?_
                 refine h_s hs 6 rfl (by kernel_rfl) rfl rfl rfl (.inl rfl) rfl rfl hC fun a hs => ?_
                 refine h_s hs 7 rfl (by kernel_rfl) rfl rfl rfl (.inl rfl) rfl rfl hC fun a hs => ?_
                 refine h_g hs 8 rfl (by kernel_rfl) rfl rfl hC rfl (fun w hC => y_pickTE (v := .bool c10306) rfl rfl (vbs h10317)) fun a hs => ?_
                 refine h_g hs 9 rfl (by kernel_rfl) rfl rfl hC rfl (fun w hC => y_move rfl) fun a hs => ?_
                 have hs := hs.fix 261 (.bool true) rfl (vb h10318)
                 refine h_s hs 10 rfl (by kernel_rfl) rfl rfl rfl (.inl rfl) rfl rfl hC fun a hs => ?_
                 refine h_s hs 11 rfl (by kernel_rfl) rfl rfl rfl (.inl rfl) rfl rfl hC fun a hs => ?_
                 refine h_s hs 12 rfl (by kernel_rfl) rfl rfl rfl (.inl rfl) rfl rfl hC fun a hs => ?_
                 refine h_s hs 13 rfl (by kernel_rfl) rfl rfl rfl (.inl rfl) rfl rfl hC fun a hs => ?_
                 refine h_g hs 14 rfl (by kernel_rfl) rfl rfl hC rfl (fun w hC => y_pickTE (v := .bool c10309) rfl rfl (vbs h10319)) fun a hs => ?_
                 refine h_g hs 15 rfl (by kernel_rfl) rfl rfl hC rfl (fun w hC => y_move rfl) fun a hs => ?_
                 have hs := hs.fix 267 (.bool false) rfl (vb h10320)
                 refine h_t hs 16 rfl (by kernel_rfl) ⟨_, rfl, rfl⟩ rfl rfl hC (fun w hC => y_loadBA (hC.ownAt 9 rfl) rfl Try.isAgg51 Try.sizeOf51 rfl rfl) fun a hs => ?_
                 refine h_t hs 18 rfl (by kernel_rfl) ⟨_, rfl, rfl⟩ rfl rfl hC (fun w hC => y_loadBA (hC.ownAt 9 rfl) rfl Try.isAgg51 Try.sizeOf51 rfl rfl) fun a hs => ?_
                 refine h_one (i := 17) (by kernel_rfl) rfl ?_
                 refine st_callR hs (filter_ValidFeed_ok h10323 hw.bdom (hw.bE 11 rfl) (hw.bE 12 rfl)) (do_call Try.call37 rfl) ⟨_, rfl, rfl⟩ rfl rfl ?_
                 intro v10330 Sv10327 w a h10328 h10329 hs
                 subst h10329
                 have hw := hw.callB h10328
                 refine h_nx (hw.cs [0, 1, 2, 3, 4, 5, 6, 7, 8, 9, 10, 11] [] rfl rfl) fun hC => ?_
                 refine h_one (i := 19) (by kernel_rfl) rfl ?_
                 refine st_callR hs (ref21_ValidFeed_ok h10325 hw.bdom (hw.bE 11 rfl) (hw.bE 12 rfl)) (do_call Try.call38 rfl) ⟨_, rfl, rfl⟩ rfl rfl ?_
                 intro v10335 Sv10332 w a h10333 h10334 hs
                 subst h10334
                 have hw := hw.callB h10333
                 refine h_nx (hw.cs [0, 1, 2, 3, 4, 5, 6, 7, 8, 9, 10, 11] [] rfl rfl) fun hC => ?_
                 refine h_t hs 20 rfl (by kernel_rfl) ⟨_, rfl, rfl⟩ rfl rfl hC (fun w hC => y_neqB Try.runUnderlying4 rfl rfl) fun a hs => ?_
                 refine h_g hs 21 rfl (by kernel_rfl) rfl rfl hC rfl (fun w hC => y_pickFE (v := .bool c10314) rfl rfl (vbs h10322)) fun a hs => ?_
                 refine h_done (by kernel_rfl) ?_
                 exact ⟨Sv10298, (hs.wk rfl), (hw.ft [7, 8, 9, 10, 11] [7, 8, 9, 10, 11, 12, 13, 14] (by decide) rfl rfl)⟩
               ·have h10337 := ite_f hc10309 h10318
                obtain ⟨rv10339, h10338, h10337⟩ := bind_t h10337
                rcases Bool.eq_false_or_eq_true c10309 with h10340 | h10340
                ·have h10341 := ite_t hc10314 h10340
                 refine h_b (C := Cls [.box b10303 [.slice p10286 rv10285.1.Filter.Taps.length k10287, .int .i64 rv10285.1.Filter.Factor, .int .i64 rv10285.1.Filter.Shift, .slice p10290 rv10285.1.Past.length k10291, .int .i64 rv10285.1.Number] 51, .row p10286 rv10285.1.Filter.Taps.length k10287 c10289 3 1, .row p10290 rv10285.1.Past.length k10291 c10293 3 1, .row p10294 rv10285.2.1.length k10295 c10297 3 1, .box b10283 [.slice p10267 rv10266.1.Filter.Taps.length k10268, .int .i64 rv10266.1.Filter.Factor, .int .i64 rv10266.1.Filter.Shift, .slice p10271 rv10266.1.Past.length k10272, .int .i64 rv10266.1.Number] 51, .row p10267 rv10266.1.Filter.Taps.length k10268 c10270 3 1, .row p10274 rv10266.2.1.length k10275 c10277 3 1, .box b27 [.int .i64 stage21.Kind, .int .i64 stage21.Num.e0, .int .i64 stage21.Num.e1, .int .i64 stage21.Num.e2, .int .i64 stage21.Den.e0, .int .i64 stage21.Den.e1, .int .i64 stage21.Den.e2, .slice p22 stage21.Taps.length k23, .int .i64 stage21.Factor, .int .i64 stage21.Shift] 45, .box b58 [.slice p8163 rv8162.2.L.length k8164, .int .i64 rv8162.2.At] 75, .box b9774 [.slice p9766 x9759.Filter.Taps.length k9768, .int .i64 x9759.Filter.Factor, .int .i64 x9759.Filter.Shift, .slice p9770 x9759.Past.length k9772, .int .i64 x9759.Number] 51, .row (some ⟨b8173, 0, none⟩) ([rv8120.1, (⟨rv8120.1.Filter, rv8120.1.Past, rv8162.1⟩ : Feed), feed14] : List Feed).length ([rv8120.1, (⟨rv8120.1.Filter, rv8120.1.Past, rv8162.1⟩ : Feed), feed14] : List Feed).length [.slice p8121 rv8120.1.Filter.Taps.length k8122, .int .i64 rv8120.1.Filter.Factor, .int .i64 rv8120.1.Filter.Shift, .slice p8125 rv8120.1.Past.length k8126, .int .i64 rv8120.1.Number, .slice p8121 rv8120.1.Filter.Taps.length k8122, .int .i64 rv8120.1.Filter.Factor, .int .i64 rv8120.1.Filter.Shift, .slice p8125 rv8120.1.Past.length k8126, .int .i64 rv8162.1, .slice p15 feed14.Filter.Taps.length k16, .int .i64 feed14.Filter.Factor, .int .i64 feed14.Filter.Shift, .slice p17 feed14.Past.length k18, .int .i64 feed14.Number] 51 5, .row (some ⟨b9776, 0, none⟩) ([rv98.1, samples9, ([] : List Int)] : List (List Int)).length ([rv98.1, samples9, ([] : List Int)] : List (List Int)).length [.slice p99 rv98.1.length k100, .slice p10 samples9.length k11, .slice none ([] : List Int).length 0] 22 1] []) (by kernel_rfl) rfl (hw.drew.cs [0, 1, 2, 3, 4, 5, 6, 7, 8, 9, 10, 11] [] rfl rfl) fun hC => ?_
                 have hw := hw.drew
                 refine h_g hs 0 rfl (by kernel_rfl) rfl rfl hC rfl (fun w hC => y_move rfl) fun a hs => ?_
                 refine h_g hs 1 rfl (by kernel_rfl) rfl rfl hC rfl (fun w hC => y_move rfl) fun a hs => ?_
                 refine h_g hs 2 rfl (by kernel_rfl) rfl rfl hC rfl (fun w hC => y_neq rfl rfl) fun a hs => ?_
                 refine h_g hs 3 rfl (by kernel_rfl) rfl rfl hC rfl (fun w hC => y_move rfl) fun a hs => ?_
                 have hs := hs.fix 255 (.bool true) rfl (vb h10316)
                 refine h_s hs 4 rfl (by kernel_rfl) rfl rfl rfl (.inl rfl) rfl rfl hC fun a hs => ?_
                 refine h_s hs 5 rfl (by kernel_rfl) rfl rfl rfl (.inl rfl) rfl rfl hC fun a hs => ?_
                 refine h_s hs 6 rfl (by kernel_rfl) rfl rfl rfl (.inl rfl) rfl rfl hC fun a hs => ?_
                 refine h_s hs 7 rfl (by kernel_rfl) rfl rfl rfl (.inl rfl) rfl rfl hC fun a hs => ?_
                 refine h_g hs 8 rfl (by kernel_rfl) rfl rfl hC rfl (fun w hC => y_pickTE (v := .bool c10306) rfl rfl (vbs h10317)) fun a hs => ?_
                 refine h_g hs 9 rfl (by kernel_rfl) rfl rfl hC rfl (fun w hC => y_move rfl) fun a hs => ?_
                 have hs := hs.fix 261 (.bool false) rfl (vb h10318)
                 refine h_t hs 10 rfl (by kernel_rfl) ⟨_, rfl, rfl⟩ rfl rfl hC (fun w hC => y_loadBA (hC.ownAt 4 rfl) rfl Try.isAgg51 Try.sizeOf51 rfl rfl) fun a hs => ?_
                 refine h_t hs 11 rfl (by kernel_rfl) ⟨_, rfl, rfl⟩ rfl rfl hC (fun w hC => y_loadBA (hC.ownAt 0 rfl) rfl Try.isAgg51 Try.sizeOf51 rfl rfl) fun a hs => ?_
                 refine h_one (i := 12) (by kernel_rfl) rfl ?_
                 refine st_callR hs (ref21_SameFeed_ok h10338 hw.bdom (hw.bRow 5 rfl 5 rfl) (hw.bE 4 rfl) (hw.bRow 1 rfl 2 rfl) (hw.bRow 2 rfl 1 rfl)) (do_call Try.call26 rfl) ⟨_, rfl, rfl⟩ rfl rfl ?_
                 intro v10345 Sv10342 w a h10343 h10344 hs
                 subst h10344
                 have hw := hw.callB h10343
                 refine h_nx (hw.cs [0, 1, 2, 3, 4, 5, 6, 7, 8, 9, 10, 11] [] rfl rfl) fun hC => ?_
                 refine h_t hs 13 rfl (by kernel_rfl) ⟨_, rfl, rfl⟩ rfl rfl hC (fun w hC => y_not rfl) fun a hs => ?_
                 refine h_g hs 14 rfl (by kernel_rfl) rfl rfl hC rfl (fun w hC => y_pickFE (v := .bool c10309) rfl rfl (vbs h10337)) fun a hs => ?_
                 refine h_g hs 15 rfl (by kernel_rfl) rfl rfl hC rfl (fun w hC => y_move rfl) fun a hs => ?_
                 have hs := hs.fix 267 (.bool true) rfl (vb h10340)
                 refine h_s hs 16 rfl (by kernel_rfl) rfl rfl rfl (.inl rfl) rfl rfl hC fun a hs => ?_
                 refine h_s hs 17 rfl (by kernel_rfl) rfl rfl rfl (.inl rfl) rfl rfl hC fun a hs => ?_
                 refine h_s hs 18 rfl (by kernel_rfl) rfl rfl rfl (.inl rfl) rfl rfl hC fun a hs => ?_
                 refine h_s hs 19 rfl (by kernel_rfl) rfl rfl rfl (.inl rfl) rfl rfl hC fun a hs => ?_
                 refine h_s hs 20 rfl (by kernel_rfl) rfl rfl rfl (.inl rfl) rfl rfl hC fun a hs => ?_
                 refine h_g hs 21 rfl (by kernel_rfl) rfl rfl hC rfl (fun w hC => y_pickTE (v := .bool c10314) rfl rfl (vbs h10341)) fun a hs => ?_
                 refine h_done (by kernel_rfl) ?_
                 exact ⟨Sv10298, (hs.wk rfl), (hw.ft [7, 8, 9, 10, 11] [7, 8, 9, 10, 11, 12, 13, 14] (by decide) rfl rfl)⟩
                ·have h10347 := ite_f hc10314 h10340
                 obtain ⟨rv10349, h10348, h10347⟩ := bind_t h10347
                 obtain ⟨rv10351, h10350, h10347⟩ := bind_t h10347
                 refine h_b (C := Cls [.box b10303 [.slice p10286 rv10285.1.Filter.Taps.length k10287, .int .i64 rv10285.1.Filter.Factor, .int .i64 rv10285.1.Filter.Shift, .slice p10290 rv10285.1.Past.length k10291, .int .i64 rv10285.1.Number] 51, .row p10286 rv10285.1.Filter.Taps.length k10287 c10289 3 1, .row p10290 rv10285.1.Past.length k10291 c10293 3 1, .row p10294 rv10285.2.1.length k10295 c10297 3 1, .box b10283 [.slice p10267 rv10266.1.Filter.Taps.length k10268, .int .i64 rv10266.1.Filter.Factor, .int .i64 rv10266.1.Filter.Shift, .slice p10271 rv10266.1.Past.length k10272, .int .i64 rv10266.1.Number] 51, .row p10267 rv10266.1.Filter.Taps.length k10268 c10270 3 1, .row p10274 rv10266.2.1.length k10275 c10277 3 1, .box b27 [.int .i64 stage21.Kind, .int .i64 stage21.Num.e0, .int .i64 stage21.Num.e1, .int .i64 stage21.Num.e2, .int .i64 stage21.Den.e0, .int .i64 stage21.Den.e1, .int .i64 stage21.Den.e2, .slice p22 stage21.Taps.length k23, .int .i64 stage21.Factor, .int .i64 stage21.Shift] 45, .box b58 [.slice p8163 rv8162.2.L.length k8164, .int .i64 rv8162.2.At] 75, .box b9774 [.slice p9766 x9759.Filter.Taps.length k9768, .int .i64 x9759.Filter.Factor, .int .i64 x9759.Filter.Shift, .slice p9770 x9759.Past.length k9772, .int .i64 x9759.Number] 51, .row (some ⟨b8173, 0, none⟩) ([rv8120.1, (⟨rv8120.1.Filter, rv8120.1.Past, rv8162.1⟩ : Feed), feed14] : List Feed).length ([rv8120.1, (⟨rv8120.1.Filter, rv8120.1.Past, rv8162.1⟩ : Feed), feed14] : List Feed).length [.slice p8121 rv8120.1.Filter.Taps.length k8122, .int .i64 rv8120.1.Filter.Factor, .int .i64 rv8120.1.Filter.Shift, .slice p8125 rv8120.1.Past.length k8126, .int .i64 rv8120.1.Number, .slice p8121 rv8120.1.Filter.Taps.length k8122, .int .i64 rv8120.1.Filter.Factor, .int .i64 rv8120.1.Filter.Shift, .slice p8125 rv8120.1.Past.length k8126, .int .i64 rv8162.1, .slice p15 feed14.Filter.Taps.length k16, .int .i64 feed14.Filter.Factor, .int .i64 feed14.Filter.Shift, .slice p17 feed14.Past.length k18, .int .i64 feed14.Number] 51 5, .row (some ⟨b9776, 0, none⟩) ([rv98.1, samples9, ([] : List Int)] : List (List Int)).length ([rv98.1, samples9, ([] : List Int)] : List (List Int)).length [.slice p99 rv98.1.length k100, .slice p10 samples9.length k11, .slice none ([] : List Int).length 0] 22 1] []) (by kernel_rfl) rfl (hw.drew.cs [0, 1, 2, 3, 4, 5, 6, 7, 8, 9, 10, 11] [] rfl rfl) fun hC => ?_
                 have hw := hw.drew
                 refine h_g hs 0 rfl (by kernel_rfl) rfl rfl hC rfl (fun w hC => y_move rfl) fun a hs => ?_
                 refine h_g hs 1 rfl (by kernel_rfl) rfl rfl hC rfl (fun w hC => y_move rfl) fun a hs => ?_
                 refine h_g hs 2 rfl (by kernel_rfl) rfl rfl hC rfl (fun w hC => y_neq rfl rfl) fun a hs => ?_
                 refine h_g hs 3 rfl (by kernel_rfl) rfl rfl hC rfl (fun w hC => y_move rfl) fun a hs => ?_
                 have hs := hs.fix 255 (.bool true) rfl (vb h10316)
                 refine h_s hs 4 rfl (by kernel_rfl) rfl rfl rfl (.inl rfl) rfl rfl hC fun a hs => ?_
                 refine h_s hs 5 rfl (by kernel_rfl) rfl rfl rfl (.inl rfl) rfl rfl hC fun a hs => ?_
                 refine h_s hs 6 rfl (by kernel_rfl) rfl rfl rfl (.inl rfl) rfl rfl hC fun a hs => ?_
                 refine h_s hs 7 rfl (by kernel_rfl) rfl rfl rfl (.inl rfl) rfl rfl hC fun a hs => ?_
                 refine h_g hs 8 rfl (by kernel_rfl) rfl rfl hC rfl (fun w hC => y_pickTE (v := .bool c10306) rfl rfl (vbs h10317)) fun a hs => ?_
                 refine h_g hs 9 rfl (by kernel_rfl) rfl rfl hC rfl (fun w hC => y_move rfl) fun a hs => ?_
                 have hs := hs.fix 261 (.bool false) rfl (vb h10318)
                 refine h_t hs 10 rfl (by kernel_rfl) ⟨_, rfl, rfl⟩ rfl rfl hC (fun w hC => y_loadBA (hC.ownAt 4 rfl) rfl Try.isAgg51 Try.sizeOf51 rfl rfl) fun a hs => ?_
                 refine h_t hs 11 rfl (by kernel_rfl) ⟨_, rfl, rfl⟩ rfl rfl hC (fun w hC => y_loadBA (hC.ownAt 0 rfl) rfl Try.isAgg51 Try.sizeOf51 rfl rfl) fun a hs => ?_
                 refine h_one (i := 12) (by kernel_rfl) rfl ?_
                 refine st_callR hs (ref21_SameFeed_ok h10338 hw.bdom (hw.bRow 5 rfl 5 rfl) (hw.bE 4 rfl) (hw.bRow 1 rfl 2 rfl) (hw.bRow 2 rfl 1 rfl)) (do_call Try.call26 rfl) ⟨_, rfl, rfl⟩ rfl rfl ?_
                 intro v10355 Sv10352 w a h10353 h10354 hs
                 subst h10354
                 have hw := hw.callB h10353
                 refine h_nx (hw.cs [0, 1, 2, 3, 4, 5, 6, 7, 8, 9, 10, 11] [] rfl rfl) fun hC => ?_
                 refine h_t hs 13 rfl (by kernel_rfl) ⟨_, rfl, rfl⟩ rfl rfl hC (fun w hC => y_not rfl) fun a hs => ?_
                 refine h_g hs 14 rfl (by kernel_rfl) rfl rfl hC rfl (fun w hC => y_pickFE (v := .bool c10309) rfl rfl (vbs h10337)) fun a hs => ?_
                 refine h_g hs 15 rfl (by kernel_rfl) rfl rfl hC rfl (fun w hC => y_move rfl) fun a hs => ?_
                 have hs := hs.fix 267 (.bool false) rfl (vb h10340)
                 refine h_t hs 16 rfl (by kernel_rfl) ⟨_, rfl, rfl⟩ rfl rfl hC (fun w hC => y_loadBA (hC.ownAt 9 rfl) rfl Try.isAgg51 Try.sizeOf51 rfl rfl) fun a hs => ?_
                 refine h_t hs 18 rfl (by kernel_rfl) ⟨_, rfl, rfl⟩ rfl rfl hC (fun w hC => y_loadBA (hC.ownAt 9 rfl) rfl Try.isAgg51 Try.sizeOf51 rfl rfl) fun a hs => ?_
                 refine h_one (i := 17) (by kernel_rfl) rfl ?_
                 refine st_callR hs (filter_ValidFeed_ok h10348 hw.bdom (hw.bE 11 rfl) (hw.bE 12 rfl)) (do_call Try.call37 rfl) ⟨_, rfl, rfl⟩ rfl rfl ?_
                 intro v10360 Sv10357 w a h10358 h10359 hs
                 subst h10359
                 have hw := hw.callB h10358
                 refine h_nx (hw.cs [0, 1, 2, 3, 4, 5, 6, 7, 8, 9, 10, 11] [] rfl rfl) fun hC => ?_
                 refine h_one (i := 19) (by kernel_rfl) rfl ?_
                 refine st_callR hs (ref21_ValidFeed_ok h10350 hw.bdom (hw.bE 11 rfl) (hw.bE 12 rfl)) (do_call Try.call38 rfl) ⟨_, rfl, rfl⟩ rfl rfl ?_
                 intro v10365 Sv10362 w a h10363 h10364 hs
                 subst h10364
                 have hw := hw.callB h10363
                 refine h_nx (hw.cs [0, 1, 2, 3, 4, 5, 6, 7, 8, 9, 10, 11] [] rfl rfl) fun hC => ?_
                 refine h_t hs 20 rfl (by kernel_rfl) ⟨_, rfl, rfl⟩ rfl rfl hC (fun w hC => y_neqB Try.runUnderlying4 rfl rfl) fun a hs => ?_
                 refine h_g hs 21 rfl (by kernel_rfl) rfl rfl hC rfl (fun w hC => y_pickFE (v := .bool c10314) rfl rfl (vbs h10347)) fun a hs => ?_
                 refine h_done (by kernel_rfl) ?_
                 exact ⟨Sv10298, (hs.wk rfl), (hw.ft [7, 8, 9, 10, 11] [7, 8, 9, 10, 11, 12, 13, 14] (by decide) rfl rfl)⟩
              ·have h10367 := ite_f hc10306 h10316
               obtain ⟨rv10369, h10368, h10367⟩ := bind_t h10367
               rcases Bool.eq_false_or_eq_true c10306 with h10370 | h10370
               ·have h10371 := ite_t hc10309 h10370
                rcases Bool.eq_false_or_eq_true c10309 with h10372 | h10372
                ·have h10373 := ite_t hc10314 h10372
                 refine h_b (C := Cls [.box b10303 [.slice p10286 rv10285.1.Filter.Taps.length k10287, .int .i64 rv10285.1.Filter.Factor, .int .i64 rv10285.1.Filter.Shift, .slice p10290 rv10285.1.Past.length k10291, .int .i64 rv10285.1.Number] 51, .row p10286 rv10285.1.Filter.Taps.length k10287 c10289 3 1, .row p10290 rv10285.1.Past.length k10291 c10293 3 1, .row p10294 rv10285.2.1.length k10295 c10297 3 1, .box b10283 [.slice p10267 rv10266.1.Filter.Taps.length k10268, .int .i64 rv10266.1.Filter.Factor, .int .i64 rv10266.1.Filter.Shift, .slice p10271 rv10266.1.Past.length k10272, .int .i64 rv10266.1.Number] 51, .row p10267 rv10266.1.Filter.Taps.length k10268 c10270 3 1, .row p10274 rv10266.2.1.length k10275 c10277 3 1, .box b27 [.int .i64 stage21.Kind, .int .i64 stage21.Num.e0, .int .i64 stage21.Num.e1, .int .i64 stage21.Num.e2, .int .i64 stage21.Den.e0, .int .i64 stage21.Den.e1, .int .i64 stage21.Den.e2, .slice p22 stage21.Taps.length k23, .int .i64 stage21.Factor, .int .i64 stage21.Shift] 45, .box b58 [.slice p8163 rv8162.2.L.length k8164, .int .i64 rv8162.2.At] 75, .box b9774 [.slice p9766 x9759.Filter.Taps.length k9768, .int .i64 x9759.Filter.Factor, .int .i64 x9759.Filter.Shift, .slice p9770 x9759.Past.length k9772, .int .i64 x9759.Number] 51, .row (some ⟨b8173, 0, none⟩) ([rv8120.1, (⟨rv8120.1.Filter, rv8120.1.Past, rv8162.1⟩ : Feed), feed14] : List Feed).length ([rv8120.1, (⟨rv8120.1.Filter, rv8120.1.Past, rv8162.1⟩ : Feed), feed14] : List Feed).length [.slice p8121 rv8120.1.Filter.Taps.length k8122, .int .i64 rv8120.1.Filter.Factor, .int .i64 rv8120.1.Filter.Shift, .slice p8125 rv8120.1.Past.length k8126, .int .i64 rv8120.1.Number, .slice p8121 rv8120.1.Filter.Taps.length k8122, .int .i64 rv8120.1.Filter.Factor, .int .i64 rv8120.1.Filter.Shift, .slice p8125 rv8120.1.Past.length k8126, .int .i64 rv8162.1, .slice p15 feed14.Filter.Taps.length k16, .int .i64 feed14.Filter.Factor, .int .i64 feed14.Filter.Shift, .slice p17 feed14.Past.length k18, .int .i64 feed14.Number] 51 5, .row (some ⟨b9776, 0, none⟩) ([rv98.1, samples9, ([] : List Int)] : List (List Int)).length ([rv98.1, samples9, ([] : List Int)] : List (List Int)).length [.slice p99 rv98.1.length k100, .slice p10 samples9.length k11, .slice none ([] : List Int).length 0] 22 1] []) (by kernel_rfl) rfl (hw.drew.cs [0, 1, 2, 3, 4, 5, 6, 7, 8, 9, 10, 11] [] rfl rfl) fun hC => ?_
                 have hw := hw.drew
                 refine h_g hs 0 rfl (by kernel_rfl) rfl rfl hC rfl (fun w hC => y_move rfl) fun a hs => ?_
                 refine h_g hs 1 rfl (by kernel_rfl) rfl rfl hC rfl (fun w hC => y_move rfl) fun a hs => ?_
                 refine h_g hs 2 rfl (by kernel_rfl) rfl rfl hC rfl (fun w hC => y_neq rfl rfl) fun a hs => ?_
                 refine h_g hs 3 rfl (by kernel_rfl) rfl rfl hC rfl (fun w hC => y_move rfl) fun a hs => ?_
                 have hs := hs.fix 255 (.bool false) rfl (vb h10316)
                 refine h_t hs 4 rfl (by kernel_rfl) ⟨_, rfl, rfl⟩ rfl rfl hC (fun w hC => y_move rfl) fun a hs => ?_
                 refine h_t hs 5 rfl (by kernel_rfl) ⟨_, rfl, rfl⟩ rfl rfl hC (fun w hC => y_move rfl) fun a hs => ?_
                 refine h_one (i := 6) (by kernel_rfl) rfl ?_
                 refine st_callR hs (ref05_Same_ok h10368 hw.bdom (hw.bRow 6 rfl 3 rfl) (hw.bRow 3 rfl 0 rfl)) (do_call Try.call23 rfl) ⟨_, rfl, rfl⟩ rfl rfl ?_
                 intro v10377 Sv10374 w a h10375 h10376 hs
                 subst h10376
                 have hw := hw.callB h10375
                 refine h_nx (hw.cs [0, 1, 2, 3, 4, 5, 6, 7, 8, 9, 10, 11] [] rfl rfl) fun hC => ?_
                 refine h_t hs 7 rfl (by kernel_rfl) ⟨_, rfl, rfl⟩ rfl rfl hC (fun w hC => y_not rfl) fun a hs => ?_
                 refine h_g hs 8 rfl (by kernel_rfl) rfl rfl hC rfl (fun w hC => y_pickFE (v := .bool c10306) rfl rfl (vbs h10367)) fun a hs => ?_
                 refine h_g hs 9 rfl (by kernel_rfl) rfl rfl hC rfl (fun w hC => y_move rfl) fun a hs => ?_
                 have hs := hs.fix 261 (.bool true) rfl (vb h10370)
                 refine h_s hs 10 rfl (by kernel_rfl) rfl rfl rfl (.inl rfl) rfl rfl hC fun a hs => ?_
                 refine h_s hs 11 rfl (by kernel_rfl) rfl rfl rfl (.inl rfl) rfl rfl hC fun a hs => ?_
                 refine h_s hs 12 rfl (by kernel_rfl) rfl rfl rfl (.inl rfl) rfl rfl hC fun a hs => ?_
                 refine h_s hs 13 rfl (by kernel_rfl) rfl rfl rfl (.inl rfl) rfl rfl hC fun a hs => ?_
                 refine h_g hs 14 rfl (by kernel_rfl) rfl rfl hC rfl (fun w hC => y_pickTE (v := .bool c10309) rfl rfl (vbs h10371)) fun a hs => ?_
                 refine h_g hs 15 rfl (by kernel_rfl) rfl rfl hC rfl (fun w hC => y_move rfl) fun a hs => ?_
                 have hs := hs.fix 267 (.bool true) rfl (vb h10372)
                 refine h_s hs 16 rfl (by kernel_rfl) rfl rfl rfl (.inl rfl) rfl rfl hC fun a hs => ?_
                 refine h_s hs 17 rfl (by kernel_rfl) rfl rfl rfl (.inl rfl) rfl rfl hC fun a hs => ?_
                 refine h_s hs 18 rfl (by kernel_rfl) rfl rfl rfl (.inl rfl) rfl rfl hC fun a hs => ?_
                 refine h_s hs 19 rfl (by kernel_rfl) rfl rfl rfl (.inl rfl) rfl rfl hC fun a hs => ?_
                 refine h_s hs 20 rfl (by kernel_rfl) rfl rfl rfl (.inl rfl) rfl rfl hC fun a hs => ?_
                 refine h_g hs 21 rfl (by kernel_rfl) rfl rfl hC rfl (fun w hC => y_pickTE (v := .bool c10314) rfl rfl (vbs h10373)) fun a hs => ?_
                 refine h_done (by kernel_rfl) ?_
                 exact ⟨Sv10298, (hs.wk rfl), (hw.ft [7, 8, 9, 10, 11] [7, 8, 9, 10, 11, 12, 13, 14] (by decide) rfl rfl)⟩
                ·have h10379 := ite_f hc10314 h10372
                 obtain ⟨rv10381, h10380, h10379⟩ := bind_t h10379
                 obtain ⟨rv10383, h10382, h10379⟩ := bind_t h10379
                 refine h_b (C := Cls [.box b10303 [.slice p10286 rv10285.1.Filter.Taps.length k10287, .int .i64 rv10285.1.Filter.Factor, .int .i64 rv10285.1.Filter.Shift, .slice p10290 rv10285.1.Past.length k10291, .int .i64 rv10285.1.Number] 51, .row p10286 rv10285.1.Filter.Taps.length k10287 c10289 3 1, .row p10290 rv10285.1.Past.length k10291 c10293 3 1, .row p10294 rv10285.2.1.length k10295 c10297 3 1, .box b10283 [.slice p10267 rv10266.1.Filter.Taps.length k10268, .int .i64 rv10266.1.Filter.Factor, .int .i64 rv10266.1.Filter.Shift, .slice p10271 rv10266.1.Past.length k10272, .int .i64 rv10266.1.Number] 51, .row p10267 rv10266.1.Filter.Taps.length k10268 c10270 3 1, .row p10274 rv10266.2.1.length k10275 c10277 3 1, .box b27 [.int .i64 stage21.Kind, .int .i64 stage21.Num.e0, .int .i64 stage21.Num.e1, .int .i64 stage21.Num.e2, .int .i64 stage21.Den.e0, .int .i64 stage21.Den.e1, .int .i64 stage21.Den.e2, .slice p22 stage21.Taps.length k23, .int .i64 stage21.Factor, .int .i64 stage21.Shift] 45, .box b58 [.slice p8163 rv8162.2.L.length k8164, .int .i64 rv8162.2.At] 75, .box b9774 [.slice p9766 x9759.Filter.Taps.length k9768, .int .i64 x9759.Filter.Factor, .int .i64 x9759.Filter.Shift, .slice p9770 x9759.Past.length k9772, .int .i64 x9759.Number] 51, .row (some ⟨b8173, 0, none⟩) ([rv8120.1, (⟨rv8120.1.Filter, rv8120.1.Past, rv8162.1⟩ : Feed), feed14] : List Feed).length ([rv8120.1, (⟨rv8120.1.Filter, rv8120.1.Past, rv8162.1⟩ : Feed), feed14] : List Feed).length [.slice p8121 rv8120.1.Filter.Taps.length k8122, .int .i64 rv8120.1.Filter.Factor, .int .i64 rv8120.1.Filter.Shift, .slice p8125 rv8120.1.Past.length k8126, .int .i64 rv8120.1.Number, .slice p8121 rv8120.1.Filter.Taps.length k8122, .int .i64 rv8120.1.Filter.Factor, .int .i64 rv8120.1.Filter.Shift, .slice p8125 rv8120.1.Past.length k8126, .int .i64 rv8162.1, .slice p15 feed14.Filter.Taps.length k16, .int .i64 feed14.Filter.Factor, .int .i64 feed14.Filter.Shift, .slice p17 feed14.Past.length k18, .int .i64 feed14.Number] 51 5, .row (some ⟨b9776, 0, none⟩) ([rv98.1, samples9, ([] : List Int)] : List (List Int)).length ([rv98.1, samples9, ([] : List Int)] : List (List Int)).length [.slice p99 rv98.1.length k100, .slice p10 samples9.length k11, .slice none ([] : List Int).length 0] 22 1] []) (by kernel_rfl) rfl (hw.drew.cs [0, 1, 2, 3, 4, 5, 6, 7, 8, 9, 10, 11] [] rfl rfl) fun hC => ?_
                 have hw := hw.drew
                 refine h_g hs 0 rfl (by kernel_rfl) rfl rfl hC rfl (fun w hC => y_move rfl) fun a hs => ?_
                 refine h_g hs 1 rfl (by kernel_rfl) rfl rfl hC rfl (fun w hC => y_move rfl) fun a hs => ?_
                 refine h_g hs 2 rfl (by kernel_rfl) rfl rfl hC rfl (fun w hC => y_neq rfl rfl) fun a hs => ?_
                 refine h_g hs 3 rfl (by kernel_rfl) rfl rfl hC rfl (fun w hC => y_move rfl) fun a hs => ?_
                 have hs := hs.fix 255 (.bool false) rfl (vb h10316)
                 refine h_t hs 4 rfl (by kernel_rfl) ⟨_, rfl, rfl⟩ rfl rfl hC (fun w hC => y_move rfl) fun a hs => ?_
                 refine h_t hs 5 rfl (by kernel_rfl) ⟨_, rfl, rfl⟩ rfl rfl hC (fun w hC => y_move rfl) fun a hs => ?_
                 refine h_one (i := 6) (by kernel_rfl) rfl ?_
                 refine st_callR hs (ref05_Same_ok h10368 hw.bdom (hw.bRow 6 rfl 3 rfl) (hw.bRow 3 rfl 0 rfl)) (do_call Try.call23 rfl) ⟨_, rfl, rfl⟩ rfl rfl ?_
                 intro v10387 Sv10384 w a h10385 h10386 hs
                 subst h10386
                 have hw := hw.callB h10385
                 refine h_nx (hw.cs [0, 1, 2, 3, 4, 5, 6, 7, 8, 9, 10, 11] [] rfl rfl) fun hC => ?_
                 refine h_t hs 7 rfl (by kernel_rfl) ⟨_, rfl, rfl⟩ rfl rfl hC (fun w hC => y_not rfl) fun a hs => ?_
                 refine h_g hs 8 rfl (by kernel_rfl) rfl rfl hC rfl (fun w hC => y_pickFE (v := .bool c10306) rfl rfl (vbs h10367)) fun a hs => ?_
                 refine h_g hs 9 rfl (by kernel_rfl) rfl rfl hC rfl (fun w hC => y_move rfl) fun a hs => ?_
                 have hs := hs.fix 261 (.bool true) rfl (vb h10370)
                 refine h_s hs 10 rfl (by kernel_rfl) rfl rfl rfl (.inl rfl) rfl rfl hC fun a hs => ?_
                 refine h_s hs 11 rfl (by kernel_rfl) rfl rfl rfl (.inl rfl) rfl rfl hC fun a hs => ?_
                 refine h_s hs 12 rfl (by kernel_rfl) rfl rfl rfl (.inl rfl) rfl rfl hC fun a hs => ?_
                 refine h_s hs 13 rfl (by kernel_rfl) rfl rfl rfl (.inl rfl) rfl rfl hC fun a hs => ?_
                 refine h_g hs 14 rfl (by kernel_rfl) rfl rfl hC rfl (fun w hC => y_pickTE (v := .bool c10309) rfl rfl (vbs h10371)) fun a hs => ?_
                 refine h_g hs 15 rfl (by kernel_rfl) rfl rfl hC rfl (fun w hC => y_move rfl) fun a hs => ?_
                 have hs := hs.fix 267 (.bool false) rfl (vb h10372)
                 refine h_t hs 16 rfl (by kernel_rfl) ⟨_, rfl, rfl⟩ rfl rfl hC (fun w hC => y_loadBA (hC.ownAt 9 rfl) rfl Try.isAgg51 Try.sizeOf51 rfl rfl) fun a hs => ?_
                 refine h_t hs 18 rfl (by kernel_rfl) ⟨_, rfl, rfl⟩ rfl rfl hC (fun w hC => y_loadBA (hC.ownAt 9 rfl) rfl Try.isAgg51 Try.sizeOf51 rfl rfl) fun a hs => ?_
                 refine h_one (i := 17) (by kernel_rfl) rfl ?_
                 refine st_callR hs (filter_ValidFeed_ok h10380 hw.bdom (hw.bE 11 rfl) (hw.bE 12 rfl)) (do_call Try.call37 rfl) ⟨_, rfl, rfl⟩ rfl rfl ?_
                 intro v10392 Sv10389 w a h10390 h10391 hs
                 subst h10391
                 have hw := hw.callB h10390
                 refine h_nx (hw.cs [0, 1, 2, 3, 4, 5, 6, 7, 8, 9, 10, 11] [] rfl rfl) fun hC => ?_
                 refine h_one (i := 19) (by kernel_rfl) rfl ?_
                 refine st_callR hs (ref21_ValidFeed_ok h10382 hw.bdom (hw.bE 11 rfl) (hw.bE 12 rfl)) (do_call Try.call38 rfl) ⟨_, rfl, rfl⟩ rfl rfl ?_
                 intro v10397 Sv10394 w a h10395 h10396 hs
                 subst h10396
                 have hw := hw.callB h10395
                 refine h_nx (hw.cs [0, 1, 2, 3, 4, 5, 6, 7, 8, 9, 10, 11] [] rfl rfl) fun hC => ?_
                 refine h_t hs 20 rfl (by kernel_rfl) ⟨_, rfl, rfl⟩ rfl rfl hC (fun w hC => y_neqB Try.runUnderlying4 rfl rfl) fun a hs => ?_
                 refine h_g hs 21 rfl (by kernel_rfl) rfl rfl hC rfl (fun w hC => y_pickFE (v := .bool c10314) rfl rfl (vbs h10379)) fun a hs => ?_
                 refine h_done (by kernel_rfl) ?_
                 exact ⟨Sv10298, (hs.wk rfl), (hw.ft [7, 8, 9, 10, 11] [7, 8, 9, 10, 11, 12, 13, 14] (by decide) rfl rfl)⟩
               ·have h10399 := ite_f hc10309 h10370
                obtain ⟨rv10401, h10400, h10399⟩ := bind_t h10399
                rcases Bool.eq_false_or_eq_true c10309 with h10402 | h10402
                ·have h10403 := ite_t hc10314 h10402
                 refine h_b (C := Cls [.box b10303 [.slice p10286 rv10285.1.Filter.Taps.length k10287, .int .i64 rv10285.1.Filter.Factor, .int .i64 rv10285.1.Filter.Shift, .slice p10290 rv10285.1.Past.length k10291, .int .i64 rv10285.1.Number] 51, .row p10286 rv10285.1.Filter.Taps.length k10287 c10289 3 1, .row p10290 rv10285.1.Past.length k10291 c10293 3 1, .row p10294 rv10285.2.1.length k10295 c10297 3 1, .box b10283 [.slice p10267 rv10266.1.Filter.Taps.length k10268, .int .i64 rv10266.1.Filter.Factor, .int .i64 rv10266.1.Filter.Shift, .slice p10271 rv10266.1.Past.length k10272, .int .i64 rv10266.1.Number] 51, .row p10267 rv10266.1.Filter.Taps.length k10268 c10270 3 1, .row p10274 rv10266.2.1.length k10275 c10277 3 1, .box b27 [.int .i64 stage21.Kind, .int .i64 stage21.Num.e0, .int .i64 stage21.Num.e1, .int .i64 stage21.Num.e2, .int .i64 stage21.Den.e0, .int .i64 stage21.Den.e1, .int .i64 stage21.Den.e2, .slice p22 stage21.Taps.length k23, .int .i64 stage21.Factor, .int .i64 stage21.Shift] 45, .box b58 [.slice p8163 rv8162.2.L.length k8164, .int .i64 rv8162.2.At] 75, .box b9774 [.slice p9766 x9759.Filter.Taps.length k9768, .int .i64 x9759.Filter.Factor, .int .i64 x9759.Filter.Shift, .slice p9770 x9759.Past.length k9772, .int .i64 x9759.Number] 51, .row (some ⟨b8173, 0, none⟩) ([rv8120.1, (⟨rv8120.1.Filter, rv8120.1.Past, rv8162.1⟩ : Feed), feed14] : List Feed).length ([rv8120.1, (⟨rv8120.1.Filter, rv8120.1.Past, rv8162.1⟩ : Feed), feed14] : List Feed).length [.slice p8121 rv8120.1.Filter.Taps.length k8122, .int .i64 rv8120.1.Filter.Factor, .int .i64 rv8120.1.Filter.Shift, .slice p8125 rv8120.1.Past.length k8126, .int .i64 rv8120.1.Number, .slice p8121 rv8120.1.Filter.Taps.length k8122, .int .i64 rv8120.1.Filter.Factor, .int .i64 rv8120.1.Filter.Shift, .slice p8125 rv8120.1.Past.length k8126, .int .i64 rv8162.1, .slice p15 feed14.Filter.Taps.length k16, .int .i64 feed14.Filter.Factor, .int .i64 feed14.Filter.Shift, .slice p17 feed14.Past.length k18, .int .i64 feed14.Number] 51 5, .row (some ⟨b9776, 0, none⟩) ([rv98.1, samples9, ([] : List Int)] : List (List Int)).length ([rv98.1, samples9, ([] : List Int)] : List (List Int)).length [.slice p99 rv98.1.length k100, .slice p10 samples9.length k11, .slice none ([] : List Int).length 0] 22 1] []) (by kernel_rfl) rfl (hw.drew.cs [0, 1, 2, 3, 4, 5, 6, 7, 8, 9, 10, 11] [] rfl rfl) fun hC => ?_
                 have hw := hw.drew
                 refine h_g hs 0 rfl (by kernel_rfl) rfl rfl hC rfl (fun w hC => y_move rfl) fun a hs => ?_
                 refine h_g hs 1 rfl (by kernel_rfl) rfl rfl hC rfl (fun w hC => y_move rfl) fun a hs => ?_
                 refine h_g hs 2 rfl (by kernel_rfl) rfl rfl hC rfl (fun w hC => y_neq rfl rfl) fun a hs => ?_
                 refine h_g hs 3 rfl (by kernel_rfl) rfl rfl hC rfl (fun w hC => y_move rfl) fun a hs => ?_
                 have hs := hs.fix 255 (.bool false) rfl (vb h10316)
                 refine h_t hs 4 rfl (by kernel_rfl) ⟨_, rfl, rfl⟩ rfl rfl hC (fun w hC => y_move rfl) fun a hs => ?_
                 refine h_t hs 5 rfl (by kernel_rfl) ⟨_, rfl, rfl⟩ rfl rfl hC (fun w hC => y_move rfl) fun a hs => ?_
                 refine h_one (i := 6) (by kernel_rfl) rfl ?_
                 refine st_callR hs (ref05_Same_ok h10368 hw.bdom (hw.bRow 6 rfl 3 rfl) (hw.bRow 3 rfl 0 rfl)) (do_call Try.call23 rfl) ⟨_, rfl, rfl⟩ rfl rfl ?_
                 intro v10407 Sv10404 w a h10405 h10406 hs
                 subst h10406
                 have hw := hw.callB h10405
                 refine h_nx (hw.cs [0, 1, 2, 3, 4, 5, 6, 7, 8, 9, 10, 11] [] rfl rfl) fun hC => ?_
                 refine h_t hs 7 rfl (by kernel_rfl) ⟨_, rfl, rfl⟩ rfl rfl hC (fun w hC => y_not rfl) fun a hs => ?_
                 refine h_g hs 8 rfl (by kernel_rfl) rfl rfl hC rfl (fun w hC => y_pickFE (v := .bool c10306) rfl rfl (vbs h10367)) fun a hs => ?_
                 refine h_g hs 9 rfl (by kernel_rfl) rfl rfl hC rfl (fun w hC => y_move rfl) fun a hs => ?_
                 have hs := hs.fix 261 (.bool false) rfl (vb h10370)
                 refine h_t hs 10 rfl (by kernel_rfl) ⟨_, rfl, rfl⟩ rfl rfl hC (fun w hC => y_loadBA (hC.ownAt 4 rfl) rfl Try.isAgg51 Try.sizeOf51 rfl rfl) fun a hs => ?_
                 refine h_t hs 11 rfl (by kernel_rfl) ⟨_, rfl, rfl⟩ rfl rfl hC (fun w hC => y_loadBA (hC.ownAt 0 rfl) rfl Try.isAgg51 Try.sizeOf51 rfl rfl) fun a hs => ?_
                 refine h_one (i := 12) (by kernel_rfl) rfl ?_
                 refine st_callR hs (ref21_SameFeed_ok h10400 hw.bdom (hw.bRow 5 rfl 5 rfl) (hw.bE 4 rfl) (hw.bRow 1 rfl 2 rfl) (hw.bRow 2 rfl 1 rfl)) (do_call Try.call26 rfl) ⟨_, rfl, rfl⟩ rfl rfl ?_
                 intro v10412 Sv10409 w a h10410 h10411 hs
                 subst h10411
                 have hw := hw.callB h10410
                 refine h_nx (hw.cs [0, 1, 2, 3, 4, 5, 6, 7, 8, 9, 10, 11] [] rfl rfl) fun hC => ?_
                 refine h_t hs 13 rfl (by kernel_rfl) ⟨_, rfl, rfl⟩ rfl rfl hC (fun w hC => y_not rfl) fun a hs => ?_
                 refine h_g hs 14 rfl (by kernel_rfl) rfl rfl hC rfl (fun w hC => y_pickFE (v := .bool c10309) rfl rfl (vbs h10399)) fun a hs => ?_
                 refine h_g hs 15 rfl (by kernel_rfl) rfl rfl hC rfl (fun w hC => y_move rfl) fun a hs => ?_
                 have hs := hs.fix 267 (.bool true) rfl (vb h10402)
                 refine h_s hs 16 rfl (by kernel_rfl) rfl rfl rfl (.inl rfl) rfl rfl hC fun a hs => ?_
                 refine h_s hs 17 rfl (by kernel_rfl) rfl rfl rfl (.inl rfl) rfl rfl hC fun a hs => ?_
                 refine h_s hs 18 rfl (by kernel_rfl) rfl rfl rfl (.inl rfl) rfl rfl hC fun a hs => ?_
                 refine h_s hs 19 rfl (by kernel_rfl) rfl rfl rfl (.inl rfl) rfl rfl hC fun a hs => ?_
                 refine h_s hs 20 rfl (by kernel_rfl) rfl rfl rfl (.inl rfl) rfl rfl hC fun a hs => ?_
                 refine h_g hs 21 rfl (by kernel_rfl) rfl rfl hC rfl (fun w hC => y_pickTE (v := .bool c10314) rfl rfl (vbs h10403)) fun a hs => ?_
                 refine h_done (by kernel_rfl) ?_
                 exact ⟨Sv10298, (hs.wk rfl), (hw.ft [7, 8, 9, 10, 11] [7, 8, 9, 10, 11, 12, 13, 14] (by decide) rfl rfl)⟩
                ·have h10414 := ite_f hc10314 h10402
                 obtain ⟨rv10416, h10415, h10414⟩ := bind_t h10414
                 obtain ⟨rv10418, h10417, h10414⟩ := bind_t h10414
                 refine h_b (C := Cls [.box b10303 [.slice p10286 rv10285.1.Filter.Taps.length k10287, .int .i64 rv10285.1.Filter.Factor, .int .i64 rv10285.1.Filter.Shift, .slice p10290 rv10285.1.Past.length k10291, .int .i64 rv10285.1.Number] 51, .row p10286 rv10285.1.Filter.Taps.length k10287 c10289 3 1, .row p10290 rv10285.1.Past.length k10291 c10293 3 1, .row p10294 rv10285.2.1.length k10295 c10297 3 1, .box b10283 [.slice p10267 rv10266.1.Filter.Taps.length k10268, .int .i64 rv10266.1.Filter.Factor, .int .i64 rv10266.1.Filter.Shift, .slice p10271 rv10266.1.Past.length k10272, .int .i64 rv10266.1.Number] 51, .row p10267 rv10266.1.Filter.Taps.length k10268 c10270 3 1, .row p10274 rv10266.2.1.length k10275 c10277 3 1, .box b27 [.int .i64 stage21.Kind, .int .i64 stage21.Num.e0, .int .i64 stage21.Num.e1, .int .i64 stage21.Num.e2, .int .i64 stage21.Den.e0, .int .i64 stage21.Den.e1, .int .i64 stage21.Den.e2, .slice p22 stage21.Taps.length k23, .int .i64 stage21.Factor, .int .i64 stage21.Shift] 45, .box b58 [.slice p8163 rv8162.2.L.length k8164, .int .i64 rv8162.2.At] 75, .box b9774 [.slice p9766 x9759.Filter.Taps.length k9768, .int .i64 x9759.Filter.Factor, .int .i64 x9759.Filter.Shift, .slice p9770 x9759.Past.length k9772, .int .i64 x9759.Number] 51, .row (some ⟨b8173, 0, none⟩) ([rv8120.1, (⟨rv8120.1.Filter, rv8120.1.Past, rv8162.1⟩ : Feed), feed14] : List Feed).length ([rv8120.1, (⟨rv8120.1.Filter, rv8120.1.Past, rv8162.1⟩ : Feed), feed14] : List Feed).length [.slice p8121 rv8120.1.Filter.Taps.length k8122, .int .i64 rv8120.1.Filter.Factor, .int .i64 rv8120.1.Filter.Shift, .slice p8125 rv8120.1.Past.length k8126, .int .i64 rv8120.1.Number, .slice p8121 rv8120.1.Filter.Taps.length k8122, .int .i64 rv8120.1.Filter.Factor, .int .i64 rv8120.1.Filter.Shift, .slice p8125 rv8120.1.Past.length k8126, .int .i64 rv8162.1, .slice p15 feed14.Filter.Taps.length k16, .int .i64 feed14.Filter.Factor, .int .i64 feed14.Filter.Shift, .slice p17 feed14.Past.length k18, .int .i64 feed14.Number] 51 5, .row (some ⟨b9776, 0, none⟩) ([rv98.1, samples9, ([] : List Int)] : List (List Int)).length ([rv98.1, samples9, ([] : List Int)] : List (List Int)).length [.slice p99 rv98.1.length k100, .slice p10 samples9.length k11, .slice none ([] : List Int).length 0] 22 1] []) (by kernel_rfl) rfl (hw.drew.cs [0, 1, 2, 3, 4, 5, 6, 7, 8, 9, 10, 11] [] rfl rfl) fun hC => ?_
                 have hw := hw.drew
                 refine h_g hs 0 rfl (by kernel_rfl) rfl rfl hC rfl (fun w hC => y_move rfl) fun a hs => ?_
                 refine h_g hs 1 rfl (by kernel_rfl) rfl rfl hC rfl (fun w hC => y_move rfl) fun a hs => ?_
                 refine h_g hs 2 rfl (by kernel_rfl) rfl rfl hC rfl (fun w hC => y_neq rfl rfl) fun a hs => ?_
                 refine h_g hs 3 rfl (by kernel_rfl) rfl rfl hC rfl (fun w hC => y_move rfl) fun a hs => ?_
                 have hs := hs.fix 255 (.bool false) rfl (vb h10316)
                 refine h_t hs 4 rfl (by kernel_rfl) ⟨_, rfl, rfl⟩ rfl rfl hC (fun w hC => y_move rfl) fun a hs => ?_
                 refine h_t hs 5 rfl (by kernel_rfl) ⟨_, rfl, rfl⟩ rfl rfl hC (fun w hC => y_move rfl) fun a hs => ?_
                 refine h_one (i := 6) (by kernel_rfl) rfl ?_
                 refine st_callR hs (ref05_Same_ok h10368 hw.bdom (hw.bRow 6 rfl 3 rfl) (hw.bRow 3 rfl 0 rfl)) (do_call Try.call23 rfl) ⟨_, rfl, rfl⟩ rfl rfl ?_
                 intro v10422 Sv10419 w a h10420 h10421 hs
                 subst h10421
                 have hw := hw.callB h10420
                 refine h_nx (hw.cs [0, 1, 2, 3, 4, 5, 6, 7, 8, 9, 10, 11] [] rfl rfl) fun hC => ?_
                 refine h_t hs 7 rfl (by kernel_rfl) ⟨_, rfl, rfl⟩ rfl rfl hC (fun w hC => y_not rfl) fun a hs => ?_
                 refine h_g hs 8 rfl (by kernel_rfl) rfl rfl hC rfl (fun w hC => y_pickFE (v := .bool c10306) rfl rfl (vbs h10367)) fun a hs => ?_
                 refine h_g hs 9 rfl (by kernel_rfl) rfl rfl hC rfl (fun w hC => y_move rfl) fun a hs => ?_
                 have hs := hs.fix 261 (.bool false) rfl (vb h10370)
                 refine h_t hs 10 rfl (by kernel_rfl) ⟨_, rfl, rfl⟩ rfl rfl hC (fun w hC => y_loadBA (hC.ownAt 4 rfl) rfl Try.isAgg51 Try.sizeOf51 rfl rfl) fun a hs => ?_
                 refine h_t hs 11 rfl (by kernel_rfl) ⟨_, rfl, rfl⟩ rfl rfl hC (fun w hC => y_loadBA (hC.ownAt 0 rfl) rfl Try.isAgg51 Try.sizeOf51 rfl rfl) fun a hs => ?_
                 refine h_one (i := 12) (by kernel_rfl) rfl ?_
                 refine st_callR hs (ref21_SameFeed_ok h10400 hw.bdom (hw.bRow 5 rfl 5 rfl) (hw.bE 4 rfl) (hw.bRow 1 rfl 2 rfl) (hw.bRow 2 rfl 1 rfl)) (do_call Try.call26 rfl) ⟨_, rfl, rfl⟩ rfl rfl ?_
                 intro v10427 Sv10424 w a h10425 h10426 hs
                 subst h10426
                 have hw := hw.callB h10425
                 refine h_nx (hw.cs [0, 1, 2, 3, 4, 5, 6, 7, 8, 9, 10, 11] [] rfl rfl) fun hC => ?_
                 refine h_t hs 13 rfl (by kernel_rfl) ⟨_, rfl, rfl⟩ rfl rfl hC (fun w hC => y_not rfl) fun a hs => ?_
                 refine h_g hs 14 rfl (by kernel_rfl) rfl rfl hC rfl (fun w hC => y_pickFE (v := .bool c10309) rfl rfl (vbs h10399)) fun a hs => ?_
                 refine h_g hs 15 rfl (by kernel_rfl) rfl rfl hC rfl (fun w hC => y_move rfl) fun a hs => ?_
                 have hs := hs.fix 267 (.bool false) rfl (vb h10402)
                 refine h_t hs 16 rfl (by kernel_rfl) ⟨_, rfl, rfl⟩ rfl rfl hC (fun w hC => y_loadBA (hC.ownAt 9 rfl) rfl Try.isAgg51 Try.sizeOf51 rfl rfl) fun a hs => ?_
                 refine h_t hs 18 rfl (by kernel_rfl) ⟨_, rfl, rfl⟩ rfl rfl hC (fun w hC => y_loadBA (hC.ownAt 9 rfl) rfl Try.isAgg51 Try.sizeOf51 rfl rfl) fun a hs => ?_
                 refine h_one (i := 17) (by kernel_rfl) rfl ?_
                 refine st_callR hs (filter_ValidFeed_ok h10415 hw.bdom (hw.bE 11 rfl) (hw.bE 12 rfl)) (do_call Try.call37 rfl) ⟨_, rfl, rfl⟩ rfl rfl ?_
                 intro v10432 Sv10429 w a h10430 h10431 hs
                 subst h10431
                 have hw := hw.callB h10430
                 refine h_nx (hw.cs [0, 1, 2, 3, 4, 5, 6, 7, 8, 9, 10, 11] [] rfl rfl) fun hC => ?_
                 refine h_one (i := 19) (by kernel_rfl) rfl ?_
                 refine st_callR hs (ref21_ValidFeed_ok h10417 hw.bdom (hw.bE 11 rfl) (hw.bE 12 rfl)) (do_call Try.call38 rfl) ⟨_, rfl, rfl⟩ rfl rfl ?_
                 intro v10437 Sv10434 w a h10435 h10436 hs
                 subst h10436
                 have hw := hw.callB h10435
                 refine h_nx (hw.cs [0, 1, 2, 3, 4, 5, 6, 7, 8, 9, 10, 11] [] rfl rfl) fun hC => ?_
                 refine h_t hs 20 rfl (by kernel_rfl) ⟨_, rfl, rfl⟩ rfl rfl hC (fun w hC => y_neqB Try.runUnderlying4 rfl rfl) fun a hs => ?_
                 refine h_g hs 21 rfl (by kernel_rfl) rfl rfl hC rfl (fun w hC => y_pickFE (v := .bool c10314) rfl rfl (vbs h10414)) fun a hs => ?_
                 refine h_done (by kernel_rfl) ?_
                 exact ⟨Sv10298, (hs.wk rfl), (hw.ft [7, 8, 9, 10, 11] [7, 8, 9, 10, 11, 12, 13, 14] (by decide) rfl rfl)⟩
             ·rintro a w ⟨Sv10315, hs, hw⟩
              refine then_normal ?_
              refine wp_cond_split (hs.ev rfl) (fun h10440 => ?_) (fun h10440 => ?_)
              ·have hsh := ite_t hsh h10440
               refine wp_seq ?_
               refine wp_region_lit ?_
               refine st_val hs (y_assign rfl) trivial rfl rfl fun a hs => ?_
               refine wpList_nil ?_
               refine then_normal ?_
               have hsh := Option.some.inj hsh
               subst hsh
               have h10441 := hd10181 _ rfl
               subst h10441
               have h10442 := hd9528 _ rfl
               subst h10442
               refine wp_ret ?_
               refine blk_ret ?_
               refine then_ret ?_
               refine then_ret ?_
               refine blk_ret ?_
               refine blk_ret ?_
               refine then_ret ?_
               refine then_ret ?_
               refine blk_ret ?_
               refine then_ret ?_
               exact ret1 hs rfl (rv_tmp rfl) (hw.ret rfl)
              ·have hsh := ite_f hsh h10440
               refine wp_skip ?_
               refine blk_normal ?_
               refine then_normal ?_
               refine wp_region_lit ?_
               refine st_val hs (y_add rfl rfl) trivial rfl rfl fun a hs => ?_
               refine st_val hs (y_move rfl) trivial rfl rfl fun a hs => ?_
               refine wpList_nil ?_
               refine then_normal ?_
               exact ⟨_, (Option.some.inj hsh).symm, Sv10315, (hs.wk rfl), (hw.ft [0, 1, 2, 3, 4] [0, 1, 2, 3, 4, 5, 6, 7] (by decide) rfl rfl)⟩
            ·have hsh := ite_f hsh h10186
             obtain ⟨rv10443, hsh, h10444⟩ := map_t hsh
             have h10444 := (hd10181 _ h10444.symm).symm
             subst h10444
             refine wp_exit ?_
             refine then_exit ?_
             refine then_exit ?_
             refine blk_exit ?_
             refine blk_normal ?_
             refine then_normal ?_
             refine wp_region_lit ?_
             refine st_val hs (y_add rfl rfl) trivial rfl rfl fun a hs => ?_
             refine st_val hs (y_move rfl) trivial rfl rfl fun a hs => ?_
             refine wpList_nil ?_
             refine then_normal ?_
             exact ⟨_, (Option.some.inj hsh).symm, Sv10114, (hs.wk rfl), (hw.ft [0, 1, 3] [0, 1, 2, 3, 6] (by decide) rfl rfl)⟩
           ·have hsh := ite_f hsh h9533
            obtain ⟨rv10942, hsh, h10943⟩ := map_t hsh
            have h10943 := (hd9528 _ h10943.symm).symm
            subst h10943
            refine wp_exit ?_
            refine then_exit ?_
            refine then_exit ?_
            refine blk_exit ?_
            refine then_normal ?_
            refine wp_seq ?_
            refine wp_seq ?_
            obtain ⟨rv10446, h10445, hsh⟩ := bind_t hsh
            refine wp_only (fun a w => ∃ (Sv10456 : Nat → Prop) (b10455 : Nat) (k10448 : Nat) (p10447 : Option Addr), Sl 306 [(279, .slice (some ⟨b10455, 0, none⟩) ([rv10446.1, stage21] : List Stage).length ([rv10446.1, stage21] : List Stage).length), (280, .int .i64 (([rv10446.1, stage21] : List Stage).length : Int)), (281, .int .i64 0)] a ∧ Wd ⟨w0, S0, []⟩ Sv10456 [.row (some ⟨b10455, 0, none⟩) ([rv10446.1, stage21] : List Stage).length ([rv10446.1, stage21] : List Stage).length [.int .i64 rv10446.1.Kind, .int .i64 rv10446.1.Num.e0, .int .i64 rv10446.1.Num.e1, .int .i64 rv10446.1.Num.e2, .int .i64 rv10446.1.Den.e0, .int .i64 rv10446.1.Den.e1, .int .i64 rv10446.1.Den.e2, .slice p10447 rv10446.1.Taps.length k10448, .int .i64 rv10446.1.Factor, .int .i64 rv10446.1.Shift, .int .i64 stage21.Kind, .int .i64 stage21.Num.e0, .int .i64 stage21.Num.e1, .int .i64 stage21.Num.e2, .int .i64 stage21.Den.e0, .int .i64 stage21.Den.e1, .int .i64 stage21.Den.e2, .slice p22 stage21.Taps.length k23, .int .i64 stage21.Factor, .int .i64 stage21.Shift] 45 10] [RowA [.int .i64 rv10446.1.Kind, .int .i64 rv10446.1.Num.e0, .int .i64 rv10446.1.Num.e1, .int .i64 rv10446.1.Num.e2, .int .i64 rv10446.1.Den.e0, .int .i64 rv10446.1.Den.e1, .int .i64 rv10446.1.Den.e2, .slice p10447 rv10446.1.Taps.length k10448, .int .i64 rv10446.1.Factor, .int .i64 rv10446.1.Shift, .int .i64 stage21.Kind, .int .i64 stage21.Num.e0, .int .i64 stage21.Num.e1, .int .i64 stage21.Num.e2, .int .i64 stage21.Den.e0, .int .i64 stage21.Den.e1, .int .i64 stage21.Den.e2, .slice p22 stage21.Taps.length k23, .int .i64 stage21.Factor, .int .i64 stage21.Shift] ([rv10446.1, stage21] : List Stage)] w) ?_ ?_
            ·refine h_b (C := Cls [.box b27 [.int .i64 stage21.Kind, .int .i64 stage21.Num.e0, .int .i64 stage21.Num.e1, .int .i64 stage21.Num.e2, .int .i64 stage21.Den.e0, .int .i64 stage21.Den.e1, .int .i64 stage21.Den.e2, .slice p22 stage21.Taps.length k23, .int .i64 stage21.Factor, .int .i64 stage21.Shift] 45, .row (some ⟨b8173, 0, none⟩) ([rv8120.1, (⟨rv8120.1.Filter, rv8120.1.Past, rv8162.1⟩ : Feed), feed14] : List Feed).length ([rv8120.1, (⟨rv8120.1.Filter, rv8120.1.Past, rv8162.1⟩ : Feed), feed14] : List Feed).length [.slice p8121 rv8120.1.Filter.Taps.length k8122, .int .i64 rv8120.1.Filter.Factor, .int .i64 rv8120.1.Filter.Shift, .slice p8125 rv8120.1.Past.length k8126, .int .i64 rv8120.1.Number, .slice p8121 rv8120.1.Filter.Taps.length k8122, .int .i64 rv8120.1.Filter.Factor, .int .i64 rv8120.1.Filter.Shift, .slice p8125 rv8120.1.Past.length k8126, .int .i64 rv8162.1, .slice p15 feed14.Filter.Taps.length k16, .int .i64 feed14.Filter.Factor, .int .i64 feed14.Filter.Shift, .slice p17 feed14.Past.length k18, .int .i64 feed14.Number] 51 5] []) (by kernel_rfl) rfl (hw.drew.cs [0, 2] [] rfl rfl) fun hC => ?_
             have hw := hw.drew
             refine h_g hs 0 rfl (by kernel_rfl) rfl rfl hC rfl (fun w hC => y_move rfl) fun a hs => ?_
             refine h_g hs 2 rfl (by kernel_rfl) rfl rfl hC rfl (fun w hC => y_loadBA (hC.ownAt 0 rfl) rfl Try.isAgg45 Try.sizeOf45 rfl rfl) fun a hs => ?_
             refine h_g hs 5 rfl (by kernel_rfl) rfl rfl hC rfl (fun w hC => y_move rfl) fun a hs => ?_
             refine h_one (i := 1) (by kernel_rfl) rfl ?_
             refine st_callR hs (made_Dice_Stage_ok h10445 hw.dom (hw.ins [1] (by decide) rfl) (hw.envAt 3 rfl)) (do_call Try.call21 rfl) trivial rfl rfl ?_
             intro v10460 Sv10457 w a h10458 h10459 hs
             obtain ⟨p10447, k10448, c10450, p10451, k10452, rfl, h10461, h10449, h10453⟩ := h10459
             have hw := hw.callO [1] [0, 2] (by decide) rfl h10458 h10461
             have hw := hw.addE (e := RowA c10450 rv10446.1.Taps) h10449
             have hw := hw.addE (e := SlA p10451 rv10446.2.L.length k10452 rv10446.2.L) h10453
             refine h_nx (hw.cs [2, 3] [] rfl rfl) fun hC => ?_
             refine h_one (i := 3) (by kernel_rfl) rfl ?_
             obtain ⟨Sv10462, hw⟩ := w_share (α := Int) hw 0 rfl 1 rfl
             refine w_litSlice (α := Stage) (vs := [.agg #[.int .i64 rv10446.1.Kind, .int .i64 rv10446.1.Num.e0, .int .i64 rv10446.1.Num.e1, .int .i64 rv10446.1.Num.e2, .int .i64 rv10446.1.Den.e0, .int .i64 rv10446.1.Den.e1, .int .i64 rv10446.1.Den.e2, .slice p10447 rv10446.1.Taps.length k10448, .int .i64 rv10446.1.Factor, .int .i64 rv10446.1.Shift], .agg #[.int .i64 stage21.Kind, .int .i64 stage21.Num.e0, .int .i64 stage21.Num.e1, .int .i64 stage21.Num.e2, .int .i64 stage21.Den.e0, .int .i64 stage21.Den.e1, .int .i64 stage21.Den.e2, .slice p22 stage21.Taps.length k23, .int .i64 stage21.Factor, .int .i64 stage21.Shift]]) (cs := [.int .i64 rv10446.1.Kind, .int .i64 rv10446.1.Num.e0, .int .i64 rv10446.1.Num.e1, .int .i64 rv10446.1.Num.e2, .int .i64 rv10446.1.Den.e0, .int .i64 rv10446.1.Den.e1, .int .i64 rv10446.1.Den.e2, .slice p10447 rv10446.1.Taps.length k10448, .int .i64 rv10446.1.Factor, .int .i64 rv10446.1.Shift, .int .i64 stage21.Kind, .int .i64 stage21.Num.e0, .int .i64 stage21.Num.e1, .int .i64 stage21.Num.e2, .int .i64 stage21.Den.e0, .int .i64 stage21.Den.e1, .int .i64 stage21.Den.e2, .slice p22 stage21.Taps.length k23, .int .i64 stage21.Factor, .int .i64 stage21.Shift]) (xs := ([rv10446.1, stage21] : List Stage)) hs hw El72 rfl rfl rfl rfl rfl rfl ⟨⟨_, _, _, _, _, _, _, _, _, _, rfl, rfl, rfl, rfl, rfl, rfl, rfl, rfl, ⟨_, _, _, rfl, hw.envAt 0 rfl⟩, rfl, rfl⟩, ⟨⟨_, _, _, _, _, _, _, _, _, _, rfl, rfl, rfl, rfl, rfl, rfl, rfl, rfl, ⟨_, _, _, rfl, hw.envAt 5 rfl⟩, rfl, rfl⟩, rfl⟩⟩ rfl trivial rfl fun b10455 a w hs hw => ?_
             refine h_nx (hw.cs [2, 3] [] rfl rfl) fun hC => ?_
             refine h_st (C' := Cls [.box b27 [.int .i64 stage21.Kind, .int .i64 stage21.Num.e0, .int .i64 stage21.Num.e1, .int .i64 stage21.Num.e2, .int .i64 stage21.Den.e0, .int .i64 stage21.Den.e1, .int .i64 stage21.Den.e2, .slice p22 stage21.Taps.length k23, .int .i64 stage21.Factor, .int .i64 stage21.Shift] 45, .row (some ⟨b8173, 0, none⟩) ([rv8120.1, (⟨rv8120.1.Filter, rv8120.1.Past, rv8162.1⟩ : Feed), feed14] : List Feed).length ([rv8120.1, (⟨rv8120.1.Filter, rv8120.1.Past, rv8162.1⟩ : Feed), feed14] : List Feed).length [.slice p8121 rv8120.1.Filter.Taps.length k8122, .int .i64 rv8120.1.Filter.Factor, .int .i64 rv8120.1.Filter.Shift, .slice p8125 rv8120.1.Past.length k8126, .int .i64 rv8120.1.Number, .slice p8121 rv8120.1.Filter.Taps.length k8122, .int .i64 rv8120.1.Filter.Factor, .int .i64 rv8120.1.Filter.Shift, .slice p8125 rv8120.1.Past.length k8126, .int .i64 rv8162.1, .slice p15 feed14.Filter.Taps.length k16, .int .i64 feed14.Filter.Factor, .int .i64 feed14.Filter.Shift, .slice p17 feed14.Past.length k18, .int .i64 feed14.Number] 51 5, .row (some ⟨b10455, 0, none⟩) ([rv10446.1, stage21] : List Stage).length ([rv10446.1, stage21] : List Stage).length [.int .i64 rv10446.1.Kind, .int .i64 rv10446.1.Num.e0, .int .i64 rv10446.1.Num.e1, .int .i64 rv10446.1.Num.e2, .int .i64 rv10446.1.Den.e0, .int .i64 rv10446.1.Den.e1, .int .i64 rv10446.1.Den.e2, .slice p10447 rv10446.1.Taps.length k10448, .int .i64 rv10446.1.Factor, .int .i64 rv10446.1.Shift, .int .i64 stage21.Kind, .int .i64 stage21.Num.e0, .int .i64 stage21.Num.e1, .int .i64 stage21.Num.e2, .int .i64 stage21.Den.e0, .int .i64 stage21.Den.e1, .int .i64 stage21.Den.e2, .slice p22 stage21.Taps.length k23, .int .i64 stage21.Factor, .int .i64 stage21.Shift] 45 10] []) (fun _ h => by exact h.sub [0, 1] (Sel.of rfl) (AllIn.of [] rfl)) (hw.cs [2, 3, 0] [] rfl rfl) fun hC => ?_
             refine h_g hs 4 rfl (by kernel_rfl) rfl rfl hC rfl (fun w hC => y_len Try.runUnderlying72 rfl) fun a hs => ?_
             refine h_done (by kernel_rfl) ?_
             exact ⟨Sv10462, b10455, k10448, p10447, (hs.wk rfl), (hw.ft [0] [0] (by decide) rfl rfl)⟩
            ·rintro a w ⟨Sv10456, b10455, k10448, p10447, hs, hw⟩
             refine then_normal ?_
             refine wp_block ?_
             refine wp_while (fun sv10639 a w => ∃ (Sv10755 : Nat → Prop), Sl 306 [(279, .slice (some ⟨b10455, 0, none⟩) ([rv10446.1, stage21] : List Stage).length ([rv10446.1, stage21] : List Stage).length), (280, .int .i64 (([rv10446.1, stage21] : List Stage).length : Int)), (281, .int .i64 sv10639)] a ∧ Wd ⟨w0, S0, []⟩ Sv10755 [.row (some ⟨b10455, 0, none⟩) ([rv10446.1, stage21] : List Stage).length ([rv10446.1, stage21] : List Stage).length [.int .i64 rv10446.1.Kind, .int .i64 rv10446.1.Num.e0, .int .i64 rv10446.1.Num.e1, .int .i64 rv10446.1.Num.e2, .int .i64 rv10446.1.Den.e0, .int .i64 rv10446.1.Den.e1, .int .i64 rv10446.1.Den.e2, .slice p10447 rv10446.1.Taps.length k10448, .int .i64 rv10446.1.Factor, .int .i64 rv10446.1.Shift, .int .i64 stage21.Kind, .int .i64 stage21.Num.e0, .int .i64 stage21.Num.e1, .int .i64 stage21.Num.e2, .int .i64 stage21.Den.e0, .int .i64 stage21.Den.e1, .int .i64 stage21.Den.e2, .slice p22 stage21.Taps.length k23, .int .i64 stage21.Factor, .int .i64 stage21.Shift] 45 10] [RowA [.int .i64 rv10446.1.Kind, .int .i64 rv10446.1.Num.e0, .int .i64 rv10446.1.Num.e1, .int .i64 rv10446.1.Num.e2, .int .i64 rv10446.1.Den.e0, .int .i64 rv10446.1.Den.e1, .int .i64 rv10446.1.Den.e2, .slice p10447 rv10446.1.Taps.length k10448, .int .i64 rv10446.1.Factor, .int .i64 rv10446.1.Shift, .int .i64 stage21.Kind, .int .i64 stage21.Num.e0, .int .i64 stage21.Num.e1, .int .i64 stage21.Num.e2, .int .i64 stage21.Den.e0, .int .i64 stage21.Den.e1, .int .i64 stage21.Den.e2, .slice p22 stage21.Taps.length k23, .int .i64 stage21.Factor, .int .i64 stage21.Shift] ([rv10446.1, stage21] : List Stage)] w) 0 hsh ⟨Sv10456, (hs.wk rfl), (hw.ft [0] [0] (by decide) rfl rfl)⟩ ?_
             repeat clear hsh
             rintro sv10639 a w tv10814 ⟨Sv10755, hs, hw⟩ hsh hd10813
             delta law21_FilterExact_l54 at hsh
             refine wp_seq ?_
             refine wp_region_lit ?_
             refine st_val hs (y_lss rfl rfl) trivial rfl rfl fun a hs => ?_
             refine wpList_nil ?_
             refine then_normal ?_
             refine wp_seq ?_
             refine wp_cond_split (hs.ev rfl) (fun h10818 => ?_) (fun h10818 => ?_)
             ·have hsh := ite_t hsh h10818
              refine wp_skip ?_
              refine then_normal ?_
              refine wp_seq ?_
              refine wp_block ?_
              refine wp_seq ?_
              refine wp_region_lit ?_
              obtain ⟨x10877, h10875, hsh⟩ := bind_t hsh
              obtain ⟨q10881, c10882, h10878, h10879, h10883, h10876⟩ := hw.elemRK (α := Stage) 0 rfl 0 rfl h10875
              obtain ⟨_, _, _, _, _, _, _, _, _, _, rfl, rfl, rfl, rfl, rfl, rfl, rfl, rfl, ⟨p10884, n10885, k10886, rfl, h10887⟩, rfl, rfl⟩ := h10876
              obtain rfl := h10887.1
              have hw := hw.addE (e := SlA p10884 _ k10886 x10877.Taps) h10887
              refine st_val hs (y_indexAt Try.runUnderlying72 Try.sizeOf45 rfl rfl h10878.1 h10878.2 h10879) trivial rfl rfl fun a hs => ?_
              refine st_val hs (y_loadQA (j := 0) (hw.ownAt 0 rfl) rfl Try.isAgg45 Try.sizeOf45 h10883 rfl rfl) trivial rfl rfl fun a hs => ?_
              refine w_alloc (cs := [.int .i64 0, .int .i64 0, .int .i64 0, .int .i64 0, .int .i64 0, .int .i64 0, .int .i64 0, .slice none ([] : List Int).length 0, .int .i64 0, .int .i64 0]) hs hw Try.zeroValue45 rfl rfl trivial ?_
              intro b10888 a w hs hw
              refine w_store (m := 10) (cs' := [.int .i64 x10877.Kind, .int .i64 x10877.Num.e0, .int .i64 x10877.Num.e1, .int .i64 x10877.Num.e2, .int .i64 x10877.Den.e0, .int .i64 x10877.Den.e1, .int .i64 x10877.Den.e2, .slice p10884 x10877.Taps.length k10886, .int .i64 x10877.Factor, .int .i64 x10877.Shift]) hs hw 0 rfl rfl rfl Try.sizeOf45 rfl rfl rfl rfl trivial ?_
              intro a w hs hw
              refine wpList_nil ?_
              refine then_normal ?_
              refine wp_seq ?_
              refine wp_region_lit ?_
              refine st_val hs (y_loadBA (hw.ownAt 0 rfl) rfl Try.isAgg45 Try.sizeOf45 rfl rfl) trivial rfl rfl fun a hs => ?_
              obtain ⟨rv10890, h10889, hsh⟩ := bind_t hsh
              refine st_callR hs (filter_Stage_ok h10889 hw.dom (hw.envAt 0 rfl)) (do_call Try.call22 rfl) trivial rfl rfl ?_
              intro v10898 Sv10895 w a h10896 h10897 hs
              obtain ⟨p10891, k10892, c10894, rfl, h10899, h10893⟩ := h10897
              have hw := hw.callN h10896 h10899
              have hw := hw.addE (e := RowA c10894 rv10890.1.Taps) h10893
              refine st_val hs (y_move rfl) trivial rfl rfl fun a hs => ?_
              refine st_val hs (y_extract rfl rfl) trivial rfl rfl fun a hs => ?_
              refine st_val hs (y_extract rfl rfl) trivial rfl rfl fun a hs => ?_
              refine w_alloc (cs := [.slice none ([] : List Int).length 0, .int .i64 0, .int .i64 0]) hs hw Try.zeroValue28 rfl rfl trivial ?_
              intro b10900 a w hs hw
              refine w_store (m := 3) (cs' := [.slice p10891 rv10890.1.Taps.length k10892, .int .i64 rv10890.1.Factor, .int .i64 rv10890.1.Shift]) hs hw 0 rfl rfl rfl Try.sizeOf28 rfl rfl rfl rfl trivial ?_
              intro a w hs hw
              refine st_val hs (y_assign rfl) trivial rfl rfl fun a hs => ?_
              refine wpList_nil ?_
              refine then_normal ?_
              refine wp_seq ?_
              refine wp_region_lit ?_
              refine st_val hs (y_loadBA (hw.ownAt 2 rfl) rfl Try.isAgg45 Try.sizeOf45 rfl rfl) trivial rfl rfl fun a hs => ?_
              obtain ⟨rv10902, h10901, hsh⟩ := bind_t hsh
              refine st_callR hs (ref21_Stage_ok h10901 hw.dom (hw.envAt 1 rfl)) (do_call Try.call39 rfl) trivial rfl rfl ?_
              intro v10910 Sv10907 w a h10908 h10909 hs
              obtain ⟨p10903, k10904, c10906, rfl, h10911, h10905⟩ := h10909
              have hw := hw.callN h10908 h10911
              have hw := hw.addE (e := RowA c10906 rv10902.1.Taps) h10905
              refine st_val hs (y_move rfl) trivial rfl rfl fun a hs => ?_
              refine st_val hs (y_extract rfl rfl) trivial rfl rfl fun a hs => ?_
              refine st_val hs (y_extract rfl rfl) trivial rfl rfl fun a hs => ?_
              refine w_alloc (cs := [.slice none ([] : List Int).length 0, .int .i64 0, .int .i64 0]) hs hw Try.zeroValue28 rfl rfl trivial ?_
              intro b10912 a w hs hw
              refine w_store (m := 3) (cs' := [.slice p10903 rv10902.1.Taps.length k10904, .int .i64 rv10902.1.Factor, .int .i64 rv10902.1.Shift]) hs hw 0 rfl rfl rfl Try.sizeOf28 rfl rfl rfl rfl trivial ?_
              intro a w hs hw
              refine st_val hs (y_assign rfl) trivial rfl rfl fun a hs => ?_
              refine wpList_nil ?_
              refine then_normal ?_
              refine wp_seq ?_
              refine wp_region_lit ?_
              refine st_val hs (y_move rfl) trivial rfl rfl fun a hs => ?_
              refine st_val hs (y_move rfl) trivial rfl rfl fun a hs => ?_
              refine st_val hs (y_neq rfl rfl) trivial rfl rfl fun a hs => ?_
              refine st_val hs (y_move rfl) trivial rfl rfl fun a hs => ?_
              obtain ⟨c10921, hc10921, hsh⟩ := bind_t hsh
              refine wpl_join 5 (fun a w => ∃ (Sv10922 : Nat → Prop), Sl 306 [(279, .slice (some ⟨b10455, 0, none⟩) ([rv10446.1, stage21] : List Stage).length ([rv10446.1, stage21] : List Stage).length), (280, .int .i64 (([rv10446.1, stage21] : List Stage).length : Int)), (281, .int .i64 sv10639), (303, .bool c10921)] a ∧ Wd ⟨w0, S0, []⟩ Sv10922 [.row (some ⟨b10455, 0, none⟩) ([rv10446.1, stage21] : List Stage).length ([rv10446.1, stage21] : List Stage).length [.int .i64 rv10446.1.Kind, .int .i64 rv10446.1.Num.e0, .int .i64 rv10446.1.Num.e1, .int .i64 rv10446.1.Num.e2, .int .i64 rv10446.1.Den.e0, .int .i64 rv10446.1.Den.e1, .int .i64 rv10446.1.Den.e2, .slice p10447 rv10446.1.Taps.length k10448, .int .i64 rv10446.1.Factor, .int .i64 rv10446.1.Shift, .int .i64 stage21.Kind, .int .i64 stage21.Num.e0, .int .i64 stage21.Num.e1, .int .i64 stage21.Num.e2, .int .i64 stage21.Den.e0, .int .i64 stage21.Den.e1, .int .i64 stage21.Den.e2, .slice p22 stage21.Taps.length k23, .int .i64 stage21.Factor, .int .i64 stage21.Shift] 45 10] [RowA [.int .i64 rv10446.1.Kind, .int .i64 rv10446.1.Num.e0, .int .i64 rv10446.1.Num.e1, .int .i64 rv10446.1.Num.e2, .int .i64 rv10446.1.Den.e0, .int .i64 rv10446.1.Den.e1, .int .i64 rv10446.1.Den.e2, .slice p10447 rv10446.1.Taps.length k10448, .int .i64 rv10446.1.Factor, .int .i64 rv10446.1.Shift, .int .i64 stage21.Kind, .int .i64 stage21.Num.e0, .int .i64 stage21.Num.e1, .int .i64 stage21.Num.e2, .int .i64 stage21.Den.e0, .int .i64 stage21.Den.e1, .int .i64 stage21.Den.e2, .slice p22 stage21.Taps.length k23, .int .i64 stage21.Factor, .int .i64 stage21.Shift] ([rv10446.1, stage21] : List Stage)] w) ?_ ?_
              ·rcases Bool.eq_false_or_eq_true (rv10890.2 != rv10902.2) with h10920 | h10920
               ·have hs := hs.fix 298 (.bool true) rfl (vb h10920)
                have hsh := ite_t hc10921 h10920
                refine st_skip hs rfl rfl rfl rfl rfl fun a hs => ?_
                refine st_skip hs rfl rfl rfl rfl rfl fun a hs => ?_
                refine st_skip hs rfl rfl rfl rfl rfl fun a hs => ?_
                refine st_skip hs rfl rfl rfl rfl rfl fun a hs => ?_
                refine st_val hs (y_pickT rfl rfl) trivial rfl rfl fun a hs => ?_
                refine wpList_nil ?_
                have hsh := Option.some.inj hsh
                subst hsh
                refine then_normal ?_
                exact ⟨Sv10907, (hs.wk rfl), (hw.ft [5] [3] (by decide) rfl rfl)⟩
               ·have hs := hs.fix 298 (.bool false) rfl (vb h10920)
                have hsh := ite_f hc10921 h10920
                refine st_val hs (y_loadBA (hw.ownAt 2 rfl) rfl Try.isAgg28 Try.sizeOf28 rfl rfl) ⟨_, rfl, rfl⟩ rfl rfl fun a hs => ?_
                refine st_val hs (y_loadBA (hw.ownAt 0 rfl) rfl Try.isAgg28 Try.sizeOf28 rfl rfl) ⟨_, rfl, rfl⟩ rfl rfl fun a hs => ?_
                obtain ⟨rv10924, h10923, hsh⟩ := bind_t hsh
                refine st_callR hs (ref21_Same_ok h10923 hw.bdom (hw.bRow 3 rfl 1 rfl) (hw.bRow 1 rfl 0 rfl)) (do_call Try.call19 rfl) ⟨_, rfl, rfl⟩ rfl rfl ?_
                intro v10928 Sv10925 w a h10926 h10927 hs
                subst h10927
                have hw := hw.callB h10926
                refine st_val hs (y_not rfl) ⟨_, rfl, rfl⟩ rfl rfl fun a hs => ?_
                refine st_val hs (y_pickF rfl rfl) trivial rfl rfl fun a hs => ?_
                refine wpList_nil ?_
                have hsh := Option.some.inj hsh
                subst hsh
                refine then_normal ?_
                exact ⟨Sv10907, (hs.wk rfl), (hw.ft [5] [3] (by decide) rfl rfl)⟩
              ·rintro a w ⟨Sv10922, hs, hw⟩
               refine wpList_nil ?_
               refine then_normal ?_
               refine wp_cond_split (hs.ev rfl) (fun h10931 => ?_) (fun h10931 => ?_)
               ·have hsh := ite_t hsh h10931
                refine wp_seq ?_
                refine wp_region_lit ?_
                refine st_val hs (y_assign rfl) trivial rfl rfl fun a hs => ?_
                refine wpList_nil ?_
                refine then_normal ?_
                have hsh := Option.some.inj hsh
                subst hsh
                have h10932 := hd10813 _ rfl
                subst h10932
                refine wp_ret ?_
                refine blk_ret ?_
                refine then_ret ?_
                refine then_ret ?_
                refine blk_ret ?_
                refine then_ret ?_
                exact ret1 hs rfl (rv_tmp rfl) (hw.ret rfl)
               ·have hsh := ite_f hsh h10931
                refine wp_skip ?_
                refine blk_normal ?_
                refine then_normal ?_
                refine wp_region_lit ?_
                refine st_val hs (y_add rfl rfl) trivial rfl rfl fun a hs => ?_
                refine st_val hs (y_move rfl) trivial rfl rfl fun a hs => ?_
                refine wpList_nil ?_
                refine then_normal ?_
                exact ⟨_, (Option.some.inj hsh).symm, Sv10922, (hs.wk rfl), (hw.ft [0] [0] (by decide) rfl rfl)⟩
             ·have hsh := ite_f hsh h10818
              obtain ⟨rv10940, hsh, h10941⟩ := map_t hsh
              have h10941 := (hd10813 _ h10941.symm).symm
              subst h10941
              refine wp_exit ?_
              refine then_exit ?_
              refine then_exit ?_
              refine blk_exit ?_
              refine then_normal ?_
              refine wp_seq ?_
              refine wp_region_lit ?_
              obtain ⟨rv10934, h10933, hsh⟩ := bind_t hsh
              refine st_callR hs (law21_sane_ok h10933 hw.bdom) (do_call Try.call11 rfl) trivial rfl rfl ?_
              intro v10938 Sv10935 w a h10936 h10937 hs
              subst h10937
              have hw := hw.callB h10936
              refine st_val hs (y_assign rfl) trivial rfl rfl fun a hs => ?_
              refine wpList_nil ?_
              refine then_normal ?_
              have hsh := Option.some.inj hsh
              subst hsh
              refine wp_ret ?_
              exact ret1 hs rfl (rv_tmp rfl) (hw.ret rfl)

end Go.Proofs.Ytmihimhknllmcaa.Wk

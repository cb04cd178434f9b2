/- The walks of ResponseExact, part 1: each Go function computes what its plain program computes. Printed by a program of ours. -/
import Derived.Test.YtoendkojgjobbaaProg
import Derived.Test.YtoendkojgjobbaaDat
import Derived.Test.YtoendkojgjobbaaSh
import Derived.Test.YtoendkojgjobbaaLibL
import Derived.Test.YtoendkojgjobbaaLibZ
import Derived.Test.YtoendkojgjobbaaLibQ
import Derived.KernelRfl
namespace Go.Proofs.Ytoendkojgjobbaa.Wk
open Go Go.RowKit Go.Proofs Go.Proofs.Ytoendkojgjobbaa.Sh
set_option linter.unusedVariables false
set_option linter.unusedSimpArgs false

theorem El24 : ElT Try.prog 24 3 1 8 (.int .i64 0) := ⟨Try.underlying24, ⟨Try.t3, info_of Try.type3, rfl, rfl, rfl⟩, rfl, by decide⟩
theorem El29 : ElT Try.prog 29 3 1 8 (.int .i64 0) := ⟨Try.underlying29, ⟨Try.t3, info_of Try.type3, rfl, rfl, rfl⟩, rfl, by decide⟩
theorem El35 : ElT Try.prog 35 26 10 96 (.agg #[.int .i64 0, .int .i64 0, .int .i64 0, .int .i64 0, .int .i64 0, .int .i64 0, .int .i64 0, .slice none ([] : List Int).length 0, .int .i64 0, .int .i64 0]) := ⟨Try.underlying35, ⟨Try.t26, info_of Try.type26, rfl, rfl, rfl⟩, rfl, by decide⟩
theorem El63 : ElT Try.prog 63 37 1 24 (.agg #[.slice none ([] : List Stage).length 0]) := ⟨Try.underlying63, ⟨Try.t37, info_of Try.type37, rfl, rfl, rfl⟩, rfl, by decide⟩
theorem El67 : ElT Try.prog 67 64 2 16 (.agg #[.int .i64 0, .int .i64 0]) := ⟨Try.underlying67, ⟨Try.t64, info_of Try.type64, rfl, rfl, rfl⟩, rfl, by decide⟩
theorem El69 : ElT Try.prog 69 51 2 16 (.agg #[.int .i64 0, .int .i64 0]) := ⟨Try.underlying69, ⟨Try.t51, info_of Try.type51, rfl, rfl, rfl⟩, rfl, by decide⟩
theorem El93 : ElT Try.prog 93 24 1 24 (.slice none ([] : List Int).length 0) := ⟨Try.underlying93, ⟨Try.t24, info_of Try.type24, rfl, rfl, rfl⟩, rfl, by decide⟩
theorem El111 : ElT Try.prog 111 35 1 24 (.slice none ([] : List Stage).length 0) := ⟨Try.underlying111, ⟨Try.t35, info_of Try.type35, rfl, rfl, rfl⟩, rfl, by decide⟩
theorem Bld23 : BldT Try.prog 23 (fun i => some (i * 1, 1)) [.int .i64 0, .int .i64 0, .int .i64 0] := bld_arr Try.zeroValue23 rfl Try.runUnderlying23 Try.sizeOf3
theorem Bld26 : BldT Try.prog 26 ((#[(0, 1), (1, 3), (4, 3), (7, 1), (8, 1), (9, 1)] : Array (Nat × Nat))[·]?) [.int .i64 0, .int .i64 0, .int .i64 0, .int .i64 0, .int .i64 0, .int .i64 0, .int .i64 0, .slice none ([] : List Int).length 0, .int .i64 0, .int .i64 0] := bld_of Try.zeroValue26 rfl Try.runUnderlying26 (fun w => by simp [Try.sizeOf3, Try.sizeOf23, Try.sizeOf24])
theorem Bld31 : BldT Try.prog 31 ((#[(0, 1), (1, 1)] : Array (Nat × Nat))[·]?) [.slice none ([] : List Int).length 0, .slice none ([] : List Int).length 0] := bld_of Try.zeroValue31 rfl Try.runUnderlying31 (fun w => by simp [Try.sizeOf29])
theorem Bld37 : BldT Try.prog 37 ((#[(0, 1)] : Array (Nat × Nat))[·]?) [.slice none ([] : List Stage).length 0] := bld_of Try.zeroValue37 rfl Try.runUnderlying37 (fun w => by simp [Try.sizeOf35])
theorem Bld51 : BldT Try.prog 51 ((#[(0, 1), (1, 1)] : Array (Nat × Nat))[·]?) [.int .i64 0, .int .i64 0] := bld_of Try.zeroValue51 rfl Try.runUnderlying51 (fun w => by simp [Try.sizeOf3])
theorem Bld57 : BldT Try.prog 57 ((#[(0, 1), (1, 1)] : Array (Nat × Nat))[·]?) [.int .i64 0, .int .i64 0] := bld_of Try.zeroValue57 rfl Try.runUnderlying57 (fun w => by simp [Try.sizeOf3])
theorem Bld64 : BldT Try.prog 64 (fun i => some (i * 1, 1)) [.int .i64 0, .int .i64 0] := bld_arr Try.zeroValue64 rfl Try.runUnderlying64 Try.sizeOf3
theorem Bld84 : BldT Try.prog 84 ((#[(0, 1), (1, 1)] : Array (Nat × Nat))[·]?) [.slice none ([] : List Int).length 0, .int .i64 0] := bld_of Try.zeroValue84 rfl Try.runUnderlying84 (fun w => by simp [Try.sizeOf3, Try.sizeOf24])

abbrev made_Light_rd (w0 : World) (X : List Nat) (r : Bool) : (Nat → Prop) → World → Value → Prop := fun S w v => v = .bool r
set_option maxHeartbeats 4000000 in
set_option maxRecDepth 100000 in
theorem made_Light_ok {w0 : World} {S0 : Nat → Prop} {p2 : Option Addr} {k3 : Nat} {l1 : (List Int)} {r : Bool} (hsh : made_Light l1 = some r) (hS : ∀ b, S0 b → b < w0.heap.size) (h4 : (SlA p2 l1.length k3 l1).p S0 w0) : Calls Try.prog 13 #[.slice p2 l1.length k3] w0 (Ret ([]) w0 S0 (made_Light_rd w0 ([]) r)) := by
 refine calls_of_wp Try.func13 rfl ?_
 have hs := Sl.enter #[.slice p2 l1.length k3] 6 [(0, .slice p2 l1.length k3)] rfl ⟨rfl, trivial⟩
 have hw := Wd.enter (E := []) hS (fun _ h => (by cases h))
 have hw := hw.addE h4
 delta made_Light at hsh
 refine sr ?_
 refine av hs rfl rfl fun a hs => ?_
 refine nl ?_
 refine sr ?_
 refine mv hs rfl rfl fun a hs => ?_
 refine sv hs (y_len Try.runUnderlying24 rfl) rfl fun a hs => ?_
 refine sv hs (y_leq rfl rfl) rfl fun a hs => ?_
 refine av hs rfl rfl fun a hs => ?_
 refine nl ?_
 have hsh := oi hsh
 subst hsh
 refine wp_ret ?_
 exact ret1 hs rfl (rv_tmp rfl) (hw.ret rfl)

abbrev slices_IndexFunc_Lapi_Stage_api_Stage_rd (w0 : World) (X : List Nat) (r : Int) : (Nat → Prop) → World → Value → Prop := fun S w v => v = .int .i64 r
set_option maxHeartbeats 4000000 in
set_option maxRecDepth 100000 in
theorem slices_IndexFunc_Lapi_Stage_api_Stage_ok {w0 : World} {S0 : Nat → Prop} {p2 : Option Addr} {k3 : Nat} {g6 : Nat} {f7 : List Value} {cp8 : List Value} {s1 : (List Stage)} {f5 : Stage → Option Bool} {r : Int} (hsh : slices_IndexFunc_Lapi_Stage_api_Stage s1 f5 = some r) (hS : ∀ b, S0 b → b < w0.heap.size) (h4 : (SlA p2 s1.length k3 s1).p S0 w0) (h9 : (FnA1 Try.prog g6 f7 cp8 f5).p S0 w0) : Calls Try.prog 90 #[.slice p2 s1.length k3, .func (.func g6) f7.toArray cp8.toArray] w0 (Ret ([]) w0 S0 (slices_IndexFunc_Lapi_Stage_api_Stage_rd w0 ([]) r)) := by
 refine calls_of_wp Try.func90 rfl ?_
 have hs := Sl.enter #[.slice p2 s1.length k3, .func (.func g6) f7.toArray cp8.toArray] 19 [(0, .slice p2 s1.length k3), (1, .func (.func g6) f7.toArray cp8.toArray)] rfl ⟨rfl, rfl, trivial⟩
 have hw := Wd.enter (E := []) hS (fun _ h => (by cases h))
 have hw := hw.addE h4
 have hw := hw.addE h9
 delta slices_IndexFunc_Lapi_Stage_api_Stage at hsh
 refine sr ?_
 refine av hs rfl rfl fun a hs => ?_
 refine nl ?_
 refine wp_seq ?_
 refine sr ?_
 refine mv hs rfl rfl fun a hs => ?_
 refine sv hs (y_len Try.runUnderlying35 rfl) rfl fun a hs => ?_
 refine mv hs rfl rfl fun a hs => ?_
 refine nl ?_
 refine wp_block ?_
 refine wp_while (fun sv90 a w => ∃ (Sv142 : Nat → Prop), Sl 19 [(0, .slice p2 s1.length k3), (1, .func (.func g6) f7.toArray cp8.toArray), (7, .int .i64 (s1.length : Int)), (8, .int .i64 sv90)] a ∧ Wd ⟨w0, S0, []⟩ Sv142 [] [SlA p2 s1.length k3 s1, FnA1 Try.prog g6 f7 cp8 f5] w) 0 hsh ⟨S0, (hs.wk rfl), (hw.ft [] [1, 0] (by decide) rfl rfl)⟩ ?_
 repeat clear hsh
 rintro sv90 a w tv169 ⟨Sv142, hs, hw⟩ hsh hd168
 delta slices_IndexFunc_Lapi_Stage_api_Stage_l2 at hsh
 refine sr ?_
 refine sv hs (y_lss rfl rfl) rfl fun a hs => ?_
 refine nl ?_
 refine wp_seq ?_
 refine wp_cond_split (hs.ev rfl) (fun h173 => ?_) (fun h173 => ?_)
 ·have hsh := ite_t hsh h173
  refine wp_skip ?_
  refine then_normal ?_
  refine wp_seq ?_
  refine wp_block ?_
  refine sr ?_
  refine mv hs rfl rfl fun a hs => ?_
  refine av hs rfl rfl fun a hs => ?_
  refine nl ?_
  refine sr ?_
  refine mv hs rfl rfl fun a hs => ?_
  refine mv hs rfl rfl fun a hs => ?_
  refine mv hs rfl rfl fun a hs => ?_
  obtain ⟨x200, h198, hsh⟩ := bind_t hsh
  obtain ⟨b206, o207, q204, c205, h208, h201, h202, h203, h199⟩ := hw.elemV 0 rfl h198
  have hsv209 := hs
  have hwv210 := hw
  subst h208
  have hs := hsv209
  have hw := hwv210
  obtain ⟨_, _, _, _, _, _, _, _, _, _, rfl, rfl, rfl, rfl, rfl, rfl, rfl, rfl, ⟨p211, n212, k213, rfl, h214⟩, rfl, rfl⟩ := h199
  obtain rfl := h214.1
  have hw := hw.addE (e := SlA p211 _ k213 x200.Taps) h214
  have hw := hw.addE h203
  refine sv hs (y_indexAt Try.runUnderlying35 Try.sizeOf26 rfl rfl h201.1 h201.2 h202) rfl fun a hs => ?_
  refine sv hs (y_loadEA (j := 0) (hw.ceAt 0 rfl) rfl Try.isAgg26 Try.sizeOf26 rfl rfl) rfl fun a hs => ?_
  obtain ⟨rv216, h215, hsh⟩ := bind_t hsh
  refine st_callR hs ((hw.bE 3 rfl).2 Keep.rfl' hw.bdom ⟨_, _, _, _, _, _, _, _, _, _, rfl, rfl, rfl, rfl, rfl, rfl, rfl, rfl, ⟨_, _, _, rfl, hw.bE 1 rfl⟩, rfl, rfl⟩ h215) (do_callF (hw.bE 3 rfl).1 rfl rfl) trivial rfl rfl ?_
  intro v220 Sv217 w a h218 h219 hs
  subst h219
  have hw := hw.callB h218
  refine nl ?_
  refine wp_cond_split (hs.ev rfl) (fun h222 => ?_) (fun h222 => ?_)
  ·have hsh := ite_t hsh h222
   refine sr ?_
   refine mv hs rfl rfl fun a hs => ?_
   refine av hs rfl rfl fun a hs => ?_
   refine nl ?_
   have hsh := oi hsh
   subst hsh
   have h223 := hd168 _ rfl
   subst h223
   refine wp_ret ?_
   refine blk_ret ?_
   refine then_ret ?_
   refine then_ret ?_
   refine blk_ret ?_
   refine then_ret ?_
   exact ret1 hs rfl (rv_tmp rfl) (hw.ret rfl)
  have hsh := ite_f hsh h222
  refine wp_skip ?_
  refine blk_normal ?_
  refine then_normal ?_
  refine wp_region_lit ?_
  refine sv hs (y_add rfl rfl) rfl fun a hs => ?_
  refine mv hs rfl rfl fun a hs => ?_
  refine nl ?_
  exact ⟨_, (Option.some.inj hsh).symm, Sv142, (hs.wk rfl), (hw.ft [] [2, 3] (by decide) rfl rfl)⟩
 have hsh := ite_f hsh h173
 obtain ⟨rv224, hsh, h225⟩ := map_t hsh
 have h225 := (hd168 _ h225.symm).symm
 subst h225
 refine wp_exit ?_
 refine then_exit ?_
 refine then_exit ?_
 refine blk_exit ?_
 refine then_normal ?_
 refine sr ?_
 refine av hs rfl rfl fun a hs => ?_
 refine nl ?_
 have hsh := oi hsh
 subst hsh
 refine wp_ret ?_
 exact ret1 hs rfl (rv_tmp rfl) (hw.ret rfl)

abbrev slices_ContainsFunc_Lapi_Stage_api_Stage_rd (w0 : World) (X : List Nat) (r : Bool) : (Nat → Prop) → World → Value → Prop := fun S w v => v = .bool r
set_option maxHeartbeats 4000000 in
set_option maxRecDepth 100000 in
theorem slices_ContainsFunc_Lapi_Stage_api_Stage_ok {w0 : World} {S0 : Nat → Prop} {p2 : Option Addr} {k3 : Nat} {g6 : Nat} {f7 : List Value} {cp8 : List Value} {s1 : (List Stage)} {f5 : Stage → Option Bool} {r : Bool} (hsh : slices_ContainsFunc_Lapi_Stage_api_Stage s1 f5 = some r) (hS : ∀ b, S0 b → b < w0.heap.size) (h4 : (SlA p2 s1.length k3 s1).p S0 w0) (h9 : (FnA1 Try.prog g6 f7 cp8 f5).p S0 w0) : Calls Try.prog 64 #[.slice p2 s1.length k3, .func (.func g6) f7.toArray cp8.toArray] w0 (Ret ([]) w0 S0 (slices_ContainsFunc_Lapi_Stage_api_Stage_rd w0 ([]) r)) := by
 refine calls_of_wp Try.func64 rfl ?_
 have hs := Sl.enter #[.slice p2 s1.length k3, .func (.func g6) f7.toArray cp8.toArray] 9 [(0, .slice p2 s1.length k3), (1, .func (.func g6) f7.toArray cp8.toArray)] rfl ⟨rfl, rfl, trivial⟩
 have hw := Wd.enter (E := []) hS (fun _ h => (by cases h))
 have hw := hw.addE h4
 have hw := hw.addE h9
 delta slices_ContainsFunc_Lapi_Stage_api_Stage at hsh
 refine sr ?_
 refine av hs rfl rfl fun a hs => ?_
 refine nl ?_
 refine sr ?_
 refine mv hs rfl rfl fun a hs => ?_
 refine mv hs rfl rfl fun a hs => ?_
 obtain ⟨rv11, h10, hsh⟩ := bind_t hsh
 refine st_callR hs (slices_IndexFunc_Lapi_Stage_api_Stage_ok h10 hw.bdom (hw.bE 1 rfl) (hw.bE 0 rfl)) (do_call Try.call90 rfl) trivial rfl rfl ?_
 intro v15 Sv12 w a h13 h14 hs
 subst h14
 have hw := hw.callB h13
 refine sv hs (y_geq rfl rfl) rfl fun a hs => ?_
 refine av hs rfl rfl fun a hs => ?_
 refine nl ?_
 have hsh := oi hsh
 subst hsh
 refine wp_ret ?_
 exact ret1 hs rfl (rv_tmp rfl) (hw.ret rfl)

abbrev response_in_rd (w0 : World) (X : List Nat) (r : Bool) : (Nat → Prop) → World → Value → Prop := fun S w v => v = .bool r
set_option maxHeartbeats 4000000 in
set_option maxRecDepth 100000 in
theorem response_in_ok {w0 : World} {S0 : Nat → Prop} {n1 : Int} {low2 : Int} {high3 : Int} {r : Bool} (hsh : response_in n1 low2 high3 = some r) (hS : ∀ b, S0 b → b < w0.heap.size) : Calls Try.prog 39 #[.int .i64 n1, .int .i64 low2, .int .i64 high3] w0 (Ret ([]) w0 S0 (response_in_rd w0 ([]) r)) := by
 refine calls_of_wp Try.func39 rfl ?_
 have hs := Sl.enter #[.int .i64 n1, .int .i64 low2, .int .i64 high3] 15 [(0, .int .i64 n1), (1, .int .i64 low2), (2, .int .i64 high3)] rfl ⟨rfl, rfl, rfl, trivial⟩
 have hw := Wd.enter (E := []) hS (fun _ h => (by cases h))
 delta response_in at hsh
 refine sr ?_
 refine av hs rfl rfl fun a hs => ?_
 refine nl ?_
 refine sr ?_
 refine mv hs rfl rfl fun a hs => ?_
 refine mv hs rfl rfl fun a hs => ?_
 refine sv hs (y_geq rfl rfl) rfl fun a hs => ?_
 refine mv hs rfl rfl fun a hs => ?_
 refine wpl_join 4 (fun a w1 => w0 = w1 ∧ Sl 15 [(14, .bool ((decide (low2 ≤ n1)) && (decide (n1 ≤ high3))))] a) ?_ ?_
 ·rcases Bool.eq_false_or_eq_true (decide (low2 ≤ n1)) with h4 | h4
  ·have hs := hs.fix 10 (.bool true) rfl (vb h4)
   refine st_val hs (y_move rfl) ⟨_, rfl, rfl⟩ rfl rfl fun a hs => ?_
   refine st_val hs (y_move rfl) ⟨_, rfl, rfl⟩ rfl rfl fun a hs => ?_
   refine st_val hs (y_leq rfl rfl) ⟨_, rfl, rfl⟩ rfl rfl fun a hs => ?_
   refine sv hs (y_pickT rfl rfl) rfl fun a hs => ?_
   refine nl ?_
   exact ⟨rfl, (hs.fix 14 (.bool ((decide (low2 ≤ n1)) && (decide (n1 ≤ high3)))) rfl (and_t h4)).weaken _ ⟨rfl, trivial⟩⟩
  have hs := hs.fix 10 (.bool false) rfl (vb h4)
  refine st_skip hs rfl rfl rfl rfl rfl fun a hs => ?_
  refine st_skip hs rfl rfl rfl rfl rfl fun a hs => ?_
  refine st_skip hs rfl rfl rfl rfl rfl fun a hs => ?_
  refine sv hs (y_pickF rfl rfl) rfl fun a hs => ?_
  refine nl ?_
  exact ⟨rfl, (hs.fix 14 (.bool ((decide (low2 ≤ n1)) && (decide (n1 ≤ high3)))) rfl (and_f h4)).weaken _ ⟨rfl, trivial⟩⟩
 rintro a w1 ⟨h5, hs⟩
 subst h5
 refine av hs rfl rfl fun a hs => ?_
 refine nl ?_
 have hsh := oi hsh
 subst hsh
 refine wp_ret ?_
 exact ret1 hs rfl (rv_tmp rfl) (hw.ret rfl)

abbrev slices_IndexFunc_Lint_int_rd (w0 : World) (X : List Nat) (r : Int) : (Nat → Prop) → World → Value → Prop := fun S w v => v = .int .i64 r
set_option maxHeartbeats 4000000 in
set_option maxRecDepth 100000 in
theorem slices_IndexFunc_Lint_int_ok {w0 : World} {S0 : Nat → Prop} {p2 : Option Addr} {k3 : Nat} {g6 : Nat} {f7 : List Value} {cp8 : List Value} {s1 : (List Int)} {f5 : Int → Option Bool} {r : Int} (hsh : slices_IndexFunc_Lint_int s1 f5 = some r) (hS : ∀ b, S0 b → b < w0.heap.size) (h4 : (SlA p2 s1.length k3 s1).p S0 w0) (h9 : (FnA1 Try.prog g6 f7 cp8 f5).p S0 w0) : Calls Try.prog 91 #[.slice p2 s1.length k3, .func (.func g6) f7.toArray cp8.toArray] w0 (Ret ([]) w0 S0 (slices_IndexFunc_Lint_int_rd w0 ([]) r)) := by
 refine calls_of_wp Try.func91 rfl ?_
 have hs := Sl.enter #[.slice p2 s1.length k3, .func (.func g6) f7.toArray cp8.toArray] 19 [(0, .slice p2 s1.length k3), (1, .func (.func g6) f7.toArray cp8.toArray)] rfl ⟨rfl, rfl, trivial⟩
 have hw := Wd.enter (E := []) hS (fun _ h => (by cases h))
 have hw := hw.addE h4
 have hw := hw.addE h9
 delta slices_IndexFunc_Lint_int at hsh
 refine sr ?_
 refine av hs rfl rfl fun a hs => ?_
 refine nl ?_
 refine wp_seq ?_
 refine sr ?_
 refine mv hs rfl rfl fun a hs => ?_
 refine sv hs (y_len Try.runUnderlying24 rfl) rfl fun a hs => ?_
 refine mv hs rfl rfl fun a hs => ?_
 refine nl ?_
 refine wp_block ?_
 refine wp_while (fun sv78 a w => ∃ (Sv122 : Nat → Prop), Sl 19 [(0, .slice p2 s1.length k3), (1, .func (.func g6) f7.toArray cp8.toArray), (7, .int .i64 (s1.length : Int)), (8, .int .i64 sv78)] a ∧ Wd ⟨w0, S0, []⟩ Sv122 [] [SlA p2 s1.length k3 s1, FnA1 Try.prog g6 f7 cp8 f5] w) 0 hsh ⟨S0, (hs.wk rfl), (hw.ft [] [1, 0] (by decide) rfl rfl)⟩ ?_
 repeat clear hsh
 rintro sv78 a w tv145 ⟨Sv122, hs, hw⟩ hsh hd144
 delta slices_IndexFunc_Lint_int_l2 at hsh
 refine sr ?_
 refine sv hs (y_lss rfl rfl) rfl fun a hs => ?_
 refine nl ?_
 refine wp_seq ?_
 refine wp_cond_split (hs.ev rfl) (fun h149 => ?_) (fun h149 => ?_)
 ·have hsh := ite_t hsh h149
  refine wp_skip ?_
  refine then_normal ?_
  refine wp_seq ?_
  refine wp_block ?_
  refine sr ?_
  refine mv hs rfl rfl fun a hs => ?_
  refine av hs rfl rfl fun a hs => ?_
  refine nl ?_
  refine sr ?_
  refine mv hs rfl rfl fun a hs => ?_
  refine mv hs rfl rfl fun a hs => ?_
  refine mv hs rfl rfl fun a hs => ?_
  obtain ⟨x172, h170, hsh⟩ := bind_t hsh
  obtain ⟨b178, o179, q176, c177, h180, h173, h174, h175, h171⟩ := hw.elemV 0 rfl h170
  have hsv181 := hs
  have hwv182 := hw
  subst h180
  have hs := hsv181
  have hw := hwv182
  obtain ⟨_, rfl, rfl⟩ := h171
  have hw := hw.addE h175
  refine sv hs (y_indexAt Try.runUnderlying24 Try.sizeOf3 rfl rfl h173.1 h173.2 h174) rfl fun a hs => ?_
  refine sv hs (y_loadE1 (j := 0) (hw.ceAt 0 rfl) rfl Try.isAgg3 rfl) rfl fun a hs => ?_
  obtain ⟨rv184, h183, hsh⟩ := bind_t hsh
  refine st_callR hs ((hw.bE 2 rfl).2 Keep.rfl' hw.bdom ⟨_, rfl, rfl⟩ h183) (do_callF (hw.bE 2 rfl).1 rfl rfl) trivial rfl rfl ?_
  intro v188 Sv185 w a h186 h187 hs
  subst h187
  have hw := hw.callB h186
  refine nl ?_
  refine wp_cond_split (hs.ev rfl) (fun h190 => ?_) (fun h190 => ?_)
  ·have hsh := ite_t hsh h190
   refine sr ?_
   refine mv hs rfl rfl fun a hs => ?_
   refine av hs rfl rfl fun a hs => ?_
   refine nl ?_
   have hsh := oi hsh
   subst hsh
   have h191 := hd144 _ rfl
   subst h191
   refine wp_ret ?_
   refine blk_ret ?_
   refine then_ret ?_
   refine then_ret ?_
   refine blk_ret ?_
   refine then_ret ?_
   exact ret1 hs rfl (rv_tmp rfl) (hw.ret rfl)
  have hsh := ite_f hsh h190
  refine wp_skip ?_
  refine blk_normal ?_
  refine then_normal ?_
  refine wp_region_lit ?_
  refine sv hs (y_add rfl rfl) rfl fun a hs => ?_
  refine mv hs rfl rfl fun a hs => ?_
  refine nl ?_
  exact ⟨_, (Option.some.inj hsh).symm, Sv122, (hs.wk rfl), (hw.ft [] [1, 2] (by decide) rfl rfl)⟩
 have hsh := ite_f hsh h149
 obtain ⟨rv192, hsh, h193⟩ := map_t hsh
 have h193 := (hd144 _ h193.symm).symm
 subst h193
 refine wp_exit ?_
 refine then_exit ?_
 refine then_exit ?_
 refine blk_exit ?_
 refine then_normal ?_
 refine sr ?_
 refine av hs rfl rfl fun a hs => ?_
 refine nl ?_
 have hsh := oi hsh
 subst hsh
 refine wp_ret ?_
 exact ret1 hs rfl (rv_tmp rfl) (hw.ret rfl)

abbrev slices_ContainsFunc_Lint_int_rd (w0 : World) (X : List Nat) (r : Bool) : (Nat → Prop) → World → Value → Prop := fun S w v => v = .bool r
set_option maxHeartbeats 4000000 in
set_option maxRecDepth 100000 in
theorem slices_ContainsFunc_Lint_int_ok {w0 : World} {S0 : Nat → Prop} {p2 : Option Addr} {k3 : Nat} {g6 : Nat} {f7 : List Value} {cp8 : List Value} {s1 : (List Int)} {f5 : Int → Option Bool} {r : Bool} (hsh : slices_ContainsFunc_Lint_int s1 f5 = some r) (hS : ∀ b, S0 b → b < w0.heap.size) (h4 : (SlA p2 s1.length k3 s1).p S0 w0) (h9 : (FnA1 Try.prog g6 f7 cp8 f5).p S0 w0) : Calls Try.prog 71 #[.slice p2 s1.length k3, .func (.func g6) f7.toArray cp8.toArray] w0 (Ret ([]) w0 S0 (slices_ContainsFunc_Lint_int_rd w0 ([]) r)) := by
 refine calls_of_wp Try.func71 rfl ?_
 have hs := Sl.enter #[.slice p2 s1.length k3, .func (.func g6) f7.toArray cp8.toArray] 9 [(0, .slice p2 s1.length k3), (1, .func (.func g6) f7.toArray cp8.toArray)] rfl ⟨rfl, rfl, trivial⟩
 have hw := Wd.enter (E := []) hS (fun _ h => (by cases h))
 have hw := hw.addE h4
 have hw := hw.addE h9
 delta slices_ContainsFunc_Lint_int at hsh
 refine sr ?_
 refine av hs rfl rfl fun a hs => ?_
 refine nl ?_
 refine sr ?_
 refine mv hs rfl rfl fun a hs => ?_
 refine mv hs rfl rfl fun a hs => ?_
 obtain ⟨rv11, h10, hsh⟩ := bind_t hsh
 refine st_callR hs (slices_IndexFunc_Lint_int_ok h10 hw.bdom (hw.bE 1 rfl) (hw.bE 0 rfl)) (do_call Try.call91 rfl) trivial rfl rfl ?_
 intro v15 Sv12 w a h13 h14 hs
 subst h14
 have hw := hw.callB h13
 refine sv hs (y_geq rfl rfl) rfl fun a hs => ?_
 refine av hs rfl rfl fun a hs => ?_
 refine nl ?_
 have hsh := oi hsh
 subst hsh
 refine wp_ret ?_
 exact ret1 hs rfl (rv_tmp rfl) (hw.ret rfl)

abbrev response_terms_fn1_rd (w0 : World) (X : List Nat) (r : Bool) : (Nat → Prop) → World → Value → Prop := fun S w v => v = .bool r
set_option maxHeartbeats 4000000 in
set_option maxRecDepth 100000 in
theorem response_terms_fn1_ok {w0 : World} {S0 : Nat → Prop} {n1 : Int} {r : Bool} (hsh : response_terms_fn1 n1 = some r) (hS : ∀ b, S0 b → b < w0.heap.size) : Calls Try.prog 72 #[.int .i64 n1] w0 (Ret ([]) w0 S0 (response_terms_fn1_rd w0 ([]) r)) := by
 refine calls_of_wp Try.func72 rfl ?_
 have hs := Sl.enter #[.int .i64 n1] 6 [(0, .int .i64 n1)] rfl ⟨rfl, trivial⟩
 have hw := Wd.enter (E := []) hS (fun _ h => (by cases h))
 delta response_terms_fn1 at hsh
 refine sr ?_
 refine av hs rfl rfl fun a hs => ?_
 refine nl ?_
 refine sr ?_
 refine mv hs rfl rfl fun a hs => ?_
 obtain ⟨rv3, h2, hsh⟩ := bind_t hsh
 refine st_callR hs (response_in_ok h2 hw.bdom) (do_call Try.call39 rfl) trivial rfl rfl ?_
 intro v7 Sv4 w a h5 h6 hs
 subst h6
 have hw := hw.callB h5
 refine sv hs (y_not rfl) rfl fun a hs => ?_
 refine av hs rfl rfl fun a hs => ?_
 refine nl ?_
 have hsh := oi hsh
 subst hsh
 refine wp_ret ?_
 exact ret1 hs rfl (rv_tmp rfl) (hw.ret rfl)

theorem response_terms_fn1_fn (S0 : Nat → Prop) (w0 : World) : (FnA1 Try.prog 72 [] [] response_terms_fn1).p S0 w0 := by
  refine ⟨Try.call72, ?_⟩
  intro S1 w1 hk hS c0 x0 r1 h0 hf
  obtain ⟨_, rfl, rfl⟩ := h0
  exact response_terms_fn1_ok hf hS  

abbrev response_terms_rd (w0 : World) (X : List Nat) (r : Bool) : (Nat → Prop) → World → Value → Prop := fun S w v => v = .bool r
set_option maxHeartbeats 4000000 in
set_option maxRecDepth 100000 in
theorem response_terms_ok {w0 : World} {S0 : Nat → Prop} {p2 : Option Addr} {k3 : Nat} {l1 : (List Int)} {r : Bool} (hsh : response_terms l1 = some r) (hS : ∀ b, S0 b → b < w0.heap.size) (h4 : (SlA p2 l1.length k3 l1).p S0 w0) : Calls Try.prog 40 #[.slice p2 l1.length k3] w0 (Ret ([]) w0 S0 (response_terms_rd w0 ([]) r)) := by
 refine calls_of_wp Try.func40 rfl ?_
 have hs := Sl.enter #[.slice p2 l1.length k3] 6 [(0, .slice p2 l1.length k3)] rfl ⟨rfl, trivial⟩
 have hw := Wd.enter (E := []) hS (fun _ h => (by cases h))
 have hw := hw.addE h4
 delta response_terms at hsh
 refine sr ?_
 refine av hs rfl rfl fun a hs => ?_
 refine nl ?_
 refine sr ?_
 refine mv hs rfl rfl fun a hs => ?_
 obtain ⟨rv6, h5, hsh⟩ := bind_t hsh
 refine st_callR hs (slices_ContainsFunc_Lint_int_ok h5 hw.bdom (hw.bE 0 rfl) (response_terms_fn1_fn _ _)) (do_call Try.call71 rfl) trivial rfl rfl ?_
 intro v10 Sv7 w a h8 h9 hs
 subst h9
 have hw := hw.callB h8
 refine sv hs (y_not rfl) rfl fun a hs => ?_
 refine av hs rfl rfl fun a hs => ?_
 refine nl ?_
 have hsh := oi hsh
 subst hsh
 refine wp_ret ?_
 exact ret1 hs rfl (rv_tmp rfl) (hw.ret rfl)

abbrev response_sum_rd (w0 : World) (X : List Nat) (r : Int) : (Nat → Prop) → World → Value → Prop := fun S w v => v = .int .i64 r
set_option maxHeartbeats 4000000 in
set_option maxRecDepth 100000 in
theorem response_sum_ok {w0 : World} {S0 : Nat → Prop} {p2 : Option Addr} {k3 : Nat} {l1 : (List Int)} {r : Int} (hsh : response_sum l1 = some r) (hS : ∀ b, S0 b → b < w0.heap.size) (h4 : (SlA p2 l1.length k3 l1).p S0 w0) : Calls Try.prog 41 #[.slice p2 l1.length k3] w0 (Ret ([]) w0 S0 (response_sum_rd w0 ([]) r)) := by
 refine calls_of_wp Try.func41 rfl ?_
 have hs := Sl.enter #[.slice p2 l1.length k3] 17 [(0, .slice p2 l1.length k3)] rfl ⟨rfl, trivial⟩
 have hw := Wd.enter (E := []) hS (fun _ h => (by cases h))
 have hw := hw.addE h4
 delta response_sum at hsh
 refine sr ?_
 refine av hs rfl rfl fun a hs => ?_
 refine nl ?_
 refine sr ?_
 refine av hs rfl rfl fun a hs => ?_
 refine nl ?_
 refine wp_seq ?_
 refine sr ?_
 refine mv hs rfl rfl fun a hs => ?_
 refine sv hs (y_len Try.runUnderlying24 rfl) rfl fun a hs => ?_
 refine mv hs rfl rfl fun a hs => ?_
 refine nl ?_
 obtain ⟨e59, h94, hsh⟩ := bind_t hsh
 refine wp_join (fun a w => ∃ (Sv60 : Nat → Prop), Sl 17 [(3, .int .i64 e59)] a ∧ Wd ⟨w0, S0, []⟩ Sv60 [] [] w) ?_ ?_
 ·refine wp_block ?_
  refine wp_while (fun sv5 a w => ∃ (Sv39 : Nat → Prop), Sl 17 [(3, .int .i64 sv5.1), (6, .slice p2 l1.length k3), (7, .int .i64 (l1.length : Int)), (8, .int .i64 sv5.2)] a ∧ Wd ⟨w0, S0, []⟩ Sv39 [] [SlA p2 l1.length k3 l1] w) (0, 0) h94 ⟨S0, (hs.wk rfl), (hw.ft [] [0] (by decide) rfl rfl)⟩ ?_
  clear h94
  repeat clear hsh
  rintro sv5 a w tv57 ⟨Sv39, hs, hw⟩ hsh hd56
  delta response_sum_l1 at hsh
  refine sr ?_
  refine sv hs (y_lss rfl rfl) rfl fun a hs => ?_
  refine nl ?_
  refine wp_seq ?_
  refine wp_cond_split (hs.ev rfl) (fun h62 => ?_) (fun h62 => ?_)
  ·have hsh := ite_t hsh h62
   refine wp_skip ?_
   refine then_normal ?_
   refine wp_seq ?_
   refine wp_block ?_
   refine sr ?_
   obtain ⟨x80, h78, hsh⟩ := bind_t hsh
   obtain ⟨b86, o87, q84, c85, h88, h81, h82, h83, h79⟩ := hw.elemV 0 rfl h78
   have hsv89 := hs
   have hwv90 := hw
   subst h88
   have hs := hsv89
   have hw := hwv90
   obtain ⟨_, rfl, rfl⟩ := h79
   have hw := hw.addE h83
   refine sv hs (y_indexAt Try.runUnderlying24 Try.sizeOf3 rfl rfl h81.1 h81.2 h82) rfl fun a hs => ?_
   refine sv hs (y_loadE1 (j := 0) (hw.ceAt 0 rfl) rfl Try.isAgg3 rfl) rfl fun a hs => ?_
   refine av hs rfl rfl fun a hs => ?_
   refine nl ?_
   refine wp_region_lit ?_
   refine mv hs rfl rfl fun a hs => ?_
   refine mv hs rfl rfl fun a hs => ?_
   refine sv hs (y_add rfl rfl) rfl fun a hs => ?_
   obtain ⟨n92, h91, hsh⟩ := bind_t hsh
   refine sv hs (y_assignI rfl h91) rfl fun a hs => ?_
   refine wpList_nil ?_
   refine blk_normal ?_
   refine then_normal ?_
   refine wp_region_lit ?_
   refine sv hs (y_add rfl rfl) rfl fun a hs => ?_
   refine mv hs rfl rfl fun a hs => ?_
   refine nl ?_
   exact ⟨_, (Option.some.inj hsh).symm, Sv39, (hs.wk rfl), (hw.ft [] [1] (by decide) rfl rfl)⟩
  have hsh := ite_f hsh h62
  refine wp_exit ?_
  refine then_exit ?_
  refine then_exit ?_
  refine blk_exit ?_
  have hsh := oi hsh
  subst hsh
  have h93 := hd56 _ rfl
  subst h93
  refine then_normal ?_
  exact ⟨Sv39, (hs.wk rfl), (hw.ft [] [] (by decide) rfl rfl)⟩
 rintro a w ⟨Sv60, hs, hw⟩
 refine then_normal ?_
 refine sr ?_
 refine mv hs rfl rfl fun a hs => ?_
 refine av hs rfl rfl fun a hs => ?_
 refine nl ?_
 have hsh := oi hsh
 subst hsh
 refine wp_ret ?_
 exact ret1 hs rfl (rv_tmp rfl) (hw.ret rfl)

abbrev response_ValidStage_rd (w0 : World) (X : List Nat) (r : Bool) : (Nat → Prop) → World → Value → Prop := fun S w v => v = .bool r
set_option maxHeartbeats 4000000 in
set_option maxRecDepth 100000 in
theorem response_ValidStage_ok {w0 : World} {S0 : Nat → Prop} {p2 : Option Addr} {k3 : Nat} {s1 : Stage} {r : Bool} (hsh : response_ValidStage s1 = some r) (hS : ∀ b, S0 b → b < w0.heap.size) (h4 : (SlA p2 s1.Taps.length k3 s1.Taps).p S0 w0) : Calls Try.prog 7 #[.agg #[.int .i64 s1.Kind, .int .i64 s1.Num.e0, .int .i64 s1.Num.e1, .int .i64 s1.Num.e2, .int .i64 s1.Den.e0, .int .i64 s1.Den.e1, .int .i64 s1.Den.e2, .slice p2 s1.Taps.length k3, .int .i64 s1.Factor, .int .i64 s1.Shift]] w0 (Ret ([]) w0 S0 (response_ValidStage_rd w0 ([]) r)) := by
 refine calls_of_wp Try.func7 rfl ?_
 have hs := Sl.enter #[.agg #[.int .i64 s1.Kind, .int .i64 s1.Num.e0, .int .i64 s1.Num.e1, .int .i64 s1.Num.e2, .int .i64 s1.Den.e0, .int .i64 s1.Den.e1, .int .i64 s1.Den.e2, .slice p2 s1.Taps.length k3, .int .i64 s1.Factor, .int .i64 s1.Shift]] 111 [(0, .agg #[.int .i64 s1.Kind, .int .i64 s1.Num.e0, .int .i64 s1.Num.e1, .int .i64 s1.Num.e2, .int .i64 s1.Den.e0, .int .i64 s1.Den.e1, .int .i64 s1.Den.e2, .slice p2 s1.Taps.length k3, .int .i64 s1.Factor, .int .i64 s1.Shift])] rfl ⟨rfl, trivial⟩
 have hw := Wd.enter (E := []) hS (fun _ h => (by cases h))
 have hw := hw.addE h4
 delta response_ValidStage at hsh
 refine sr ?_
 refine w_box (cs := [.int .i64 s1.Kind, .int .i64 s1.Num.e0, .int .i64 s1.Num.e1, .int .i64 s1.Num.e2, .int .i64 s1.Den.e0, .int .i64 s1.Den.e1, .int .i64 s1.Den.e2, .slice p2 s1.Taps.length k3, .int .i64 s1.Factor, .int .i64 s1.Shift]) hs hw rfl rfl rfl trivial ?_
 intro b5 a w hs hw
 refine av hs rfl rfl fun a hs => ?_
 refine nl ?_
 refine sr ?_
 refine sv hs (y_fieldAddr (o' := 7) Try.runUnderlying26 rfl Try.sizeOf24 rfl rfl rfl) rfl fun a hs => ?_
 refine sv hs (y_loadB1 (hw.ownAt 0 rfl) rfl Try.isAgg24 rfl) rfl fun a hs => ?_
 refine sv hs (y_len Try.runUnderlying24 rfl) rfl fun a hs => ?_
 refine sv hs (y_eql rfl rfl) rfl fun a hs => ?_
 refine mv hs rfl rfl fun a hs => ?_
 refine wpl_join 4 (fun a w1 => w = w1 ∧ Sl 111 [(1, .pointer (some ⟨b5, 0, none⟩)), (12, .bool (((s1.Taps.length : Int) == 0) && (s1.Factor == 0)))] a) ?_ ?_
 ·rcases Bool.eq_false_or_eq_true ((s1.Taps.length : Int) == 0) with h6 | h6
  ·have hs := hs.fix 8 (.bool true) rfl (vb h6)
   refine st_val hs (y_fieldAddr (o' := 8) Try.runUnderlying26 rfl Try.sizeOf3 rfl rfl rfl) ⟨_, rfl, rfl⟩ rfl rfl fun a hs => ?_
   refine st_val hs (y_loadB1 (hw.ownAt 0 rfl) rfl Try.isAgg3 rfl) ⟨_, rfl, rfl⟩ rfl rfl fun a hs => ?_
   refine st_val hs (y_eql rfl rfl) ⟨_, rfl, rfl⟩ rfl rfl fun a hs => ?_
   refine sv hs (y_pickT rfl rfl) rfl fun a hs => ?_
   refine nl ?_
   exact ⟨rfl, (hs.fix 12 (.bool (((s1.Taps.length : Int) == 0) && (s1.Factor == 0))) rfl (and_t h6)).weaken _ ⟨rfl, rfl, trivial⟩⟩
  have hs := hs.fix 8 (.bool false) rfl (vb h6)
  refine st_skip hs rfl rfl rfl rfl rfl fun a hs => ?_
  refine st_skip hs rfl rfl rfl rfl rfl fun a hs => ?_
  refine st_skip hs rfl rfl rfl rfl rfl fun a hs => ?_
  refine sv hs (y_pickF rfl rfl) rfl fun a hs => ?_
  refine nl ?_
  exact ⟨rfl, (hs.fix 12 (.bool (((s1.Taps.length : Int) == 0) && (s1.Factor == 0))) rfl (and_f h6)).weaken _ ⟨rfl, rfl, trivial⟩⟩
 rintro a w1 ⟨h726, hs⟩
 subst h726
 refine mv hs rfl rfl fun a hs => ?_
 refine wpl_join 4 (fun a w1 => w = w1 ∧ Sl 111 [(1, .pointer (some ⟨b5, 0, none⟩)), (17, .bool ((((s1.Taps.length : Int) == 0) && (s1.Factor == 0)) && (s1.Shift == 0)))] a) ?_ ?_
 ·rcases Bool.eq_false_or_eq_true (((s1.Taps.length : Int) == 0) && (s1.Factor == 0)) with h7 | h7
  ·have hs := hs.fix 13 (.bool true) rfl (vb h7)
   refine st_val hs (y_fieldAddr (o' := 9) Try.runUnderlying26 rfl Try.sizeOf3 rfl rfl rfl) ⟨_, rfl, rfl⟩ rfl rfl fun a hs => ?_
   refine st_val hs (y_loadB1 (hw.ownAt 0 rfl) rfl Try.isAgg3 rfl) ⟨_, rfl, rfl⟩ rfl rfl fun a hs => ?_
   refine st_val hs (y_eql rfl rfl) ⟨_, rfl, rfl⟩ rfl rfl fun a hs => ?_
   refine sv hs (y_pickT rfl rfl) rfl fun a hs => ?_
   refine nl ?_
   exact ⟨rfl, (hs.fix 17 (.bool ((((s1.Taps.length : Int) == 0) && (s1.Factor == 0)) && (s1.Shift == 0))) rfl (and_t h7)).weaken _ ⟨rfl, rfl, trivial⟩⟩
  have hs := hs.fix 13 (.bool false) rfl (vb h7)
  refine st_skip hs rfl rfl rfl rfl rfl fun a hs => ?_
  refine st_skip hs rfl rfl rfl rfl rfl fun a hs => ?_
  refine st_skip hs rfl rfl rfl rfl rfl fun a hs => ?_
  refine sv hs (y_pickF rfl rfl) rfl fun a hs => ?_
  refine nl ?_
  exact ⟨rfl, (hs.fix 17 (.bool ((((s1.Taps.length : Int) == 0) && (s1.Factor == 0)) && (s1.Shift == 0))) rfl (and_f h7)).weaken _ ⟨rfl, rfl, trivial⟩⟩
 rintro a w1 ⟨h725, hs⟩
 subst h725
 refine av hs rfl rfl fun a hs => ?_
 refine nl ?_
 refine wp_seq ?_
 refine sr ?_
 refine sv hs (y_fieldAddr (o' := 0) Try.runUnderlying26 rfl Try.sizeOf3 rfl rfl rfl) rfl fun a hs => ?_
 refine sv hs (y_loadB1 (hw.ownAt 0 rfl) rfl Try.isAgg3 rfl) rfl fun a hs => ?_
 refine nl ?_
 refine wp_block ?_
 refine sr ?_
 refine sv hs (y_eql rfl rfl) rfl fun a hs => ?_
 refine av hs rfl rfl fun a hs => ?_
 refine nl ?_
 refine wp_cond_split (hs.ev rfl) (fun h342 => ?_) (fun h342 => ?_)
 ·have hsh := ite_t hsh h342
  refine sr ?_
  refine mv hs rfl rfl fun a hs => ?_
  refine mv hs rfl rfl fun a hs => ?_
  refine wpl_join 8 (fun a w1 => w = w1 ∧ Sl 111 [(1, .pointer (some ⟨b5, 0, none⟩)), (31, .bool (((((s1.Taps.length : Int) == 0) && (s1.Factor == 0)) && (s1.Shift == 0)) && ((s1.Num.e0 == s1.Num.e0) && ((s1.Num.e1 == 0) && ((s1.Num.e2 == 0) && true)))))] a) ?_ ?_
  ·rcases Bool.eq_false_or_eq_true ((((s1.Taps.length : Int) == 0) && (s1.Factor == 0)) && (s1.Shift == 0)) with h343 | h343
   ·have hs := hs.fix 23 (.bool true) rfl (vb h343)
    refine st_val hs (y_fieldAddr (o' := 1) Try.runUnderlying26 rfl Try.sizeOf23 rfl rfl rfl) ⟨_, rfl, rfl⟩ rfl rfl fun a hs => ?_
    refine st_val hs (y_loadBA (hw.ownAt 0 rfl) rfl Try.isAgg23 Try.sizeOf23 rfl rfl) ⟨_, rfl, rfl⟩ rfl rfl fun a hs => ?_
    refine st_val hs (y_fieldAddr (o' := 1) Try.runUnderlying26 rfl Try.sizeOf23 rfl rfl rfl) ⟨_, rfl, rfl⟩ rfl rfl fun a hs => ?_
    refine st_val hs (y_indexAtA (q := 1) Try.runUnderlying23 Try.sizeOf3 rfl rfl (by decide) (by decide) rfl) ⟨_, rfl, rfl⟩ rfl rfl fun a hs => ?_
    refine st_val hs (y_loadB1 (hw.ownAt 0 rfl) rfl Try.isAgg3 rfl) ⟨_, rfl, rfl⟩ rfl rfl fun a hs => ?_
    refine st_val hs (y_build (vs := [(0, .int .i64 s1.Num.e0)]) Bld23 rfl rfl) ⟨_, rfl, rfl⟩ rfl rfl fun a hs => ?_
    refine st_val hs (y_eqlA (by kernel_rfl) rfl rfl (eqv_array Try.runUnderlying23 Try.sizeOf3 (EqA.cons1 Try.isAgg3 rfl rfl (eqv_int Try.runUnderlying3) (EqA.cons1 Try.isAgg3 rfl rfl (eqv_int Try.runUnderlying3) (EqA.cons1 Try.isAgg3 rfl rfl (eqv_int Try.runUnderlying3) EqA.nil))))) ⟨_, rfl, rfl⟩ rfl rfl fun a hs => ?_
    refine sv hs (y_pickT rfl rfl) rfl fun a hs => ?_
    refine nl ?_
    exact ⟨rfl, (hs.fix 31 (.bool (((((s1.Taps.length : Int) == 0) && (s1.Factor == 0)) && (s1.Shift == 0)) && ((s1.Num.e0 == s1.Num.e0) && ((s1.Num.e1 == 0) && ((s1.Num.e2 == 0) && true))))) rfl (and_t h343)).weaken _ ⟨rfl, rfl, trivial⟩⟩
   have hs := hs.fix 23 (.bool false) rfl (vb h343)
   refine st_skip hs rfl rfl rfl rfl rfl fun a hs => ?_
   refine st_skip hs rfl rfl rfl rfl rfl fun a hs => ?_
   refine st_skip hs rfl rfl rfl rfl rfl fun a hs => ?_
   refine st_skip hs rfl rfl rfl rfl rfl fun a hs => ?_
   refine st_skip hs rfl rfl rfl rfl rfl fun a hs => ?_
   refine st_skip hs rfl rfl rfl rfl rfl fun a hs => ?_
   refine st_skip hs rfl rfl rfl rfl rfl fun a hs => ?_
   refine sv hs (y_pickF rfl rfl) rfl fun a hs => ?_
   refine nl ?_
   exact ⟨rfl, (hs.fix 31 (.bool (((((s1.Taps.length : Int) == 0) && (s1.Factor == 0)) && (s1.Shift == 0)) && ((s1.Num.e0 == s1.Num.e0) && ((s1.Num.e1 == 0) && ((s1.Num.e2 == 0) && true))))) rfl (and_f h343)).weaken _ ⟨rfl, rfl, trivial⟩⟩
  rintro a w1 ⟨h380, hs⟩
  subst h380
  refine mv hs rfl rfl fun a hs => ?_
  refine wpl_join 8 (fun a w1 => w = w1 ∧ Sl 111 [(1, .pointer (some ⟨b5, 0, none⟩)), (40, .bool ((((((s1.Taps.length : Int) == 0) && (s1.Factor == 0)) && (s1.Shift == 0)) && ((s1.Num.e0 == s1.Num.e0) && ((s1.Num.e1 == 0) && ((s1.Num.e2 == 0) && true)))) && ((s1.Den.e0 == s1.Den.e0) && ((s1.Den.e1 == 0) && ((s1.Den.e2 == 0) && true)))))] a) ?_ ?_
  ·rcases Bool.eq_false_or_eq_true (((((s1.Taps.length : Int) == 0) && (s1.Factor == 0)) && (s1.Shift == 0)) && ((s1.Num.e0 == s1.Num.e0) && ((s1.Num.e1 == 0) && ((s1.Num.e2 == 0) && true)))) with h344 | h344
   ·have hs := hs.fix 32 (.bool true) rfl (vb h344)
    refine st_val hs (y_fieldAddr (o' := 4) Try.runUnderlying26 rfl Try.sizeOf23 rfl rfl rfl) ⟨_, rfl, rfl⟩ rfl rfl fun a hs => ?_
    refine st_val hs (y_loadBA (hw.ownAt 0 rfl) rfl Try.isAgg23 Try.sizeOf23 rfl rfl) ⟨_, rfl, rfl⟩ rfl rfl fun a hs => ?_
    refine st_val hs (y_fieldAddr (o' := 4) Try.runUnderlying26 rfl Try.sizeOf23 rfl rfl rfl) ⟨_, rfl, rfl⟩ rfl rfl fun a hs => ?_
    refine st_val hs (y_indexAtA (q := 4) Try.runUnderlying23 Try.sizeOf3 rfl rfl (by decide) (by decide) rfl) ⟨_, rfl, rfl⟩ rfl rfl fun a hs => ?_
    refine st_val hs (y_loadB1 (hw.ownAt 0 rfl) rfl Try.isAgg3 rfl) ⟨_, rfl, rfl⟩ rfl rfl fun a hs => ?_
    refine st_val hs (y_build (vs := [(0, .int .i64 s1.Den.e0)]) Bld23 rfl rfl) ⟨_, rfl, rfl⟩ rfl rfl fun a hs => ?_
    refine st_val hs (y_eqlA (by kernel_rfl) rfl rfl (eqv_array Try.runUnderlying23 Try.sizeOf3 (EqA.cons1 Try.isAgg3 rfl rfl (eqv_int Try.runUnderlying3) (EqA.cons1 Try.isAgg3 rfl rfl (eqv_int Try.runUnderlying3) (EqA.cons1 Try.isAgg3 rfl rfl (eqv_int Try.runUnderlying3) EqA.nil))))) ⟨_, rfl, rfl⟩ rfl rfl fun a hs => ?_
    refine sv hs (y_pickT rfl rfl) rfl fun a hs => ?_
    refine nl ?_
    exact ⟨rfl, (hs.fix 40 (.bool ((((((s1.Taps.length : Int) == 0) && (s1.Factor == 0)) && (s1.Shift == 0)) && ((s1.Num.e0 == s1.Num.e0) && ((s1.Num.e1 == 0) && ((s1.Num.e2 == 0) && true)))) && ((s1.Den.e0 == s1.Den.e0) && ((s1.Den.e1 == 0) && ((s1.Den.e2 == 0) && true))))) rfl (and_t h344)).weaken _ ⟨rfl, rfl, trivial⟩⟩
   have hs := hs.fix 32 (.bool false) rfl (vb h344)
   refine st_skip hs rfl rfl rfl rfl rfl fun a hs => ?_
   refine st_skip hs rfl rfl rfl rfl rfl fun a hs => ?_
   refine st_skip hs rfl rfl rfl rfl rfl fun a hs => ?_
   refine st_skip hs rfl rfl rfl rfl rfl fun a hs => ?_
   refine st_skip hs rfl rfl rfl rfl rfl fun a hs => ?_
   refine st_skip hs rfl rfl rfl rfl rfl fun a hs => ?_
   refine st_skip hs rfl rfl rfl rfl rfl fun a hs => ?_
   refine sv hs (y_pickF rfl rfl) rfl fun a hs => ?_
   refine nl ?_
   exact ⟨rfl, (hs.fix 40 (.bool ((((((s1.Taps.length : Int) == 0) && (s1.Factor == 0)) && (s1.Shift == 0)) && ((s1.Num.e0 == s1.Num.e0) && ((s1.Num.e1 == 0) && ((s1.Num.e2 == 0) && true)))) && ((s1.Den.e0 == s1.Den.e0) && ((s1.Den.e1 == 0) && ((s1.Den.e2 == 0) && true))))) rfl (and_f h344)).weaken _ ⟨rfl, rfl, trivial⟩⟩
  rintro a w1 ⟨h379, hs⟩
  subst h379
  refine mv hs rfl rfl fun a hs => ?_
  obtain ⟨c353, hc353, hsh⟩ := bind_t hsh
  refine wpl_join 5 (fun a w => ∃ (Sv354 : Nat → Prop), Sl 111 [(1, .pointer (some ⟨b5, 0, none⟩)), (46, .bool c353)] a ∧ Wd ⟨w0, S0, []⟩ Sv354 [.box b5 [.int .i64 s1.Kind, .int .i64 s1.Num.e0, .int .i64 s1.Num.e1, .int .i64 s1.Num.e2, .int .i64 s1.Den.e0, .int .i64 s1.Den.e1, .int .i64 s1.Den.e2, .slice p2 s1.Taps.length k3, .int .i64 s1.Factor, .int .i64 s1.Shift] 26] [SlA p2 s1.Taps.length k3 s1.Taps] w) ?_ ?_
  ·rcases Bool.eq_false_or_eq_true ((((((s1.Taps.length : Int) == 0) && (s1.Factor == 0)) && (s1.Shift == 0)) && ((s1.Num.e0 == s1.Num.e0) && ((s1.Num.e1 == 0) && ((s1.Num.e2 == 0) && true)))) && ((s1.Den.e0 == s1.Den.e0) && ((s1.Den.e1 == 0) && ((s1.Den.e2 == 0) && true)))) with h352 | h352
   ·have hs := hs.fix 41 (.bool true) rfl (vb h352)
    have hsh := ite_t hc353 h352
    refine st_val hs (y_fieldAddr (o' := 1) Try.runUnderlying26 rfl Try.sizeOf23 rfl rfl rfl) ⟨_, rfl, rfl⟩ rfl rfl fun a hs => ?_
    refine st_val hs (y_indexAtA (q := 1) Try.runUnderlying23 Try.sizeOf3 rfl rfl (by decide) (by decide) rfl) ⟨_, rfl, rfl⟩ rfl rfl fun a hs => ?_
    refine st_val hs (y_loadB1 (hw.ownAt 0 rfl) rfl Try.isAgg3 rfl) ⟨_, rfl, rfl⟩ rfl rfl fun a hs => ?_
    obtain ⟨rv356, h355, hsh⟩ := bind_t hsh
    refine st_callR hs (response_in_ok h355 hw.bdom) (do_call Try.call39 rfl) ⟨_, rfl, rfl⟩ rfl rfl ?_
    intro v360 Sv357 w a h358 h359 hs
    subst h359
    have hw := hw.callB h358
    refine sv hs (y_pickT rfl rfl) rfl fun a hs => ?_
    refine wpList_nil ?_
    have hsh := oi hsh
    subst hsh
    refine then_normal ?_
    exact ⟨S0, (hs.wk rfl), (hw.ft [0] [0] (by decide) rfl rfl)⟩
   have hs := hs.fix 41 (.bool false) rfl (vb h352)
   have hsh := ite_f hc353 h352
   refine st_skip hs rfl rfl rfl rfl rfl fun a hs => ?_
   refine st_skip hs rfl rfl rfl rfl rfl fun a hs => ?_
   refine st_skip hs rfl rfl rfl rfl rfl fun a hs => ?_
   refine st_skip hs rfl rfl rfl rfl rfl fun a hs => ?_
   refine sv hs (y_pickF rfl rfl) rfl fun a hs => ?_
   refine wpList_nil ?_
   have hsh := oi hsh
   subst hsh
   refine then_normal ?_
   exact ⟨S0, (hs.wk rfl), (hw.ft [0] [0] (by decide) rfl rfl)⟩
  rintro a w ⟨Sv354, hs, hw⟩
  refine mv hs rfl rfl fun a hs => ?_
  obtain ⟨c370, hc370, hsh⟩ := bind_t hsh
  refine wpl_join 5 (fun a w => ∃ (Sv371 : Nat → Prop), Sl 111 [(52, .bool c370)] a ∧ Wd ⟨w0, S0, []⟩ Sv371 [] [] w) ?_ ?_
  ·rcases Bool.eq_false_or_eq_true c353 with h369 | h369
   ·have hs := hs.fix 47 (.bool true) rfl (vb h369)
    have hsh := ite_t hc370 h369
    refine st_val hs (y_fieldAddr (o' := 4) Try.runUnderlying26 rfl Try.sizeOf23 rfl rfl rfl) ⟨_, rfl, rfl⟩ rfl rfl fun a hs => ?_
    refine st_val hs (y_indexAtA (q := 4) Try.runUnderlying23 Try.sizeOf3 rfl rfl (by decide) (by decide) rfl) ⟨_, rfl, rfl⟩ rfl rfl fun a hs => ?_
    refine st_val hs (y_loadB1 (hw.ownAt 0 rfl) rfl Try.isAgg3 rfl) ⟨_, rfl, rfl⟩ rfl rfl fun a hs => ?_
    obtain ⟨rv373, h372, hsh⟩ := bind_t hsh
    refine st_callR hs (response_in_ok h372 hw.bdom) (do_call Try.call39 rfl) ⟨_, rfl, rfl⟩ rfl rfl ?_
    intro v377 Sv374 w a h375 h376 hs
    subst h376
    have hw := hw.callB h375
    refine sv hs (y_pickT rfl rfl) rfl fun a hs => ?_
    refine wpList_nil ?_
    have hsh := oi hsh
    subst hsh
    refine then_normal ?_
    exact ⟨Sv354, (hs.wk rfl), (hw.ft [] [] (by decide) rfl rfl)⟩
   have hs := hs.fix 47 (.bool false) rfl (vb h369)
   have hsh := ite_f hc370 h369
   refine st_skip hs rfl rfl rfl rfl rfl fun a hs => ?_
   refine st_skip hs rfl rfl rfl rfl rfl fun a hs => ?_
   refine st_skip hs rfl rfl rfl rfl rfl fun a hs => ?_
   refine st_skip hs rfl rfl rfl rfl rfl fun a hs => ?_
   refine sv hs (y_pickF rfl rfl) rfl fun a hs => ?_
   refine wpList_nil ?_
   have hsh := oi hsh
   subst hsh
   refine then_normal ?_
   exact ⟨Sv354, (hs.wk rfl), (hw.ft [] [] (by decide) rfl rfl)⟩
  rintro a w ⟨Sv371, hs, hw⟩
  refine av hs rfl rfl fun a hs => ?_
  refine nl ?_
  have hsh := oi hsh
  subst hsh
  refine wp_ret ?_
  refine blk_ret ?_
  refine then_ret ?_
  exact ret1 hs rfl (rv_tmp rfl) (hw.ret rfl)
 have hsh := ite_f hsh h342
 refine sr ?_
 refine sv hs (y_eql rfl rfl) rfl fun a hs => ?_
 refine av hs rfl rfl fun a hs => ?_
 refine nl ?_
 refine wp_cond_split (hs.ev rfl) (fun h509 => ?_) (fun h509 => ?_)
 ·have hsh := ite_t hsh h509
  refine sr ?_
  refine mv hs rfl rfl fun a hs => ?_
  refine mv hs rfl rfl fun a hs => ?_
  obtain ⟨c519, hc519, hsh⟩ := bind_t hsh
  refine wpl_join 4 (fun a w => ∃ (Sv520 : Nat → Prop), Sl 111 [(1, .pointer (some ⟨b5, 0, none⟩)), (60, .bool c519)] a ∧ Wd ⟨w0, S0, []⟩ Sv520 [] [CeA b5 0 [.int .i64 s1.Kind, .int .i64 s1.Num.e0, .int .i64 s1.Num.e1, .int .i64 s1.Num.e2, .int .i64 s1.Den.e0, .int .i64 s1.Den.e1, .int .i64 s1.Den.e2, .slice p2 s1.Taps.length k3, .int .i64 s1.Factor, .int .i64 s1.Shift], SlA p2 s1.Taps.length k3 s1.Taps] w) ?_ ?_
  ·rcases Bool.eq_false_or_eq_true ((((s1.Taps.length : Int) == 0) && (s1.Factor == 0)) && (s1.Shift == 0)) with h518 | h518
   ·have hs := hs.fix 56 (.bool true) rfl (vb h518)
    have hsh := ite_t hc519 h518
    refine st_val hs (y_fieldAddr (o' := 1) Try.runUnderlying26 rfl Try.sizeOf23 rfl rfl rfl) ⟨_, rfl, rfl⟩ rfl rfl fun a hs => ?_
    obtain ⟨Sv521, hw⟩ := w_freeze hw 0 rfl
    have hw := hw.addE (e := SlA (α := Int) (some ⟨b5, 1, none⟩) ([s1.Num.e0, s1.Num.e1, s1.Num.e2] : List Int).length 3 ([s1.Num.e0, s1.Num.e1, s1.Num.e2] : List Int)) (arr_sl (o := 1) (hw.envAt 0 rfl) rfl ⟨⟨_, rfl, rfl⟩, ⟨⟨_, rfl, rfl⟩, ⟨⟨_, rfl, rfl⟩, rfl⟩⟩⟩)
    refine st_val hs (y_sliceArr Try.runUnderlying23 Try.sizeOf3 rfl rfl) ⟨_, rfl, rfl⟩ rfl rfl fun a hs => ?_
    obtain ⟨rv523, h522, hsh⟩ := bind_t hsh
    refine st_callR hs (response_terms_ok h522 hw.bdom (hw.bE 0 rfl)) (do_call Try.call40 rfl) ⟨_, rfl, rfl⟩ rfl rfl ?_
    intro v527 Sv524 w a h525 h526 hs
    subst h526
    have hw := hw.callB h525
    refine sv hs (y_pickT rfl rfl) rfl fun a hs => ?_
    refine wpList_nil ?_
    have hsh := oi hsh
    subst hsh
    refine then_normal ?_
    exact ⟨Sv521, (hs.wk rfl), (hw.ft [] [1, 2] (by decide) rfl rfl)⟩
   have hs := hs.fix 56 (.bool false) rfl (vb h518)
   have hsh := ite_f hc519 h518
   refine st_skip hs rfl rfl rfl rfl rfl fun a hs => ?_
   refine st_skip hs rfl rfl rfl rfl rfl fun a hs => ?_
   refine st_skip hs rfl rfl rfl rfl rfl fun a hs => ?_
   refine sv hs (y_pickF rfl rfl) rfl fun a hs => ?_
   refine wpList_nil ?_
   obtain ⟨Sv529, hw⟩ := w_freeze hw 0 rfl
   have hsh := oi hsh
   subst hsh
   refine then_normal ?_
   exact ⟨Sv529, (hs.wk rfl), (hw.ft [] [0, 1] (by decide) rfl rfl)⟩
  rintro a w ⟨Sv520, hs, hw⟩
  refine mv hs rfl rfl fun a hs => ?_
  obtain ⟨c538, hc538, hsh⟩ := bind_t hsh
  refine wpl_join 4 (fun a w => ∃ (Sv539 : Nat → Prop), Sl 111 [(1, .pointer (some ⟨b5, 0, none⟩)), (65, .bool c538)] a ∧ Wd ⟨w0, S0, []⟩ Sv539 [] [CeA b5 0 [.int .i64 s1.Kind, .int .i64 s1.Num.e0, .int .i64 s1.Num.e1, .int .i64 s1.Num.e2, .int .i64 s1.Den.e0, .int .i64 s1.Den.e1, .int .i64 s1.Den.e2, .slice p2 s1.Taps.length k3, .int .i64 s1.Factor, .int .i64 s1.Shift], SlA p2 s1.Taps.length k3 s1.Taps] w) ?_ ?_
  ·rcases Bool.eq_false_or_eq_true c519 with h537 | h537
   ·have hs := hs.fix 61 (.bool true) rfl (vb h537)
    have hsh := ite_t hc538 h537
    refine st_val hs (y_fieldAddr (o' := 4) Try.runUnderlying26 rfl Try.sizeOf23 rfl rfl rfl) ⟨_, rfl, rfl⟩ rfl rfl fun a hs => ?_
    have hw := hw.addE (e := SlA (α := Int) (some ⟨b5, 4, none⟩) ([s1.Den.e0, s1.Den.e1, s1.Den.e2] : List Int).length 3 ([s1.Den.e0, s1.Den.e1, s1.Den.e2] : List Int)) (arr_sl (o := 4) (hw.envAt 0 rfl) rfl ⟨⟨_, rfl, rfl⟩, ⟨⟨_, rfl, rfl⟩, ⟨⟨_, rfl, rfl⟩, rfl⟩⟩⟩)
    refine st_val hs (y_sliceArr Try.runUnderlying23 Try.sizeOf3 rfl rfl) ⟨_, rfl, rfl⟩ rfl rfl fun a hs => ?_
    obtain ⟨rv541, h540, hsh⟩ := bind_t hsh
    refine st_callR hs (response_terms_ok h540 hw.bdom (hw.bE 0 rfl)) (do_call Try.call40 rfl) ⟨_, rfl, rfl⟩ rfl rfl ?_
    intro v545 Sv542 w a h543 h544 hs
    subst h544
    have hw := hw.callB h543
    refine sv hs (y_pickT rfl rfl) rfl fun a hs => ?_
    refine wpList_nil ?_
    have hsh := oi hsh
    subst hsh
    refine then_normal ?_
    exact ⟨Sv520, (hs.wk rfl), (hw.ft [] [1, 2] (by decide) rfl rfl)⟩
   have hs := hs.fix 61 (.bool false) rfl (vb h537)
   have hsh := ite_f hc538 h537
   refine st_skip hs rfl rfl rfl rfl rfl fun a hs => ?_
   refine st_skip hs rfl rfl rfl rfl rfl fun a hs => ?_
   refine st_skip hs rfl rfl rfl rfl rfl fun a hs => ?_
   refine sv hs (y_pickF rfl rfl) rfl fun a hs => ?_
   refine wpList_nil ?_
   have hsh := oi hsh
   subst hsh
   refine then_normal ?_
   exact ⟨Sv520, (hs.wk rfl), (hw.ft [] [0, 1] (by decide) rfl rfl)⟩
  rintro a w ⟨Sv539, hs, hw⟩
  refine mv hs rfl rfl fun a hs => ?_
  refine wpl_join 5 (fun a w1 => w = w1 ∧ Sl 111 [(71, .bool (c538 && (s1.Den.e0 != 0)))] a) ?_ ?_
  ·rcases Bool.eq_false_or_eq_true c538 with h547 | h547
   ·have hs := hs.fix 66 (.bool true) rfl (vb h547)
    refine st_val hs (y_fieldAddr (o' := 4) Try.runUnderlying26 rfl Try.sizeOf23 rfl rfl rfl) ⟨_, rfl, rfl⟩ rfl rfl fun a hs => ?_
    refine st_val hs (y_indexAtA (q := 4) Try.runUnderlying23 Try.sizeOf3 rfl rfl (by decide) (by decide) rfl) ⟨_, rfl, rfl⟩ rfl rfl fun a hs => ?_
    refine st_val hs (y_loadE1 (j := 4) (hw.ceAt 0 rfl) rfl Try.isAgg3 rfl) ⟨_, rfl, rfl⟩ rfl rfl fun a hs => ?_
    refine st_val hs (y_neq rfl rfl) ⟨_, rfl, rfl⟩ rfl rfl fun a hs => ?_
    refine sv hs (y_pickT rfl rfl) rfl fun a hs => ?_
    refine nl ?_
    exact ⟨rfl, (hs.fix 71 (.bool (c538 && (s1.Den.e0 != 0))) rfl (and_t h547)).weaken _ ⟨rfl, trivial⟩⟩
   have hs := hs.fix 66 (.bool false) rfl (vb h547)
   refine st_skip hs rfl rfl rfl rfl rfl fun a hs => ?_
   refine st_skip hs rfl rfl rfl rfl rfl fun a hs => ?_
   refine st_skip hs rfl rfl rfl rfl rfl fun a hs => ?_
   refine st_skip hs rfl rfl rfl rfl rfl fun a hs => ?_
   refine sv hs (y_pickF rfl rfl) rfl fun a hs => ?_
   refine nl ?_
   exact ⟨rfl, (hs.fix 71 (.bool (c538 && (s1.Den.e0 != 0))) rfl (and_f h547)).weaken _ ⟨rfl, trivial⟩⟩
  rintro a w1 ⟨h548, hs⟩
  subst h548
  refine av hs rfl rfl fun a hs => ?_
  refine nl ?_
  have hsh := oi hsh
  subst hsh
  refine wp_ret ?_
  refine blk_ret ?_
  refine then_ret ?_
  exact ret1 hs rfl (rv_tmp rfl) (hw.ret rfl)
 have hsh := ite_f hsh h509
 refine sr ?_
 refine sv hs (y_eql rfl rfl) rfl fun a hs => ?_
 refine av hs rfl rfl fun a hs => ?_
 refine nl ?_
 refine wp_cond_split (hs.ev rfl) (fun h637 => ?_) (fun h637 => ?_)
 ·have hsh := ite_t hsh h637
  refine sr ?_
  refine sv hs (y_fieldAddr (o' := 1) Try.runUnderlying26 rfl Try.sizeOf23 rfl rfl rfl) rfl fun a hs => ?_
  refine sv hs (y_loadBA (hw.ownAt 0 rfl) rfl Try.isAgg23 Try.sizeOf23 rfl rfl) rfl fun a hs => ?_
  refine sv hs (y_build (vs := []) Bld23 rfl rfl) rfl fun a hs => ?_
  refine sv hs (y_eqlA (by kernel_rfl) rfl rfl (eqv_array Try.runUnderlying23 Try.sizeOf3 (EqA.cons1 Try.isAgg3 rfl rfl (eqv_int Try.runUnderlying3) (EqA.cons1 Try.isAgg3 rfl rfl (eqv_int Try.runUnderlying3) (EqA.cons1 Try.isAgg3 rfl rfl (eqv_int Try.runUnderlying3) EqA.nil))))) rfl fun a hs => ?_
  refine mv hs rfl rfl fun a hs => ?_
  refine wpl_join 5 (fun a w1 => w = w1 ∧ Sl 111 [(1, .pointer (some ⟨b5, 0, none⟩)), (83, .bool (((s1.Num.e0 == 0) && ((s1.Num.e1 == 0) && ((s1.Num.e2 == 0) && true))) && ((s1.Den.e0 == 0) && ((s1.Den.e1 == 0) && ((s1.Den.e2 == 0) && true)))))] a) ?_ ?_
  ·rcases Bool.eq_false_or_eq_true ((s1.Num.e0 == 0) && ((s1.Num.e1 == 0) && ((s1.Num.e2 == 0) && true))) with h638 | h638
   ·have hs := hs.fix 78 (.bool true) rfl (vb h638)
    refine st_val hs (y_fieldAddr (o' := 4) Try.runUnderlying26 rfl Try.sizeOf23 rfl rfl rfl) ⟨_, rfl, rfl⟩ rfl rfl fun a hs => ?_
    refine st_val hs (y_loadBA (hw.ownAt 0 rfl) rfl Try.isAgg23 Try.sizeOf23 rfl rfl) ⟨_, rfl, rfl⟩ rfl rfl fun a hs => ?_
    refine st_val hs (y_build (vs := []) Bld23 rfl rfl) ⟨_, rfl, rfl⟩ rfl rfl fun a hs => ?_
    refine st_val hs (y_eqlA (by kernel_rfl) rfl rfl (eqv_array Try.runUnderlying23 Try.sizeOf3 (EqA.cons1 Try.isAgg3 rfl rfl (eqv_int Try.runUnderlying3) (EqA.cons1 Try.isAgg3 rfl rfl (eqv_int Try.runUnderlying3) (EqA.cons1 Try.isAgg3 rfl rfl (eqv_int Try.runUnderlying3) EqA.nil))))) ⟨_, rfl, rfl⟩ rfl rfl fun a hs => ?_
    refine sv hs (y_pickT rfl rfl) rfl fun a hs => ?_
    refine nl ?_
    exact ⟨rfl, (hs.fix 83 (.bool (((s1.Num.e0 == 0) && ((s1.Num.e1 == 0) && ((s1.Num.e2 == 0) && true))) && ((s1.Den.e0 == 0) && ((s1.Den.e1 == 0) && ((s1.Den.e2 == 0) && true))))) rfl (and_t h638)).weaken _ ⟨rfl, rfl, trivial⟩⟩
   have hs := hs.fix 78 (.bool false) rfl (vb h638)
   refine st_skip hs rfl rfl rfl rfl rfl fun a hs => ?_
   refine st_skip hs rfl rfl rfl rfl rfl fun a hs => ?_
   refine st_skip hs rfl rfl rfl rfl rfl fun a hs => ?_
   refine st_skip hs rfl rfl rfl rfl rfl fun a hs => ?_
   refine sv hs (y_pickF rfl rfl) rfl fun a hs => ?_
   refine nl ?_
   exact ⟨rfl, (hs.fix 83 (.bool (((s1.Num.e0 == 0) && ((s1.Num.e1 == 0) && ((s1.Num.e2 == 0) && true))) && ((s1.Den.e0 == 0) && ((s1.Den.e1 == 0) && ((s1.Den.e2 == 0) && true))))) rfl (and_f h638)).weaken _ ⟨rfl, rfl, trivial⟩⟩
  rintro a w1 ⟨h724, hs⟩
  subst h724
  refine mv hs rfl rfl fun a hs => ?_
  obtain ⟨c647, hc647, hsh⟩ := bind_t hsh
  refine wpl_join 5 (fun a w => ∃ (Sv648 : Nat → Prop), Sl 111 [(1, .pointer (some ⟨b5, 0, none⟩)), (89, .bool c647)] a ∧ Wd ⟨w0, S0, []⟩ Sv648 [.box b5 [.int .i64 s1.Kind, .int .i64 s1.Num.e0, .int .i64 s1.Num.e1, .int .i64 s1.Num.e2, .int .i64 s1.Den.e0, .int .i64 s1.Den.e1, .int .i64 s1.Den.e2, .slice p2 s1.Taps.length k3, .int .i64 s1.Factor, .int .i64 s1.Shift] 26] [SlA p2 s1.Taps.length k3 s1.Taps] w) ?_ ?_
  ·rcases Bool.eq_false_or_eq_true (((s1.Num.e0 == 0) && ((s1.Num.e1 == 0) && ((s1.Num.e2 == 0) && true))) && ((s1.Den.e0 == 0) && ((s1.Den.e1 == 0) && ((s1.Den.e2 == 0) && true)))) with h646 | h646
   ·have hs := hs.fix 84 (.bool true) rfl (vb h646)
    have hsh := ite_t hc647 h646
    refine st_val hs (y_fieldAddr (o' := 7) Try.runUnderlying26 rfl Try.sizeOf24 rfl rfl rfl) ⟨_, rfl, rfl⟩ rfl rfl fun a hs => ?_
    refine st_val hs (y_loadB1 (hw.ownAt 0 rfl) rfl Try.isAgg24 rfl) ⟨_, rfl, rfl⟩ rfl rfl fun a hs => ?_
    refine st_val hs (y_len Try.runUnderlying24 rfl) ⟨_, rfl, rfl⟩ rfl rfl fun a hs => ?_
    obtain ⟨rv650, h649, hsh⟩ := bind_t hsh
    refine st_callR hs (response_in_ok h649 hw.bdom) (do_call Try.call39 rfl) ⟨_, rfl, rfl⟩ rfl rfl ?_
    intro v654 Sv651 w a h652 h653 hs
    subst h653
    have hw := hw.callB h652
    refine sv hs (y_pickT rfl rfl) rfl fun a hs => ?_
    refine wpList_nil ?_
    have hsh := oi hsh
    subst hsh
    refine then_normal ?_
    exact ⟨S0, (hs.wk rfl), (hw.ft [0] [0] (by decide) rfl rfl)⟩
   have hs := hs.fix 84 (.bool false) rfl (vb h646)
   have hsh := ite_f hc647 h646
   refine st_skip hs rfl rfl rfl rfl rfl fun a hs => ?_
   refine st_skip hs rfl rfl rfl rfl rfl fun a hs => ?_
   refine st_skip hs rfl rfl rfl rfl rfl fun a hs => ?_
   refine st_skip hs rfl rfl rfl rfl rfl fun a hs => ?_
   refine sv hs (y_pickF rfl rfl) rfl fun a hs => ?_
   refine wpList_nil ?_
   have hsh := oi hsh
   subst hsh
   refine then_normal ?_
   exact ⟨S0, (hs.wk rfl), (hw.ft [0] [0] (by decide) rfl rfl)⟩
  rintro a w ⟨Sv648, hs, hw⟩
  refine mv hs rfl rfl fun a hs => ?_
  obtain ⟨c664, hc664, hsh⟩ := bind_t hsh
  refine wpl_join 4 (fun a w => ∃ (Sv665 : Nat → Prop), Sl 111 [(1, .pointer (some ⟨b5, 0, none⟩)), (94, .bool c664)] a ∧ Wd ⟨w0, S0, []⟩ Sv665 [.box b5 [.int .i64 s1.Kind, .int .i64 s1.Num.e0, .int .i64 s1.Num.e1, .int .i64 s1.Num.e2, .int .i64 s1.Den.e0, .int .i64 s1.Den.e1, .int .i64 s1.Den.e2, .slice p2 s1.Taps.length k3, .int .i64 s1.Factor, .int .i64 s1.Shift] 26] [SlA p2 s1.Taps.length k3 s1.Taps] w) ?_ ?_
  ·rcases Bool.eq_false_or_eq_true c647 with h663 | h663
   ·have hs := hs.fix 90 (.bool true) rfl (vb h663)
    have hsh := ite_t hc664 h663
    refine st_val hs (y_fieldAddr (o' := 7) Try.runUnderlying26 rfl Try.sizeOf24 rfl rfl rfl) ⟨_, rfl, rfl⟩ rfl rfl fun a hs => ?_
    refine st_val hs (y_loadB1 (hw.ownAt 0 rfl) rfl Try.isAgg24 rfl) ⟨_, rfl, rfl⟩ rfl rfl fun a hs => ?_
    obtain ⟨rv667, h666, hsh⟩ := bind_t hsh
    refine st_callR hs (response_terms_ok h666 hw.bdom (hw.bE 0 rfl)) (do_call Try.call40 rfl) ⟨_, rfl, rfl⟩ rfl rfl ?_
    intro v671 Sv668 w a h669 h670 hs
    subst h670
    have hw := hw.callB h669
    refine sv hs (y_pickT rfl rfl) rfl fun a hs => ?_
    refine wpList_nil ?_
    have hsh := oi hsh
    subst hsh
    refine then_normal ?_
    exact ⟨Sv648, (hs.wk rfl), (hw.ft [0] [0] (by decide) rfl rfl)⟩
   have hs := hs.fix 90 (.bool false) rfl (vb h663)
   have hsh := ite_f hc664 h663
   refine st_skip hs rfl rfl rfl rfl rfl fun a hs => ?_
   refine st_skip hs rfl rfl rfl rfl rfl fun a hs => ?_
   refine st_skip hs rfl rfl rfl rfl rfl fun a hs => ?_
   refine sv hs (y_pickF rfl rfl) rfl fun a hs => ?_
   refine wpList_nil ?_
   have hsh := oi hsh
   subst hsh
   refine then_normal ?_
   exact ⟨Sv648, (hs.wk rfl), (hw.ft [0] [0] (by decide) rfl rfl)⟩
  rintro a w ⟨Sv665, hs, hw⟩
  refine mv hs rfl rfl fun a hs => ?_
  obtain ⟨c681, hc681, hsh⟩ := bind_t hsh
  refine wpl_join 5 (fun a w => ∃ (Sv682 : Nat → Prop), Sl 111 [(1, .pointer (some ⟨b5, 0, none⟩)), (100, .bool c681)] a ∧ Wd ⟨w0, S0, []⟩ Sv682 [.box b5 [.int .i64 s1.Kind, .int .i64 s1.Num.e0, .int .i64 s1.Num.e1, .int .i64 s1.Num.e2, .int .i64 s1.Den.e0, .int .i64 s1.Den.e1, .int .i64 s1.Den.e2, .slice p2 s1.Taps.length k3, .int .i64 s1.Factor, .int .i64 s1.Shift] 26] [SlA p2 s1.Taps.length k3 s1.Taps] w) ?_ ?_
  ·rcases Bool.eq_false_or_eq_true c664 with h680 | h680
   ·have hs := hs.fix 95 (.bool true) rfl (vb h680)
    have hsh := ite_t hc681 h680
    refine st_val hs (y_fieldAddr (o' := 7) Try.runUnderlying26 rfl Try.sizeOf24 rfl rfl rfl) ⟨_, rfl, rfl⟩ rfl rfl fun a hs => ?_
    refine st_val hs (y_loadB1 (hw.ownAt 0 rfl) rfl Try.isAgg24 rfl) ⟨_, rfl, rfl⟩ rfl rfl fun a hs => ?_
    obtain ⟨rv684, h683, hsh⟩ := bind_t hsh
    refine st_callR hs (response_sum_ok h683 hw.bdom (hw.bE 0 rfl)) (do_call Try.call41 rfl) ⟨_, rfl, rfl⟩ rfl rfl ?_
    intro v688 Sv685 w a h686 h687 hs
    subst h687
    have hw := hw.callB h686
    refine st_val hs (y_neq rfl rfl) ⟨_, rfl, rfl⟩ rfl rfl fun a hs => ?_
    refine sv hs (y_pickT rfl rfl) rfl fun a hs => ?_
    refine wpList_nil ?_
    have hsh := oi hsh
    subst hsh
    refine then_normal ?_
    exact ⟨Sv665, (hs.wk rfl), (hw.ft [0] [0] (by decide) rfl rfl)⟩
   have hs := hs.fix 95 (.bool false) rfl (vb h680)
   have hsh := ite_f hc681 h680
   refine st_skip hs rfl rfl rfl rfl rfl fun a hs => ?_
   refine st_skip hs rfl rfl rfl rfl rfl fun a hs => ?_
   refine st_skip hs rfl rfl rfl rfl rfl fun a hs => ?_
   refine st_skip hs rfl rfl rfl rfl rfl fun a hs => ?_
   refine sv hs (y_pickF rfl rfl) rfl fun a hs => ?_
   refine wpList_nil ?_
   have hsh := oi hsh
   subst hsh
   refine then_normal ?_
   exact ⟨Sv665, (hs.wk rfl), (hw.ft [0] [0] (by decide) rfl rfl)⟩
  rintro a w ⟨Sv682, hs, hw⟩
  refine mv hs rfl rfl fun a hs => ?_
  obtain ⟨c698, hc698, hsh⟩ := bind_t hsh
  refine wpl_join 4 (fun a w => ∃ (Sv699 : Nat → Prop), Sl 111 [(1, .pointer (some ⟨b5, 0, none⟩)), (105, .bool c698)] a ∧ Wd ⟨w0, S0, []⟩ Sv699 [.box b5 [.int .i64 s1.Kind, .int .i64 s1.Num.e0, .int .i64 s1.Num.e1, .int .i64 s1.Num.e2, .int .i64 s1.Den.e0, .int .i64 s1.Den.e1, .int .i64 s1.Den.e2, .slice p2 s1.Taps.length k3, .int .i64 s1.Factor, .int .i64 s1.Shift] 26] [SlA p2 s1.Taps.length k3 s1.Taps] w) ?_ ?_
  ·rcases Bool.eq_false_or_eq_true c681 with h697 | h697
   ·have hs := hs.fix 101 (.bool true) rfl (vb h697)
    have hsh := ite_t hc698 h697
    refine st_val hs (y_fieldAddr (o' := 8) Try.runUnderlying26 rfl Try.sizeOf3 rfl rfl rfl) ⟨_, rfl, rfl⟩ rfl rfl fun a hs => ?_
    refine st_val hs (y_loadB1 (hw.ownAt 0 rfl) rfl Try.isAgg3 rfl) ⟨_, rfl, rfl⟩ rfl rfl fun a hs => ?_
    obtain ⟨rv701, h700, hsh⟩ := bind_t hsh
    refine st_callR hs (response_in_ok h700 hw.bdom) (do_call Try.call39 rfl) ⟨_, rfl, rfl⟩ rfl rfl ?_
    intro v705 Sv702 w a h703 h704 hs
    subst h704
    have hw := hw.callB h703
    refine sv hs (y_pickT rfl rfl) rfl fun a hs => ?_
    refine wpList_nil ?_
    have hsh := oi hsh
    subst hsh
    refine then_normal ?_
    exact ⟨Sv682, (hs.wk rfl), (hw.ft [0] [0] (by decide) rfl rfl)⟩
   have hs := hs.fix 101 (.bool false) rfl (vb h697)
   have hsh := ite_f hc698 h697
   refine st_skip hs rfl rfl rfl rfl rfl fun a hs => ?_
   refine st_skip hs rfl rfl rfl rfl rfl fun a hs => ?_
   refine st_skip hs rfl rfl rfl rfl rfl fun a hs => ?_
   refine sv hs (y_pickF rfl rfl) rfl fun a hs => ?_
   refine wpList_nil ?_
   have hsh := oi hsh
   subst hsh
   refine then_normal ?_
   exact ⟨Sv682, (hs.wk rfl), (hw.ft [0] [0] (by decide) rfl rfl)⟩
  rintro a w ⟨Sv699, hs, hw⟩
  refine mv hs rfl rfl fun a hs => ?_
  obtain ⟨c715, hc715, hsh⟩ := bind_t hsh
  refine wpl_join 4 (fun a w => ∃ (Sv716 : Nat → Prop), Sl 111 [(110, .bool c715)] a ∧ Wd ⟨w0, S0, []⟩ Sv716 [] [] w) ?_ ?_
  ·rcases Bool.eq_false_or_eq_true c698 with h714 | h714
   ·have hs := hs.fix 106 (.bool true) rfl (vb h714)
    have hsh := ite_t hc715 h714
    refine st_val hs (y_fieldAddr (o' := 9) Try.runUnderlying26 rfl Try.sizeOf3 rfl rfl rfl) ⟨_, rfl, rfl⟩ rfl rfl fun a hs => ?_
    refine st_val hs (y_loadB1 (hw.ownAt 0 rfl) rfl Try.isAgg3 rfl) ⟨_, rfl, rfl⟩ rfl rfl fun a hs => ?_
    obtain ⟨rv718, h717, hsh⟩ := bind_t hsh
    refine st_callR hs (response_in_ok h717 hw.bdom) (do_call Try.call39 rfl) ⟨_, rfl, rfl⟩ rfl rfl ?_
    intro v722 Sv719 w a h720 h721 hs
    subst h721
    have hw := hw.callB h720
    refine sv hs (y_pickT rfl rfl) rfl fun a hs => ?_
    refine wpList_nil ?_
    have hsh := oi hsh
    subst hsh
    refine then_normal ?_
    exact ⟨Sv699, (hs.wk rfl), (hw.ft [] [] (by decide) rfl rfl)⟩
   have hs := hs.fix 106 (.bool false) rfl (vb h714)
   have hsh := ite_f hc715 h714
   refine st_skip hs rfl rfl rfl rfl rfl fun a hs => ?_
   refine st_skip hs rfl rfl rfl rfl rfl fun a hs => ?_
   refine st_skip hs rfl rfl rfl rfl rfl fun a hs => ?_
   refine sv hs (y_pickF rfl rfl) rfl fun a hs => ?_
   refine wpList_nil ?_
   have hsh := oi hsh
   subst hsh
   refine then_normal ?_
   exact ⟨Sv699, (hs.wk rfl), (hw.ft [] [] (by decide) rfl rfl)⟩
  rintro a w ⟨Sv716, hs, hw⟩
  refine av hs rfl rfl fun a hs => ?_
  refine nl ?_
  have hsh := oi hsh
  subst hsh
  refine wp_ret ?_
  refine blk_ret ?_
  refine then_ret ?_
  exact ret1 hs rfl (rv_tmp rfl) (hw.ret rfl)
 have hsh := ite_f hsh h637
 refine wp_skip ?_
 refine blk_normal ?_
 refine then_normal ?_
 refine sr ?_
 refine av hs rfl rfl fun a hs => ?_
 refine nl ?_
 have hsh := oi hsh
 subst hsh
 refine wp_ret ?_
 exact ret1 hs rfl (rv_tmp rfl) (hw.ret rfl)

abbrev response_Valid_fn1_rd (w0 : World) (X : List Nat) (r : Bool) : (Nat → Prop) → World → Value → Prop := fun S w v => v = .bool r
set_option maxHeartbeats 4000000 in
set_option maxRecDepth 100000 in
theorem response_Valid_fn1_ok {w0 : World} {S0 : Nat → Prop} {p2 : Option Addr} {k3 : Nat} {s1 : Stage} {r : Bool} (hsh : response_Valid_fn1 s1 = some r) (hS : ∀ b, S0 b → b < w0.heap.size) (h4 : (SlA p2 s1.Taps.length k3 s1.Taps).p S0 w0) : Calls Try.prog 65 #[.agg #[.int .i64 s1.Kind, .int .i64 s1.Num.e0, .int .i64 s1.Num.e1, .int .i64 s1.Num.e2, .int .i64 s1.Den.e0, .int .i64 s1.Den.e1, .int .i64 s1.Den.e2, .slice p2 s1.Taps.length k3, .int .i64 s1.Factor, .int .i64 s1.Shift]] w0 (Ret ([]) w0 S0 (response_Valid_fn1_rd w0 ([]) r)) := by
 refine calls_of_wp Try.func65 rfl ?_
 have hs := Sl.enter #[.agg #[.int .i64 s1.Kind, .int .i64 s1.Num.e0, .int .i64 s1.Num.e1, .int .i64 s1.Num.e2, .int .i64 s1.Den.e0, .int .i64 s1.Den.e1, .int .i64 s1.Den.e2, .slice p2 s1.Taps.length k3, .int .i64 s1.Factor, .int .i64 s1.Shift]] 6 [(0, .agg #[.int .i64 s1.Kind, .int .i64 s1.Num.e0, .int .i64 s1.Num.e1, .int .i64 s1.Num.e2, .int .i64 s1.Den.e0, .int .i64 s1.Den.e1, .int .i64 s1.Den.e2, .slice p2 s1.Taps.length k3, .int .i64 s1.Factor, .int .i64 s1.Shift])] rfl ⟨rfl, trivial⟩
 have hw := Wd.enter (E := []) hS (fun _ h => (by cases h))
 have hw := hw.addE h4
 delta response_Valid_fn1 at hsh
 refine sr ?_
 refine w_box (cs := [.int .i64 s1.Kind, .int .i64 s1.Num.e0, .int .i64 s1.Num.e1, .int .i64 s1.Num.e2, .int .i64 s1.Den.e0, .int .i64 s1.Den.e1, .int .i64 s1.Den.e2, .slice p2 s1.Taps.length k3, .int .i64 s1.Factor, .int .i64 s1.Shift]) hs hw rfl rfl rfl trivial ?_
 intro b5 a w hs hw
 refine av hs rfl rfl fun a hs => ?_
 refine nl ?_
 refine sr ?_
 refine sv hs (y_loadBA (hw.ownAt 0 rfl) rfl Try.isAgg26 Try.sizeOf26 rfl rfl) rfl fun a hs => ?_
 obtain ⟨rv7, h6, hsh⟩ := bind_t hsh
 refine st_callR hs (response_ValidStage_ok h6 hw.bdom (hw.bE 0 rfl)) (do_call Try.call7 rfl) trivial rfl rfl ?_
 intro v11 Sv8 w a h9 h10 hs
 subst h10
 have hw := hw.callB h9
 refine sv hs (y_not rfl) rfl fun a hs => ?_
 refine av hs rfl rfl fun a hs => ?_
 refine nl ?_
 have hsh := oi hsh
 subst hsh
 refine wp_ret ?_
 exact ret1 hs rfl (rv_tmp rfl) (hw.ret rfl)

theorem response_Valid_fn1_fn (S0 : Nat → Prop) (w0 : World) : (FnA1 Try.prog 65 [] [] response_Valid_fn1).p S0 w0 := by
  refine ⟨Try.call65, ?_⟩
  intro S1 w1 hk hS c0 x0 r1 h0 hf
  obtain ⟨_, _, _, _, _, _, _, _, _, _, rfl, rfl, rfl, rfl, rfl, rfl, rfl, rfl, ⟨_, _, _, rfl, e0⟩, rfl, rfl⟩ := h0
  obtain rfl := e0.1
  exact response_Valid_fn1_ok hf hS e0 

abbrev response_factor_rd (w0 : World) (X : List Nat) (r : Int) : (Nat → Prop) → World → Value → Prop := fun S w v => v = .int .i64 r
set_option maxHeartbeats 4000000 in
set_option maxRecDepth 100000 in
theorem response_factor_ok {w0 : World} {S0 : Nat → Prop} {p2 : Option Addr} {k3 : Nat} {l1 : (List Stage)} {r : Int} (hsh : response_factor l1 = some r) (hS : ∀ b, S0 b → b < w0.heap.size) (h4 : (SlA p2 l1.length k3 l1).p S0 w0) : Calls Try.prog 51 #[.slice p2 l1.length k3] w0 (Ret ([]) w0 S0 (response_factor_rd w0 ([]) r)) := by
 refine calls_of_wp Try.func51 rfl ?_
 have hs := Sl.enter #[.slice p2 l1.length k3] 23 [(0, .slice p2 l1.length k3)] rfl ⟨rfl, trivial⟩
 have hw := Wd.enter (E := []) hS (fun _ h => (by cases h))
 have hw := hw.addE h4
 delta response_factor at hsh
 refine sr ?_
 refine av hs rfl rfl fun a hs => ?_
 refine nl ?_
 refine sr ?_
 refine av hs rfl rfl fun a hs => ?_
 refine nl ?_
 refine wp_seq ?_
 refine sr ?_
 refine mv hs rfl rfl fun a hs => ?_
 refine sv hs (y_len Try.runUnderlying35 rfl) rfl fun a hs => ?_
 refine mv hs rfl rfl fun a hs => ?_
 refine nl ?_
 refine wp_block ?_
 refine wp_while (fun sv85 a w => ∃ (Sv137 : Nat → Prop), Sl 23 [(3, .int .i64 sv85.1), (6, .slice p2 l1.length k3), (7, .int .i64 (l1.length : Int)), (8, .int .i64 sv85.2)] a ∧ Wd ⟨w0, S0, []⟩ Sv137 [] [SlA p2 l1.length k3 l1] w) (1, 0) hsh ⟨S0, (hs.wk rfl), (hw.ft [] [0] (by decide) rfl rfl)⟩ ?_
 repeat clear hsh
 rintro sv85 a w tv164 ⟨Sv137, hs, hw⟩ hsh hd163
 delta response_factor_l2 at hsh
 refine sr ?_
 refine sv hs (y_lss rfl rfl) rfl fun a hs => ?_
 refine nl ?_
 refine wp_seq ?_
 refine wp_cond_split (hs.ev rfl) (fun h168 => ?_) (fun h168 => ?_)
 ·have hsh := ite_t hsh h168
  refine wp_skip ?_
  refine then_normal ?_
  refine wp_seq ?_
  refine wp_join (fun a w => ∃ (n192 : Int) (Sv191 : Nat → Prop), response_factor_j1 sv85 n192 = some tv164 ∧ Sl 23 [(3, .int .i64 n192), (6, .slice p2 l1.length k3), (7, .int .i64 (l1.length : Int)), (8, .int .i64 sv85.2)] a ∧ Wd ⟨w0, S0, []⟩ Sv191 [] [SlA p2 l1.length k3 l1] w) ?_ ?_
  ·refine wp_block ?_
   refine sr ?_
   obtain ⟨x195, h193, hsh⟩ := bind_t hsh
   obtain ⟨b201, o202, q199, c200, h203, h196, h197, h198, h194⟩ := hw.elemV 0 rfl h193
   have hsv204 := hs
   have hwv205 := hw
   subst h203
   have hs := hsv204
   have hw := hwv205
   obtain ⟨_, _, _, _, _, _, _, _, _, _, rfl, rfl, rfl, rfl, rfl, rfl, rfl, rfl, ⟨p206, n207, k208, rfl, h209⟩, rfl, rfl⟩ := h194
   obtain rfl := h209.1
   have hw := hw.addE (e := SlA p206 _ k208 x195.Taps) h209
   have hw := hw.addE h198
   refine sv hs (y_indexAt Try.runUnderlying35 Try.sizeOf26 rfl rfl h196.1 h196.2 h197) rfl fun a hs => ?_
   refine sv hs (y_loadEA (j := 0) (hw.ceAt 0 rfl) rfl Try.isAgg26 Try.sizeOf26 rfl rfl) rfl fun a hs => ?_
   refine w_alloc (cs := [.int .i64 0, .int .i64 0, .int .i64 0, .int .i64 0, .int .i64 0, .int .i64 0, .int .i64 0, .slice none ([] : List Int).length 0, .int .i64 0, .int .i64 0]) hs hw Try.zeroValue26 rfl rfl trivial ?_
   intro b210 a w hs hw
   refine w_store (m := 10) (cs' := [.int .i64 x195.Kind, .int .i64 x195.Num.e0, .int .i64 x195.Num.e1, .int .i64 x195.Num.e2, .int .i64 x195.Den.e0, .int .i64 x195.Den.e1, .int .i64 x195.Den.e2, .slice p206 x195.Taps.length k208, .int .i64 x195.Factor, .int .i64 x195.Shift]) hs hw 0 rfl rfl rfl Try.sizeOf26 rfl rfl rfl rfl trivial ?_
   intro a w hs hw
   refine nl ?_
   refine wp_seq ?_
   refine sr ?_
   refine sv hs (y_fieldAddr (o' := 0) Try.runUnderlying26 rfl Try.sizeOf3 rfl rfl rfl) rfl fun a hs => ?_
   refine sv hs (y_loadB1 (hw.ownAt 0 rfl) rfl Try.isAgg3 rfl) rfl fun a hs => ?_
   refine sv hs (y_neq rfl rfl) rfl fun a hs => ?_
   refine nl ?_
   refine wp_cond_split (hs.ev rfl) (fun h212 => ?_) (fun h212 => ?_)
   ·have hsh := ite_t hsh h212
    refine wp_exit ?_
    refine then_exit ?_
    refine blk_exit ?_
    refine then_normal ?_
    exact ⟨sv85.1, Sv137, hsh, (hs.wk rfl), (hw.ft [] [2] (by decide) rfl rfl)⟩
   have hsh := ite_f hsh h212
   refine wp_skip ?_
   refine then_normal ?_
   refine sr ?_
   refine mv hs rfl rfl fun a hs => ?_
   refine sv hs (y_fieldAddr (o' := 8) Try.runUnderlying26 rfl Try.sizeOf3 rfl rfl rfl) rfl fun a hs => ?_
   refine sv hs (y_loadB1 (hw.ownAt 0 rfl) rfl Try.isAgg3 rfl) rfl fun a hs => ?_
   refine sv hs (y_mul rfl rfl) rfl fun a hs => ?_
   obtain ⟨n214, h213, hsh⟩ := bind_t hsh
   refine sv hs (y_assignI rfl h213) rfl fun a hs => ?_
   refine nl ?_
   refine sr ?_
   refine mv hs rfl rfl fun a hs => ?_
   refine sv hs (y_gtr rfl rfl) rfl fun a hs => ?_
   refine nl ?_
   refine wp_cond_split (hs.ev rfl) (fun h216 => ?_) (fun h216 => ?_)
   ·have hsh := ite_t hsh h216
    refine sr ?_
    refine av hs rfl rfl fun a hs => ?_
    refine nl ?_
    have hsh := oi hsh
    subst hsh
    have h217 := hd163 _ rfl
    subst h217
    refine wp_ret ?_
    refine blk_ret ?_
    refine then_ret ?_
    refine then_ret ?_
    refine then_ret ?_
    refine blk_ret ?_
    refine then_ret ?_
    exact ret1 hs rfl (rv_tmp rfl) (hw.ret rfl)
   have hsh := ite_f hsh h216
   refine wp_skip ?_
   refine blk_normal ?_
   refine then_normal ?_
   exact ⟨n214, Sv137, hsh, (hs.wk rfl), (hw.ft [] [2] (by decide) rfl rfl)⟩
  rintro a w ⟨n192, Sv191, hsh, hs, hw⟩
  delta response_factor_j1 at hsh
  refine then_normal ?_
  refine wp_region_lit ?_
  refine sv hs (y_add rfl rfl) rfl fun a hs => ?_
  refine mv hs rfl rfl fun a hs => ?_
  refine nl ?_
  exact ⟨_, (Option.some.inj hsh).symm, Sv191, (hs.wk rfl), (hw.ft [] [0] (by decide) rfl rfl)⟩
 have hsh := ite_f hsh h168
 obtain ⟨rv218, hsh, h219⟩ := map_t hsh
 have h219 := (hd163 _ h219.symm).symm
 subst h219
 refine wp_exit ?_
 refine then_exit ?_
 refine then_exit ?_
 refine blk_exit ?_
 refine then_normal ?_
 refine sr ?_
 refine mv hs rfl rfl fun a hs => ?_
 refine av hs rfl rfl fun a hs => ?_
 refine nl ?_
 have hsh := oi hsh
 subst hsh
 refine wp_ret ?_
 exact ret1 hs rfl (rv_tmp rfl) (hw.ret rfl)

abbrev response_Valid_rd (w0 : World) (X : List Nat) (r : Bool) : (Nat → Prop) → World → Value → Prop := fun S w v => v = .bool r
set_option maxHeartbeats 4000000 in
set_option maxRecDepth 100000 in
theorem response_Valid_ok {w0 : World} {S0 : Nat → Prop} {p2 : Option Addr} {k3 : Nat} {r1 : Response} {r : Bool} (hsh : response_Valid r1 = some r) (hS : ∀ b, S0 b → b < w0.heap.size) (h4 : (SlA p2 r1.Stages.length k3 r1.Stages).p S0 w0) : Calls Try.prog 33 #[.agg #[.slice p2 r1.Stages.length k3]] w0 (Ret ([]) w0 S0 (response_Valid_rd w0 ([]) r)) := by
 refine calls_of_wp Try.func33 rfl ?_
 have hs := Sl.enter #[.agg #[.slice p2 r1.Stages.length k3]] 16 [(0, .agg #[.slice p2 r1.Stages.length k3])] rfl ⟨rfl, trivial⟩
 have hw := Wd.enter (E := []) hS (fun _ h => (by cases h))
 have hw := hw.addE h4
 delta response_Valid at hsh
 refine sr ?_
 refine w_box (cs := [.slice p2 r1.Stages.length k3]) hs hw rfl rfl rfl trivial ?_
 intro b5 a w hs hw
 refine av hs rfl rfl fun a hs => ?_
 refine nl ?_
 refine wp_seq ?_
 refine sr ?_
 refine sv hs (y_fieldAddr (o' := 0) Try.runUnderlying37 rfl Try.sizeOf35 rfl rfl rfl) rfl fun a hs => ?_
 refine sv hs (y_loadB1 (hw.ownAt 0 rfl) rfl Try.isAgg35 rfl) rfl fun a hs => ?_
 refine sv hs (y_len Try.runUnderlying35 rfl) rfl fun a hs => ?_
 refine sv hs (y_gtr rfl rfl) rfl fun a hs => ?_
 refine mv hs rfl rfl fun a hs => ?_
 obtain ⟨c14, hc14, hsh⟩ := bind_t hsh
 refine wpl_join 4 (fun a w => ∃ (Sv15 : Nat → Prop), Sl 16 [(1, .pointer (some ⟨b5, 0, none⟩)), (11, .bool c14)] a ∧ Wd ⟨w0, S0, []⟩ Sv15 [.box b5 [.slice p2 r1.Stages.length k3] 37] [SlA p2 r1.Stages.length k3 r1.Stages] w) ?_ ?_
 ·rcases Bool.eq_false_or_eq_true (decide (8 < (r1.Stages.length : Int))) with h13 | h13
  ·have hs := hs.fix 7 (.bool true) rfl (vb h13)
   have hsh := ite_t hc14 h13
   refine st_skip hs rfl rfl rfl rfl rfl fun a hs => ?_
   refine st_skip hs rfl rfl rfl rfl rfl fun a hs => ?_
   refine st_skip hs rfl rfl rfl rfl rfl fun a hs => ?_
   refine sv hs (y_pickT rfl rfl) rfl fun a hs => ?_
   refine wpList_nil ?_
   have hsh := oi hsh
   subst hsh
   refine then_normal ?_
   exact ⟨S0, (hs.wk rfl), (hw.ft [0] [0] (by decide) rfl rfl)⟩
  have hs := hs.fix 7 (.bool false) rfl (vb h13)
  have hsh := ite_f hc14 h13
  refine st_val hs (y_fieldAddr (o' := 0) Try.runUnderlying37 rfl Try.sizeOf35 rfl rfl rfl) ⟨_, rfl, rfl⟩ rfl rfl fun a hs => ?_
  refine st_val hs (y_loadB1 (hw.ownAt 0 rfl) rfl Try.isAgg35 rfl) ⟨_, rfl, rfl⟩ rfl rfl fun a hs => ?_
  obtain ⟨rv17, h16, hsh⟩ := bind_t hsh
  refine st_callR hs (slices_ContainsFunc_Lapi_Stage_api_Stage_ok h16 hw.bdom (hw.bE 0 rfl) (response_Valid_fn1_fn _ _)) (do_call Try.call64 rfl) ⟨_, rfl, rfl⟩ rfl rfl ?_
  intro v21 Sv18 w a h19 h20 hs
  subst h20
  have hw := hw.callB h19
  refine sv hs (y_pickF rfl rfl) rfl fun a hs => ?_
  refine wpList_nil ?_
  have hsh := oi hsh
  subst hsh
  refine then_normal ?_
  exact ⟨S0, (hs.wk rfl), (hw.ft [0] [0] (by decide) rfl rfl)⟩
 rintro a w ⟨Sv15, hs, hw⟩
 refine nl ?_
 refine wp_cond_split (hs.ev rfl) (fun h24 => ?_) (fun h24 => ?_)
 ·have hsh := ite_t hsh h24
  refine sr ?_
  refine av hs rfl rfl fun a hs => ?_
  refine nl ?_
  have hsh := oi hsh
  subst hsh
  refine wp_ret ?_
  refine then_ret ?_
  exact ret1 hs rfl (rv_tmp rfl) (hw.ret rfl)
 have hsh := ite_f hsh h24
 refine wp_skip ?_
 refine then_normal ?_
 refine sr ?_
 refine sv hs (y_fieldAddr (o' := 0) Try.runUnderlying37 rfl Try.sizeOf35 rfl rfl rfl) rfl fun a hs => ?_
 refine sv hs (y_loadB1 (hw.ownAt 0 rfl) rfl Try.isAgg35 rfl) rfl fun a hs => ?_
 obtain ⟨rv26, h25, hsh⟩ := bind_t hsh
 refine st_callR hs (response_factor_ok h25 hw.bdom (hw.bE 0 rfl)) (do_call Try.call51 rfl) trivial rfl rfl ?_
 intro v30 Sv27 w a h28 h29 hs
 subst h29
 have hw := hw.callB h28
 refine sv hs (y_gtr rfl rfl) rfl fun a hs => ?_
 refine av hs rfl rfl fun a hs => ?_
 refine nl ?_
 have hsh := oi hsh
 subst hsh
 refine wp_ret ?_
 exact ret1 hs rfl (rv_tmp rfl) (hw.ret rfl)

abbrev nat_From_rd (w0 : World) (X : List Nat) (r : ((List Int) × Int)) : (Nat → Prop) → World → Value → Prop := fun S w v => ∃ (p0_0 : Option Addr) (k0_0 : Nat) (c0_0 : List Value), v = .tuple #[.slice p0_0 r.1.length k0_0, .int .i64 r.2] ∧ Outs X w0 S w [.row p0_0 r.1.length k0_0 c0_0 3 1] ∧ (RowA c0_0 r.1).p S w
set_option maxHeartbeats 4000000 in
set_option maxRecDepth 100000 in
theorem nat_From_ok {w0 : World} {S0 : Nat → Prop} {n1 : Int} {r : ((List Int) × Int)} (hsh : nat_From n1 = some r) (hS : ∀ b, S0 b → b < w0.heap.size) : Calls Try.prog 92 #[.int .i64 n1] w0 (Ret ([]) w0 S0 (nat_From_rd w0 ([]) r)) := by
 refine calls_of_wp Try.func92 rfl ?_
 have hs := Sl.enter #[.int .i64 n1] 17 [(0, .int .i64 n1)] rfl ⟨rfl, trivial⟩
 have hw := Wd.enter (E := []) hS (fun _ h => (by cases h))
 delta nat_From at hsh
 refine sr ?_
 refine av hs rfl rfl fun a hs => ?_
 refine av hs rfl rfl fun a hs => ?_
 refine nl ?_
 refine wp_seq ?_
 refine sr ?_
 refine mv hs rfl rfl fun a hs => ?_
 refine sv hs (y_lss rfl rfl) rfl fun a hs => ?_
 refine nl ?_
 refine wp_cond_split (hs.ev rfl) (fun h3 => ?_) (fun h3 => ?_)
 ·have hsh := ite_t hsh h3
  refine sr ?_
  refine av hs rfl rfl fun a hs => ?_
  refine av hs rfl rfl fun a hs => ?_
  refine nl ?_
  have hsh := oi hsh
  subst hsh
  have hw := hw.nilRow Int 3
  refine wp_ret ?_
  refine then_ret ?_
  exact ret2 hs rfl (rv_tmp rfl) (rv_tmp rfl) (hw.ret ⟨none, 0, [], rfl, (hw.outs [0] (by decide) rfl), (hw.envAt 0 rfl)⟩)
 have hsh := ite_f hsh h3
 refine wp_skip ?_
 refine then_normal ?_
 refine sr ?_
 refine av hs rfl rfl fun a hs => ?_
 refine nl ?_
 refine wp_seq ?_
 obtain ⟨e46, h70, hsh⟩ := bind_t hsh
 refine wp_join (fun a w => ∃ (c47 : List Value) (p48 : Option Addr) (k49 : Nat) (Sv50 : Nat → Prop), Sl 17 [(4, .slice p48 e46.length k49)] a ∧ Wd ⟨w0, S0, []⟩ Sv50 [.row p48 e46.length k49 c47 3 1] [RowA c47 e46] w) ?_ ?_
 ·refine wp_block ?_
  have hw := hw.nilRow Int 3
  refine wp_while (fun sv4 a w => ∃ (c29 : List Value) (p30 : Option Addr) (k31 : Nat) (Sv32 : Nat → Prop), Sl 17 [(0, .int .i64 sv4.1), (4, .slice p30 sv4.2.length k31)] a ∧ Wd ⟨w0, S0, []⟩ Sv32 [.row p30 sv4.2.length k31 c29 3 1] [RowA c29 sv4.2] w) (n1, ([] : List Int)) h70 ⟨[], none, 0, S0, (hs.wk rfl), (hw.ft [0] [0] (by decide) rfl rfl)⟩ ?_
  clear h70
  repeat clear hsh
  rintro sv4 a w tv44 ⟨c29, p30, k31, Sv32, hs, hw⟩ hsh hd43
  delta nat_From_l1 at hsh
  refine wp_seq ?_
  refine sr ?_
  refine mv hs rfl rfl fun a hs => ?_
  refine sv hs (y_gtr rfl rfl) rfl fun a hs => ?_
  refine nl ?_
  refine wp_cond_split (hs.ev rfl) (fun h52 => ?_) (fun h52 => ?_)
  ·have hsh := ite_t hsh h52
   refine wp_skip ?_
   refine then_normal ?_
   refine wp_seq ?_
   refine wp_block ?_
   refine wp_region_lit ?_
   refine mv hs rfl rfl fun a hs => ?_
   refine mv hs rfl rfl fun a hs => ?_
   refine sv hs (y_rem rfl rfl (by decide)) rfl fun a hs => ?_
   refine w_litSlice (α := Int) (vs := [.int .i64 (Int.tmod sv4.1 1073741824)]) (cs := [.int .i64 (Int.tmod sv4.1 1073741824)]) (xs := ([(Int.tmod sv4.1 1073741824)] : List Int)) hs hw El29 rfl rfl rfl rfl rfl rfl ⟨⟨_, rfl, rfl⟩, rfl⟩ rfl trivial rfl fun b61 a w hs hw => ?_
   obtain ⟨l63, h62, hsh⟩ := bind_t hsh
   refine w_appendR (α := Int) hs hw El29 1 rfl rfl rfl 1 rfl 0 rfl 0 rfl h62 rfl trivial ?_
   intro p64 k65 c66 a w hs hw
   refine av hs rfl rfl fun a hs => ?_
   refine wpList_nil ?_
   refine blk_normal ?_
   refine then_normal ?_
   refine wp_region_lit ?_
   refine mv hs rfl rfl fun a hs => ?_
   obtain ⟨shr68, h67, hsh⟩ := bind_t hsh
   refine sv hs (y_shrM rfl rfl h67) rfl fun a hs => ?_
   refine av hs rfl rfl fun a hs => ?_
   refine nl ?_
   exact ⟨_, (Option.some.inj hsh).symm, c66, p64, k65, Sv32, (hs.wk rfl), (hw.ft [1] [0] (by decide) rfl rfl)⟩
  have hsh := ite_f hsh h52
  refine wp_exit ?_
  refine then_exit ?_
  refine then_exit ?_
  refine blk_exit ?_
  have hsh := oi hsh
  subst hsh
  have h69 := hd43 _ rfl
  subst h69
  refine then_normal ?_
  exact ⟨c29, p30, k31, Sv32, (hs.wk rfl), (hw.ft [0] [0] (by decide) rfl rfl)⟩
 rintro a w ⟨c47, p48, k49, Sv50, hs, hw⟩
 refine then_normal ?_
 refine sr ?_
 refine mv hs rfl rfl fun a hs => ?_
 refine av hs rfl rfl fun a hs => ?_
 refine av hs rfl rfl fun a hs => ?_
 refine nl ?_
 have hsh := oi hsh
 subst hsh
 refine wp_ret ?_
 exact ret2 hs rfl (rv_tmp rfl) (rv_tmp rfl) (hw.ret ⟨p48, k49, c47, rfl, (hw.outs [0] (by decide) rfl), (hw.envAt 0 rfl)⟩)

abbrev slices_IndexFunc_api_Nat_int_rd (w0 : World) (X : List Nat) (r : Int) : (Nat → Prop) → World → Value → Prop := fun S w v => v = .int .i64 r
set_option maxHeartbeats 4000000 in
set_option maxRecDepth 100000 in
theorem slices_IndexFunc_api_Nat_int_ok {w0 : World} {S0 : Nat → Prop} {p2 : Option Addr} {k3 : Nat} {g6 : Nat} {f7 : List Value} {cp8 : List Value} {s1 : (List Int)} {f5 : Int → Option Bool} {r : Int} (hsh : slices_IndexFunc_api_Nat_int s1 f5 = some r) (hS : ∀ b, S0 b → b < w0.heap.size) (h4 : (SlA p2 s1.length k3 s1).p S0 w0) (h9 : (FnA1 Try.prog g6 f7 cp8 f5).p S0 w0) : Calls Try.prog 103 #[.slice p2 s1.length k3, .func (.func g6) f7.toArray cp8.toArray] w0 (Ret ([]) w0 S0 (slices_IndexFunc_api_Nat_int_rd w0 ([]) r)) := by
 refine calls_of_wp Try.func103 rfl ?_
 have hs := Sl.enter #[.slice p2 s1.length k3, .func (.func g6) f7.toArray cp8.toArray] 19 [(0, .slice p2 s1.length k3), (1, .func (.func g6) f7.toArray cp8.toArray)] rfl ⟨rfl, rfl, trivial⟩
 have hw := Wd.enter (E := []) hS (fun _ h => (by cases h))
 have hw := hw.addE h4
 have hw := hw.addE h9
 delta slices_IndexFunc_api_Nat_int at hsh
 refine sr ?_
 refine av hs rfl rfl fun a hs => ?_
 refine nl ?_
 refine wp_seq ?_
 refine sr ?_
 refine mv hs rfl rfl fun a hs => ?_
 refine sv hs (y_len Try.runUnderlying29 rfl) rfl fun a hs => ?_
 refine mv hs rfl rfl fun a hs => ?_
 refine nl ?_
 refine wp_block ?_
 refine wp_while (fun sv78 a w => ∃ (Sv122 : Nat → Prop), Sl 19 [(0, .slice p2 s1.length k3), (1, .func (.func g6) f7.toArray cp8.toArray), (7, .int .i64 (s1.length : Int)), (8, .int .i64 sv78)] a ∧ Wd ⟨w0, S0, []⟩ Sv122 [] [SlA p2 s1.length k3 s1, FnA1 Try.prog g6 f7 cp8 f5] w) 0 hsh ⟨S0, (hs.wk rfl), (hw.ft [] [1, 0] (by decide) rfl rfl)⟩ ?_
 repeat clear hsh
 rintro sv78 a w tv145 ⟨Sv122, hs, hw⟩ hsh hd144
 delta slices_IndexFunc_api_Nat_int_l2 at hsh
 refine sr ?_
 refine sv hs (y_lss rfl rfl) rfl fun a hs => ?_
 refine nl ?_
 refine wp_seq ?_
 refine wp_cond_split (hs.ev rfl) (fun h149 => ?_) (fun h149 => ?_)
 ·have hsh := ite_t hsh h149
  refine wp_skip ?_
  refine then_normal ?_
  refine wp_seq ?_
  refine wp_block ?_
  refine sr ?_
  refine mv hs rfl rfl fun a hs => ?_
  refine av hs rfl rfl fun a hs => ?_
  refine nl ?_
  refine sr ?_
  refine mv hs rfl rfl fun a hs => ?_
  refine mv hs rfl rfl fun a hs => ?_
  refine mv hs rfl rfl fun a hs => ?_
  obtain ⟨x172, h170, hsh⟩ := bind_t hsh
  obtain ⟨b178, o179, q176, c177, h180, h173, h174, h175, h171⟩ := hw.elemV 0 rfl h170
  have hsv181 := hs
  have hwv182 := hw
  subst h180
  have hs := hsv181
  have hw := hwv182
  obtain ⟨_, rfl, rfl⟩ := h171
  have hw := hw.addE h175
  refine sv hs (y_indexAt Try.runUnderlying29 Try.sizeOf3 rfl rfl h173.1 h173.2 h174) rfl fun a hs => ?_
  refine sv hs (y_loadE1 (j := 0) (hw.ceAt 0 rfl) rfl Try.isAgg3 rfl) rfl fun a hs => ?_
  obtain ⟨rv184, h183, hsh⟩ := bind_t hsh
  refine st_callR hs ((hw.bE 2 rfl).2 Keep.rfl' hw.bdom ⟨_, rfl, rfl⟩ h183) (do_callF (hw.bE 2 rfl).1 rfl rfl) trivial rfl rfl ?_
  intro v188 Sv185 w a h186 h187 hs
  subst h187
  have hw := hw.callB h186
  refine nl ?_
  refine wp_cond_split (hs.ev rfl) (fun h190 => ?_) (fun h190 => ?_)
  ·have hsh := ite_t hsh h190
   refine sr ?_
   refine mv hs rfl rfl fun a hs => ?_
   refine av hs rfl rfl fun a hs => ?_
   refine nl ?_
   have hsh := oi hsh
   subst hsh
   have h191 := hd144 _ rfl
   subst h191
   refine wp_ret ?_
   refine blk_ret ?_
   refine then_ret ?_
   refine then_ret ?_
   refine blk_ret ?_
   refine then_ret ?_
   exact ret1 hs rfl (rv_tmp rfl) (hw.ret rfl)
  have hsh := ite_f hsh h190
  refine wp_skip ?_
  refine blk_normal ?_
  refine then_normal ?_
  refine wp_region_lit ?_
  refine sv hs (y_add rfl rfl) rfl fun a hs => ?_
  refine mv hs rfl rfl fun a hs => ?_
  refine nl ?_
  exact ⟨_, (Option.some.inj hsh).symm, Sv122, (hs.wk rfl), (hw.ft [] [1, 2] (by decide) rfl rfl)⟩
 have hsh := ite_f hsh h149
 obtain ⟨rv192, hsh, h193⟩ := map_t hsh
 have h193 := (hd144 _ h193.symm).symm
 subst h193
 refine wp_exit ?_
 refine then_exit ?_
 refine then_exit ?_
 refine blk_exit ?_
 refine then_normal ?_
 refine sr ?_
 refine av hs rfl rfl fun a hs => ?_
 refine nl ?_
 have hsh := oi hsh
 subst hsh
 refine wp_ret ?_
 exact ret1 hs rfl (rv_tmp rfl) (hw.ret rfl)

abbrev slices_ContainsFunc_api_Nat_int_rd (w0 : World) (X : List Nat) (r : Bool) : (Nat → Prop) → World → Value → Prop := fun S w v => v = .bool r
set_option maxHeartbeats 4000000 in
set_option maxRecDepth 100000 in
theorem slices_ContainsFunc_api_Nat_int_ok {w0 : World} {S0 : Nat → Prop} {p2 : Option Addr} {k3 : Nat} {g6 : Nat} {f7 : List Value} {cp8 : List Value} {s1 : (List Int)} {f5 : Int → Option Bool} {r : Bool} (hsh : slices_ContainsFunc_api_Nat_int s1 f5 = some r) (hS : ∀ b, S0 b → b < w0.heap.size) (h4 : (SlA p2 s1.length k3 s1).p S0 w0) (h9 : (FnA1 Try.prog g6 f7 cp8 f5).p S0 w0) : Calls Try.prog 101 #[.slice p2 s1.length k3, .func (.func g6) f7.toArray cp8.toArray] w0 (Ret ([]) w0 S0 (slices_ContainsFunc_api_Nat_int_rd w0 ([]) r)) := by
 refine calls_of_wp Try.func101 rfl ?_
 have hs := Sl.enter #[.slice p2 s1.length k3, .func (.func g6) f7.toArray cp8.toArray] 9 [(0, .slice p2 s1.length k3), (1, .func (.func g6) f7.toArray cp8.toArray)] rfl ⟨rfl, rfl, trivial⟩
 have hw := Wd.enter (E := []) hS (fun _ h => (by cases h))
 have hw := hw.addE h4
 have hw := hw.addE h9
 delta slices_ContainsFunc_api_Nat_int at hsh
 refine sr ?_
 refine av hs rfl rfl fun a hs => ?_
 refine nl ?_
 refine sr ?_
 refine mv hs rfl rfl fun a hs => ?_
 refine mv hs rfl rfl fun a hs => ?_
 obtain ⟨rv11, h10, hsh⟩ := bind_t hsh
 refine st_callR hs (slices_IndexFunc_api_Nat_int_ok h10 hw.bdom (hw.bE 1 rfl) (hw.bE 0 rfl)) (do_call Try.call103 rfl) trivial rfl rfl ?_
 intro v15 Sv12 w a h13 h14 hs
 subst h14
 have hw := hw.callB h13
 refine sv hs (y_geq rfl rfl) rfl fun a hs => ?_
 refine av hs rfl rfl fun a hs => ?_
 refine nl ?_
 have hsh := oi hsh
 subst hsh
 refine wp_ret ?_
 exact ret1 hs rfl (rv_tmp rfl) (hw.ret rfl)

abbrev nat_Valid_fn1_rd (w0 : World) (X : List Nat) (r : Bool) : (Nat → Prop) → World → Value → Prop := fun S w v => v = .bool r
set_option maxHeartbeats 4000000 in
set_option maxRecDepth 100000 in
theorem nat_Valid_fn1_ok {w0 : World} {S0 : Nat → Prop} {x1 : Int} {r : Bool} (hsh : nat_Valid_fn1 x1 = some r) (hS : ∀ b, S0 b → b < w0.heap.size) : Calls Try.prog 102 #[.int .i64 x1] w0 (Ret ([]) w0 S0 (nat_Valid_fn1_rd w0 ([]) r)) := by
 refine calls_of_wp Try.func102 rfl ?_
 have hs := Sl.enter #[.int .i64 x1] 9 [(0, .int .i64 x1)] rfl ⟨rfl, trivial⟩
 have hw := Wd.enter (E := []) hS (fun _ h => (by cases h))
 delta nat_Valid_fn1 at hsh
 refine sr ?_
 refine av hs rfl rfl fun a hs => ?_
 refine nl ?_
 refine sr ?_
 refine mv hs rfl rfl fun a hs => ?_
 refine sv hs (y_lss rfl rfl) rfl fun a hs => ?_
 refine mv hs rfl rfl fun a hs => ?_
 refine wpl_join 3 (fun a w1 => w0 = w1 ∧ Sl 9 [(8, .bool ((decide (x1 < 0)) || (decide (1073741824 ≤ x1))))] a) ?_ ?_
 ·rcases Bool.eq_false_or_eq_true (decide (x1 < 0)) with h2 | h2
  ·have hs := hs.fix 5 (.bool true) rfl (vb h2)
   refine st_skip hs rfl rfl rfl rfl rfl fun a hs => ?_
   refine st_skip hs rfl rfl rfl rfl rfl fun a hs => ?_
   refine sv hs (y_pickT rfl rfl) rfl fun a hs => ?_
   refine nl ?_
   exact ⟨rfl, (hs.fix 8 (.bool ((decide (x1 < 0)) || (decide (1073741824 ≤ x1)))) rfl (or_t h2)).weaken _ ⟨rfl, trivial⟩⟩
  have hs := hs.fix 5 (.bool false) rfl (vb h2)
  refine st_val hs (y_move rfl) ⟨_, rfl, rfl⟩ rfl rfl fun a hs => ?_
  refine st_val hs (y_geq rfl rfl) ⟨_, rfl, rfl⟩ rfl rfl fun a hs => ?_
  refine sv hs (y_pickF rfl rfl) rfl fun a hs => ?_
  refine nl ?_
  exact ⟨rfl, (hs.fix 8 (.bool ((decide (x1 < 0)) || (decide (1073741824 ≤ x1)))) rfl (or_f h2)).weaken _ ⟨rfl, trivial⟩⟩
 rintro a w1 ⟨h3, hs⟩
 subst h3
 refine av hs rfl rfl fun a hs => ?_
 refine nl ?_
 have hsh := oi hsh
 subst hsh
 refine wp_ret ?_
 exact ret1 hs rfl (rv_tmp rfl) (hw.ret rfl)

theorem nat_Valid_fn1_fn (S0 : Nat → Prop) (w0 : World) : (FnA1 Try.prog 102 [] [] nat_Valid_fn1).p S0 w0 := by
  refine ⟨Try.call102, ?_⟩
  intro S1 w1 hk hS c0 x0 r1 h0 hf
  obtain ⟨_, rfl, rfl⟩ := h0
  exact nat_Valid_fn1_ok hf hS  

abbrev nat_Valid_rd (w0 : World) (X : List Nat) (r : Bool) : (Nat → Prop) → World → Value → Prop := fun S w v => v = .bool r
set_option maxHeartbeats 4000000 in
set_option maxRecDepth 100000 in
theorem nat_Valid_ok {w0 : World} {S0 : Nat → Prop} {p2 : Option Addr} {k3 : Nat} {n1 : (List Int)} {r : Bool} (hsh : nat_Valid n1 = some r) (hS : ∀ b, S0 b → b < w0.heap.size) (h4 : (SlA p2 n1.length k3 n1).p S0 w0) : Calls Try.prog 95 #[.slice p2 n1.length k3] w0 (Ret ([]) w0 S0 (nat_Valid_rd w0 ([]) r)) := by
 refine calls_of_wp Try.func95 rfl ?_
 have hs := Sl.enter #[.slice p2 n1.length k3] 23 [(0, .slice p2 n1.length k3)] rfl ⟨rfl, trivial⟩
 have hw := Wd.enter (E := []) hS (fun _ h => (by cases h))
 have hw := hw.addE h4
 delta nat_Valid at hsh
 refine sr ?_
 refine av hs rfl rfl fun a hs => ?_
 refine nl ?_
 refine wp_seq ?_
 refine sr ?_
 refine mv hs rfl rfl fun a hs => ?_
 refine sv hs (y_len Try.runUnderlying29 rfl) rfl fun a hs => ?_
 refine sv hs (y_gtr rfl rfl) rfl fun a hs => ?_
 refine mv hs rfl rfl fun a hs => ?_
 obtain ⟨c35, hc35, hsh⟩ := bind_t hsh
 refine wpl_join 13 (fun a w => ∃ (Sv36 : Nat → Prop), Sl 23 [(0, .slice p2 n1.length k3), (19, .bool c35)] a ∧ Wd ⟨w0, S0, []⟩ Sv36 [] [SlA p2 n1.length k3 n1] w) ?_ ?_
 ·rcases Bool.eq_false_or_eq_true (decide (64 < (n1.length : Int))) with h34 | h34
  ·have hs := hs.fix 6 (.bool true) rfl (vb h34)
   have hsh := ite_t hc35 h34
   refine st_skip hs rfl rfl rfl rfl rfl fun a hs => ?_
   refine st_skip hs rfl rfl rfl rfl rfl fun a hs => ?_
   refine st_skip hs rfl rfl rfl rfl rfl fun a hs => ?_
   refine st_skip hs rfl rfl rfl rfl rfl fun a hs => ?_
   refine st_skipU hs rfl rfl rfl rfl rfl fun a hs => ?_
   refine st_skipU hs rfl rfl rfl rfl rfl fun a hs => ?_
   refine st_skipU hs rfl rfl rfl rfl rfl fun a hs => ?_
   refine st_skipU hs rfl rfl rfl rfl rfl fun a hs => ?_
   refine st_skipU hs rfl rfl rfl rfl rfl fun a hs => ?_
   refine st_skipU hs rfl rfl rfl rfl rfl fun a hs => ?_
   refine st_skipU hs rfl rfl rfl rfl rfl fun a hs => ?_
   refine st_skip hs rfl rfl rfl rfl rfl fun a hs => ?_
   refine sv hs (y_pickT rfl rfl) rfl fun a hs => ?_
   refine wpList_nil ?_
   have hsh := oi hsh
   subst hsh
   refine then_normal ?_
   exact ⟨S0, (hs.wk rfl), (hw.ft [] [0] (by decide) rfl rfl)⟩
  have hs := hs.fix 6 (.bool false) rfl (vb h34)
  have hsh := ite_f hc35 h34
  refine st_val hs (y_move rfl) ⟨_, rfl, rfl⟩ rfl rfl fun a hs => ?_
  refine st_val hs (y_len Try.runUnderlying29 rfl) ⟨_, rfl, rfl⟩ rfl rfl fun a hs => ?_
  refine st_val hs (y_gtr rfl rfl) ⟨_, rfl, rfl⟩ rfl rfl fun a hs => ?_
  refine st_val hs (y_move rfl) ⟨_, rfl, rfl⟩ rfl rfl fun a hs => ?_
  obtain ⟨c51, hc51, hsh⟩ := bind_t hsh
  refine wpl_join 8 (fun a w => ∃ (Sv52 : Nat → Prop), Sl 23 [(0, .slice p2 n1.length k3), (6, .bool false), (18, .bool c51)] a ∧ Wd ⟨w0, S0, []⟩ Sv52 [] [SlA p2 n1.length k3 n1] w) ?_ ?_
  ·rcases Bool.eq_false_or_eq_true (decide (0 < (n1.length : Int))) with h50 | h50
   ·have hs := hs.fix 10 (.bool true) rfl (vb h50)
    have hsh := ite_t hc51 h50
    refine st_val hs (y_move rfl) ⟨_, rfl, rfl⟩ rfl rfl fun a hs => ?_
    refine st_val hs (y_move rfl) ⟨_, rfl, rfl⟩ rfl rfl fun a hs => ?_
    refine st_val hs (y_len Try.runUnderlying29 rfl) ⟨_, rfl, rfl⟩ rfl rfl fun a hs => ?_
    refine st_val hs (y_sub rfl rfl) ⟨_, rfl, rfl⟩ rfl rfl fun a hs => ?_
    obtain ⟨x55, h53, hsh⟩ := bind_t hsh
    obtain ⟨b61, o62, q59, c60, h63, h56, h57, h58, h54⟩ := hw.elemV 0 rfl h53
    have hsv64 := hs
    have hwv65 := hw
    subst h63
    have hs := hsv64
    have hw := hwv65
    obtain ⟨_, rfl, rfl⟩ := h54
    have hw := hw.addE h58
    refine st_val hs (y_indexAt Try.runUnderlying29 Try.sizeOf3 rfl rfl h56.1 h56.2 h57) ⟨_, rfl, rfl⟩ rfl rfl fun a hs => ?_
    refine st_val hs (y_loadE1 (j := 0) (hw.ceAt 0 rfl) rfl Try.isAgg3 rfl) ⟨_, rfl, rfl⟩ rfl rfl fun a hs => ?_
    refine st_val hs (y_eql rfl rfl) ⟨_, rfl, rfl⟩ rfl rfl fun a hs => ?_
    refine st_val hs (y_pickT rfl rfl) ⟨_, rfl, rfl⟩ rfl rfl fun a hs => ?_
    refine wpList_nil ?_
    have hsh := oi hsh
    subst hsh
    refine then_normal ?_
    exact ⟨S0, (hs.wk rfl), (hw.ft [] [1] (by decide) rfl rfl)⟩
   have hs := hs.fix 10 (.bool false) rfl (vb h50)
   have hsh := ite_f hc51 h50
   refine st_skip hs rfl rfl rfl rfl rfl fun a hs => ?_
   refine st_skip hs rfl rfl rfl rfl rfl fun a hs => ?_
   refine st_skip hs rfl rfl rfl rfl rfl fun a hs => ?_
   refine st_skip hs rfl rfl rfl rfl rfl fun a hs => ?_
   refine st_skip hs rfl rfl rfl rfl rfl fun a hs => ?_
   refine st_skip hs rfl rfl rfl rfl rfl fun a hs => ?_
   refine st_skip hs rfl rfl rfl rfl rfl fun a hs => ?_
   refine st_val hs (y_pickF rfl rfl) ⟨_, rfl, rfl⟩ rfl rfl fun a hs => ?_
   refine wpList_nil ?_
   have hsh := oi hsh
   subst hsh
   refine then_normal ?_
   exact ⟨S0, (hs.wk rfl), (hw.ft [] [0] (by decide) rfl rfl)⟩
  rintro a w ⟨Sv52, hs, hw⟩
  refine sv hs (y_pickF rfl rfl) rfl fun a hs => ?_
  refine wpList_nil ?_
  have hsh := oi hsh
  subst hsh
  refine then_normal ?_
  exact ⟨Sv52, (hs.wk rfl), (hw.ft [] [0] (by decide) rfl rfl)⟩
 rintro a w ⟨Sv36, hs, hw⟩
 refine nl ?_
 refine wp_cond_split (hs.ev rfl) (fun h67 => ?_) (fun h67 => ?_)
 ·have hsh := ite_t hsh h67
  refine sr ?_
  refine av hs rfl rfl fun a hs => ?_
  refine nl ?_
  have hsh := oi hsh
  subst hsh
  refine wp_ret ?_
  refine then_ret ?_
  exact ret1 hs rfl (rv_tmp rfl) (hw.ret rfl)
 have hsh := ite_f hsh h67
 refine wp_skip ?_
 refine then_normal ?_
 refine sr ?_
 refine mv hs rfl rfl fun a hs => ?_
 obtain ⟨rv69, h68, hsh⟩ := bind_t hsh
 refine st_callR hs (slices_ContainsFunc_api_Nat_int_ok h68 hw.bdom (hw.bE 0 rfl) (nat_Valid_fn1_fn _ _)) (do_call Try.call101 rfl) trivial rfl rfl ?_
 intro v73 Sv70 w a h71 h72 hs
 subst h72
 have hw := hw.callB h71
 refine sv hs (y_not rfl) rfl fun a hs => ?_
 refine av hs rfl rfl fun a hs => ?_
 refine nl ?_
 have hsh := oi hsh
 subst hsh
 refine wp_ret ?_
 exact ret1 hs rfl (rv_tmp rfl) (hw.ret rfl)

abbrev nat_both_rd (w0 : World) (X : List Nat) (r : Bool) : (Nat → Prop) → World → Value → Prop := fun S w v => v = .bool r
set_option maxHeartbeats 4000000 in
set_option maxRecDepth 100000 in
theorem nat_both_ok {w0 : World} {S0 : Nat → Prop} {p2 : Option Addr} {k3 : Nat} {p6 : Option Addr} {k7 : Nat} {a1 : (List Int)} {b5 : (List Int)} {r : Bool} (hsh : nat_both a1 b5 = some r) (hS : ∀ b, S0 b → b < w0.heap.size) (h4 : (SlA p2 a1.length k3 a1).p S0 w0) (h8 : (SlA p6 b5.length k7 b5).p S0 w0) : Calls Try.prog 100 #[.slice p2 a1.length k3, .slice p6 b5.length k7] w0 (Ret ([]) w0 S0 (nat_both_rd w0 ([]) r)) := by
 refine calls_of_wp Try.func100 rfl ?_
 have hs := Sl.enter #[.slice p2 a1.length k3, .slice p6 b5.length k7] 11 [(0, .slice p2 a1.length k3), (1, .slice p6 b5.length k7)] rfl ⟨rfl, rfl, trivial⟩
 have hw := Wd.enter (E := []) hS (fun _ h => (by cases h))
 have hw := hw.addE h4
 have hw := hw.addE h8
 delta nat_both at hsh
 refine sr ?_
 refine av hs rfl rfl fun a hs => ?_
 refine nl ?_
 refine sr ?_
 refine mv hs rfl rfl fun a hs => ?_
 obtain ⟨rv10, h9, hsh⟩ := bind_t hsh
 refine st_callR hs (nat_Valid_ok h9 hw.bdom (hw.bE 1 rfl)) (do_call Try.call95 rfl) trivial rfl rfl ?_
 intro v14 Sv11 w a h12 h13 hs
 subst h13
 have hw := hw.callB h12
 refine mv hs rfl rfl fun a hs => ?_
 obtain ⟨c24, hc24, hsh⟩ := bind_t hsh
 refine wpl_join 3 (fun a w => ∃ (Sv25 : Nat → Prop), Sl 11 [(10, .bool c24)] a ∧ Wd ⟨w0, S0, []⟩ Sv25 [] [] w) ?_ ?_
 ·rcases Bool.eq_false_or_eq_true rv10 with h23 | h23
  ·have hs := hs.fix 7 (.bool true) rfl (vb h23)
   have hsh := ite_t hc24 h23
   refine st_val hs (y_move rfl) ⟨_, rfl, rfl⟩ rfl rfl fun a hs => ?_
   obtain ⟨rv27, h26, hsh⟩ := bind_t hsh
   refine st_callR hs (nat_Valid_ok h26 hw.bdom (hw.bE 0 rfl)) (do_call Try.call95 rfl) ⟨_, rfl, rfl⟩ rfl rfl ?_
   intro v31 Sv28 w a h29 h30 hs
   subst h30
   have hw := hw.callB h29
   refine sv hs (y_pickT rfl rfl) rfl fun a hs => ?_
   refine wpList_nil ?_
   have hsh := oi hsh
   subst hsh
   refine then_normal ?_
   exact ⟨S0, (hs.wk rfl), (hw.ft [] [] (by decide) rfl rfl)⟩
  have hs := hs.fix 7 (.bool false) rfl (vb h23)
  have hsh := ite_f hc24 h23
  refine st_skip hs rfl rfl rfl rfl rfl fun a hs => ?_
  refine st_skip hs rfl rfl rfl rfl rfl fun a hs => ?_
  refine sv hs (y_pickF rfl rfl) rfl fun a hs => ?_
  refine wpList_nil ?_
  have hsh := oi hsh
  subst hsh
  refine then_normal ?_
  exact ⟨S0, (hs.wk rfl), (hw.ft [] [] (by decide) rfl rfl)⟩
 rintro a w ⟨Sv25, hs, hw⟩
 refine av hs rfl rfl fun a hs => ?_
 refine nl ?_
 have hsh := oi hsh
 subst hsh
 refine wp_ret ?_
 exact ret1 hs rfl (rv_tmp rfl) (hw.ret rfl)

abbrev nat_digit_rd (w0 : World) (X : List Nat) (r : Int) : (Nat → Prop) → World → Value → Prop := fun S w v => v = .int .i64 r
set_option maxHeartbeats 4000000 in
set_option maxRecDepth 100000 in
theorem nat_digit_ok {w0 : World} {S0 : Nat → Prop} {p2 : Option Addr} {k3 : Nat} {n1 : (List Int)} {i5 : Int} {r : Int} (hsh : nat_digit n1 i5 = some r) (hS : ∀ b, S0 b → b < w0.heap.size) (h4 : (SlA p2 n1.length k3 n1).p S0 w0) : Calls Try.prog 97 #[.slice p2 n1.length k3, .int .i64 i5] w0 (Ret ([]) w0 S0 (nat_digit_rd w0 ([]) r)) := by
 refine calls_of_wp Try.func97 rfl ?_
 have hs := Sl.enter #[.slice p2 n1.length k3, .int .i64 i5] 13 [(0, .slice p2 n1.length k3), (1, .int .i64 i5)] rfl ⟨rfl, rfl, trivial⟩
 have hw := Wd.enter (E := []) hS (fun _ h => (by cases h))
 have hw := hw.addE h4
 delta nat_digit at hsh
 refine sr ?_
 refine av hs rfl rfl fun a hs => ?_
 refine nl ?_
 refine wp_seq ?_
 refine sr ?_
 refine mv hs rfl rfl fun a hs => ?_
 refine mv hs rfl rfl fun a hs => ?_
 refine sv hs (y_len Try.runUnderlying29 rfl) rfl fun a hs => ?_
 refine sv hs (y_geq rfl rfl) rfl fun a hs => ?_
 refine nl ?_
 refine wp_cond_split (hs.ev rfl) (fun h7 => ?_) (fun h7 => ?_)
 ·have hsh := ite_t hsh h7
  refine sr ?_
  refine av hs rfl rfl fun a hs => ?_
  refine nl ?_
  have hsh := oi hsh
  subst hsh
  refine wp_ret ?_
  refine then_ret ?_
  exact ret1 hs rfl (rv_tmp rfl) (hw.ret rfl)
 have hsh := ite_f hsh h7
 refine wp_skip ?_
 refine then_normal ?_
 refine sr ?_
 refine mv hs rfl rfl fun a hs => ?_
 refine mv hs rfl rfl fun a hs => ?_
 obtain ⟨x10, h8, hsh⟩ := bind_t hsh
 obtain ⟨b16, o17, q14, c15, h18, h11, h12, h13, h9⟩ := hw.elemV 0 rfl h8
 have hsv19 := hs
 have hwv20 := hw
 subst h18
 have hs := hsv19
 have hw := hwv20
 obtain ⟨_, rfl, rfl⟩ := h9
 have hw := hw.addE h13
 refine sv hs (y_indexAt Try.runUnderlying29 Try.sizeOf3 rfl rfl h11.1 h11.2 h12) rfl fun a hs => ?_
 refine sv hs (y_loadE1 (j := 0) (hw.ceAt 0 rfl) rfl Try.isAgg3 rfl) rfl fun a hs => ?_
 refine av hs rfl rfl fun a hs => ?_
 refine nl ?_
 have hsh := oi hsh
 subst hsh
 refine wp_ret ?_
 exact ret1 hs rfl (rv_tmp rfl) (hw.ret rfl)

abbrev nat_trim_rd (w0 : World) (X : List Nat) (r : (List Int)) : (Nat → Prop) → World → Value → Prop := fun S w v => ∃ (p0_0 : Option Addr) (k0_0 : Nat), v = .slice p0_0 r.length k0_0 ∧ (SlA p0_0 r.length k0_0 r).p S w
set_option maxHeartbeats 4000000 in
set_option maxRecDepth 100000 in
theorem nat_trim_ok {w0 : World} {S0 : Nat → Prop} {p2 : Option Addr} {k3 : Nat} {n1 : (List Int)} {r : (List Int)} (hsh : nat_trim n1 = some r) (hS : ∀ b, S0 b → b < w0.heap.size) (h4 : (SlA p2 n1.length k3 n1).p S0 w0) : Calls Try.prog 96 #[.slice p2 n1.length k3] w0 (Ret ([]) w0 S0 (nat_trim_rd w0 ([]) r)) := by
 refine calls_of_wp Try.func96 rfl ?_
 have hs := Sl.enter #[.slice p2 n1.length k3] 21 [(0, .slice p2 n1.length k3)] rfl ⟨rfl, trivial⟩
 have hw := Wd.enter (E := []) hS (fun _ h => (by cases h))
 have hw := hw.addE h4
 delta nat_trim at hsh
 refine sr ?_
 refine av hs rfl rfl fun a hs => ?_
 refine nl ?_
 refine wp_seq ?_
 obtain ⟨e123, h171, hsh⟩ := bind_t hsh
 refine wp_join (fun a w => ∃ (p124 : Option Addr) (k125 : Nat) (Sv126 : Nat → Prop), Sl 21 [(0, .slice p124 e123.length k125)] a ∧ Wd ⟨w0, S0, []⟩ Sv126 [] [SlA p124 e123.length k125 e123] w) ?_ ?_
 ·refine wp_block ?_
  refine wp_while (fun sv5 a w => ∃ (p81 : Option Addr) (k82 : Nat) (Sv83 : Nat → Prop), Sl 21 [(0, .slice p81 sv5.length k82)] a ∧ Wd ⟨w0, S0, []⟩ Sv83 [] [SlA p81 sv5.length k82 sv5] w) n1 h171 ⟨p2, k3, S0, (hs.wk rfl), (hw.ft [] [0] (by decide) rfl rfl)⟩ ?_
  clear h171
  repeat clear hsh
  rintro sv5 a w tv121 ⟨p81, k82, Sv83, hs, hw⟩ hsh hd120
  delta nat_trim_l1 at hsh
  refine wp_seq ?_
  refine sr ?_
  refine mv hs rfl rfl fun a hs => ?_
  refine sv hs (y_len Try.runUnderlying29 rfl) rfl fun a hs => ?_
  refine sv hs (y_gtr rfl rfl) rfl fun a hs => ?_
  refine mv hs rfl rfl fun a hs => ?_
  obtain ⟨c141, hc141, hsh⟩ := bind_t hsh
  refine wpl_join 8 (fun a w => ∃ (Sv142 : Nat → Prop), Sl 21 [(0, .slice p81 sv5.length k82), (14, .bool c141)] a ∧ Wd ⟨w0, S0, []⟩ Sv142 [] [SlA p81 sv5.length k82 sv5] w) ?_ ?_
  ·rcases Bool.eq_false_or_eq_true (decide (0 < (sv5.length : Int))) with h140 | h140
   ·have hs := hs.fix 6 (.bool true) rfl (vb h140)
    have hsh := ite_t hc141 h140
    refine st_val hs (y_move rfl) ⟨_, rfl, rfl⟩ rfl rfl fun a hs => ?_
    refine st_val hs (y_move rfl) ⟨_, rfl, rfl⟩ rfl rfl fun a hs => ?_
    refine st_val hs (y_len Try.runUnderlying29 rfl) ⟨_, rfl, rfl⟩ rfl rfl fun a hs => ?_
    refine st_val hs (y_sub rfl rfl) ⟨_, rfl, rfl⟩ rfl rfl fun a hs => ?_
    obtain ⟨x145, h143, hsh⟩ := bind_t hsh
    obtain ⟨b151, o152, q149, c150, h153, h146, h147, h148, h144⟩ := hw.elemV 0 rfl h143
    have hsv154 := hs
    have hwv155 := hw
    subst h153
    have hs := hsv154
    have hw := hwv155
    obtain ⟨_, rfl, rfl⟩ := h144
    have hw := hw.addE h148
    refine st_val hs (y_indexAt Try.runUnderlying29 Try.sizeOf3 rfl rfl h146.1 h146.2 h147) ⟨_, rfl, rfl⟩ rfl rfl fun a hs => ?_
    refine st_val hs (y_loadE1 (j := 0) (hw.ceAt 0 rfl) rfl Try.isAgg3 rfl) ⟨_, rfl, rfl⟩ rfl rfl fun a hs => ?_
    refine st_val hs (y_eql rfl rfl) ⟨_, rfl, rfl⟩ rfl rfl fun a hs => ?_
    refine sv hs (y_pickT rfl rfl) rfl fun a hs => ?_
    refine wpList_nil ?_
    have hsh := oi hsh
    subst hsh
    refine then_normal ?_
    exact ⟨Sv83, (hs.wk rfl), (hw.ft [] [1] (by decide) rfl rfl)⟩
   have hs := hs.fix 6 (.bool false) rfl (vb h140)
   have hsh := ite_f hc141 h140
   refine st_skip hs rfl rfl rfl rfl rfl fun a hs => ?_
   refine st_skip hs rfl rfl rfl rfl rfl fun a hs => ?_
   refine st_skip hs rfl rfl rfl rfl rfl fun a hs => ?_
   refine st_skip hs rfl rfl rfl rfl rfl fun a hs => ?_
   refine st_skip hs rfl rfl rfl rfl rfl fun a hs => ?_
   refine st_skip hs rfl rfl rfl rfl rfl fun a hs => ?_
   refine st_skip hs rfl rfl rfl rfl rfl fun a hs => ?_
   refine sv hs (y_pickF rfl rfl) rfl fun a hs => ?_
   refine wpList_nil ?_
   have hsh := oi hsh
   subst hsh
   refine then_normal ?_
   exact ⟨Sv83, (hs.wk rfl), (hw.ft [] [0] (by decide) rfl rfl)⟩
  rintro a w ⟨Sv142, hs, hw⟩
  refine nl ?_
  refine wp_cond_split (hs.ev rfl) (fun h157 => ?_) (fun h157 => ?_)
  ·have hsh := ite_t hsh h157
   refine wp_skip ?_
   refine then_normal ?_
   refine wp_block ?_
   refine wp_region_lit ?_
   refine mv hs rfl rfl fun a hs => ?_
   refine mv hs rfl rfl fun a hs => ?_
   refine sv hs (y_len Try.runUnderlying29 rfl) rfl fun a hs => ?_
   refine sv hs (y_sub rfl rfl) rfl fun a hs => ?_
   obtain ⟨l169, h164, hsh⟩ := bind_t hsh
   obtain ⟨p167, k168, h165, h166⟩ := sub_env (hw.envAt 0 rfl) h164
   have hw := hw.addE h165
   refine sv hs (y_slc Try.runUnderlying29 Try.sizeOf3 rfl (by exact rfl) ⟨_, rfl⟩ h166) rfl fun a hs => ?_
   refine av hs rfl rfl fun a hs => ?_
   refine wpList_nil ?_
   refine blk_normal ?_
   refine then_normal ?_
   exact ⟨_, (Option.some.inj hsh).symm, p167, k168, Sv142, (hs.wk rfl), (hw.ft [] [0] (by decide) rfl rfl)⟩
  have hsh := ite_f hsh h157
  refine wp_exit ?_
  refine then_exit ?_
  refine then_exit ?_
  refine blk_exit ?_
  have hsh := oi hsh
  subst hsh
  have h170 := hd120 _ rfl
  subst h170
  refine then_normal ?_
  exact ⟨p81, k82, Sv142, (hs.wk rfl), (hw.ft [] [0] (by decide) rfl rfl)⟩
 rintro a w ⟨p124, k125, Sv126, hs, hw⟩
 refine then_normal ?_
 refine sr ?_
 refine mv hs rfl rfl fun a hs => ?_
 refine av hs rfl rfl fun a hs => ?_
 refine nl ?_
 have hsh := oi hsh
 subst hsh
 refine wp_ret ?_
 exact ret1 hs rfl (rv_tmp rfl) (hw.ret ⟨p124, k125, rfl, (hw.envAt 0 rfl)⟩)

abbrev nat_multiply_rd (w0 : World) (X : List Nat) (r : (List Int)) : (Nat → Prop) → World → Value → Prop := fun S w v => ∃ (p0_0 : Option Addr) (k0_0 : Nat), v = .slice p0_0 r.length k0_0 ∧ (SlA p0_0 r.length k0_0 r).p S w
set_option maxHeartbeats 4000000 in
set_option maxRecDepth 100000 in
theorem nat_multiply_ok {w0 : World} {S0 : Nat → Prop} {p2 : Option Addr} {k3 : Nat} {p6 : Option Addr} {k7 : Nat} {a1 : (List Int)} {b5 : (List Int)} {r : (List Int)} (hsh : nat_multiply a1 b5 = some r) (hS : ∀ b, S0 b → b < w0.heap.size) (h4 : (SlA p2 a1.length k3 a1).p S0 w0) (h8 : (SlA p6 b5.length k7 b5).p S0 w0) : Calls Try.prog 77 #[.slice p2 a1.length k3, .slice p6 b5.length k7] w0 (Ret ([]) w0 S0 (nat_multiply_rd w0 ([]) r)) := by
 refine calls_of_wp Try.func77 rfl ?_
 have hs := Sl.enter #[.slice p2 a1.length k3, .slice p6 b5.length k7] 62 [(0, .slice p2 a1.length k3), (1, .slice p6 b5.length k7)] rfl ⟨rfl, rfl, trivial⟩
 have hw := Wd.enter (E := []) hS (fun _ h => (by cases h))
 have hw := hw.addE h4
 have hw := hw.addE h8
 delta nat_multiply at hsh
 refine sr ?_
 refine av hs rfl rfl fun a hs => ?_
 refine nl ?_
 refine sr ?_
 refine mv hs rfl rfl fun a hs => ?_
 refine sv hs (y_len Try.runUnderlying29 rfl) rfl fun a hs => ?_
 refine mv hs rfl rfl fun a hs => ?_
 refine sv hs (y_len Try.runUnderlying29 rfl) rfl fun a hs => ?_
 refine sv hs (y_add rfl rfl) rfl fun a hs => ?_
 obtain ⟨l10, h9, hsh⟩ := bind_t hsh
 refine w_make (α := Int) hs hw El29 ⟨_, rfl, rfl⟩ rfl rfl h9 rfl trivial ?_
 intro p11 c12 a w hs hw
 refine av hs rfl rfl fun a hs => ?_
 refine nl ?_
 refine wp_seq ?_
 refine sr ?_
 refine mv hs rfl rfl fun a hs => ?_
 refine sv hs (y_len Try.runUnderlying29 rfl) rfl fun a hs => ?_
 refine mv hs rfl rfl fun a hs => ?_
 refine nl ?_
 obtain ⟨e487, h935, hsh⟩ := bind_t hsh
 refine wp_join (fun a w => ∃ (c488 : List Value) (p489 : Option Addr) (k490 : Nat) (Sv491 : Nat → Prop), Sl 62 [(5, .slice p489 e487.length k490)] a ∧ Wd ⟨w0, S0, []⟩ Sv491 [.row p489 e487.length k490 c488 3 1] [RowA c488 e487] w) ?_ ?_
 ·refine wp_block ?_
  refine wp_while (fun sv13 a w => ∃ (c326 : List Value) (p327 : Option Addr) (k328 : Nat) (Sv329 : Nat → Prop), Sl 62 [(1, .slice p6 b5.length k7), (5, .slice p327 sv13.1.length k328), (16, .slice p2 a1.length k3), (17, .int .i64 (a1.length : Int)), (18, .int .i64 sv13.2)] a ∧ Wd ⟨w0, S0, []⟩ Sv329 [.row p327 sv13.1.length k328 c326 3 1] [SlA p6 b5.length k7 b5, SlA p2 a1.length k3 a1, RowA c326 sv13.1] w) (l10, 0) h935 ⟨c12, p11, l10.length, S0, (hs.wk rfl), (hw.ft [0] [1, 2, 0] (by decide) rfl rfl)⟩ ?_
  clear h935
  repeat clear hsh
  rintro sv13 a w tv485 ⟨c326, p327, k328, Sv329, hs, hw⟩ hsh hd484
  delta nat_multiply_l3 at hsh
  refine sr ?_
  refine sv hs (y_lss rfl rfl) rfl fun a hs => ?_
  refine nl ?_
  refine wp_seq ?_
  refine wp_cond_split (hs.ev rfl) (fun h493 => ?_) (fun h493 => ?_)
  ·have hsh := ite_t hsh h493
   refine wp_skip ?_
   refine then_normal ?_
   refine wp_seq ?_
   refine wp_block ?_
   refine sr ?_
   refine mv hs rfl rfl fun a hs => ?_
   obtain ⟨x649, h647, hsh⟩ := bind_t hsh
   obtain ⟨b655, o656, q653, c654, h657, h650, h651, h652, h648⟩ := hw.elemV 1 rfl h647
   have hsv658 := hs
   have hwv659 := hw
   subst h657
   have hs := hsv658
   have hw := hwv659
   obtain ⟨_, rfl, rfl⟩ := h648
   have hw := hw.addE h652
   refine sv hs (y_indexAt Try.runUnderlying29 Try.sizeOf3 rfl rfl h650.1 h650.2 h651) rfl fun a hs => ?_
   refine sv hs (y_loadE1 (j := 0) (hw.ceAt 0 rfl) rfl Try.isAgg3 rfl) rfl fun a hs => ?_
   refine av hs rfl rfl fun a hs => ?_
   refine av hs rfl rfl fun a hs => ?_
   refine nl ?_
   refine sr ?_
   refine av hs rfl rfl fun a hs => ?_
   refine nl ?_
   refine sr ?_
   refine mv hs rfl rfl fun a hs => ?_
   refine sv hs (y_len Try.runUnderlying29 rfl) rfl fun a hs => ?_
   refine sv hs (y_add rfl rfl) rfl fun a hs => ?_
   refine mv hs rfl rfl fun a hs => ?_
   refine nl ?_
   obtain ⟨e795, h922, hsh⟩ := bind_t hsh
   refine wp_join (fun a w => ∃ (c796 : List Value) (p797 : Option Addr) (k798 : Nat) (Sv799 : Nat → Prop), Sl 62 [(1, .slice p6 b5.length k7), (5, .slice p797 e795.length k798), (16, .slice (some ⟨b655, o656, none⟩) a1.length k3), (17, .int .i64 (a1.length : Int)), (18, .int .i64 sv13.2)] a ∧ Wd ⟨w0, S0, []⟩ Sv799 [.row p797 e795.length k798 c796 3 1] [SlA p6 b5.length k7 b5, SlA (some ⟨b655, o656, none⟩) a1.length k3 a1, RowA c796 e795] w) ?_ ?_
   ·refine wp_block ?_
    refine wp_while (fun sv660 a w => ∃ (c747 : List Value) (p748 : Option Addr) (k749 : Nat) (Sv750 : Nat → Prop), Sl 62 [(1, .slice p6 b5.length k7), (5, .slice p748 sv660.1.length k749), (6, .int .i64 sv13.2), (7, .int .i64 x649), (8, .int .i64 sv660.2.1), (16, .slice (some ⟨b655, o656, none⟩) a1.length k3), (17, .int .i64 (a1.length : Int)), (18, .int .i64 sv13.2), (25, .int .i64 (w64 ((b5.length : Int) + 1))), (26, .int .i64 sv660.2.2)] a ∧ Wd ⟨w0, S0, []⟩ Sv750 [.row p748 sv660.1.length k749 c747 3 1] [SlA p6 b5.length k7 b5, SlA (some ⟨b655, o656, none⟩) a1.length k3 a1, RowA c747 sv660.1] w) (sv13.1, 0, 0) h922 ⟨c326, p327, k328, Sv329, (hs.wk rfl), (hw.ft [0] [1, 2, 3] (by decide) rfl rfl)⟩ ?_
    clear h922
    repeat clear hsh
    rintro sv660 a w tv793 ⟨c747, p748, k749, Sv750, hs, hw⟩ hsh hd792
    delta nat_multiply_l6 at hsh
    refine sr ?_
    refine sv hs (y_lss rfl rfl) rfl fun a hs => ?_
    refine nl ?_
    refine wp_seq ?_
    refine wp_cond_split (hs.ev rfl) (fun h801 => ?_) (fun h801 => ?_)
    ·have hsh := ite_t hsh h801
     refine wp_skip ?_
     refine then_normal ?_
     refine wp_seq ?_
     refine wp_block ?_
     refine sr ?_
     refine mv hs rfl rfl fun a hs => ?_
     refine av hs rfl rfl fun a hs => ?_
     refine nl ?_
     refine sr ?_
     refine mv hs rfl rfl fun a hs => ?_
     refine mv hs rfl rfl fun a hs => ?_
     refine sv hs (y_add rfl rfl) rfl fun a hs => ?_
     refine mv hs rfl rfl fun a hs => ?_
     refine sv hs (y_len Try.runUnderlying29 rfl) rfl fun a hs => ?_
     refine sv hs (y_lss rfl rfl) rfl fun a hs => ?_
     refine nl ?_
     refine wp_join (fun a w => ∃ (out880 : (List Int)) (carry881 : Int) (c876 : List Value) (p877 : Option Addr) (k878 : Nat) (Sv879 : Nat → Prop), nat_multiply_j1 sv660 out880 carry881 = some tv793 ∧ Sl 62 [(1, .slice p6 b5.length k7), (5, .slice p877 out880.length k878), (6, .int .i64 sv13.2), (7, .int .i64 x649), (8, .int .i64 carry881), (16, .slice (some ⟨b655, o656, none⟩) a1.length k3), (17, .int .i64 (a1.length : Int)), (18, .int .i64 sv13.2), (25, .int .i64 (w64 ((b5.length : Int) + 1))), (26, .int .i64 sv660.2.2)] a ∧ Wd ⟨w0, S0, []⟩ Sv879 [.row p877 out880.length k878 c876 3 1] [SlA p6 b5.length k7 b5, SlA (some ⟨b655, o656, none⟩) a1.length k3 a1, RowA c876 out880] w) ?_ ?_
     ·refine wp_cond_split (hs.ev rfl) (fun h882 => ?_) (fun h882 => ?_)
      ·have hsh := ite_t hsh h882
       refine wp_seq ?_
       obtain ⟨x885, h883, hsh⟩ := bind_t hsh
       obtain ⟨b892, q889, c890, h893, h886, h887, h891, h884⟩ := hw.elemRV (α := Int) 0 rfl 2 rfl h883
       have hsv894 := hs
       have hwv895 := hw
       subst h893
       have hs := hsv894
       have hw := hwv895
       obtain ⟨_, rfl, rfl⟩ := h884
       obtain ⟨rv897, h896, hsh⟩ := bind_t hsh
       obtain ⟨carry899, h898, hsh⟩ := bind_t hsh
       refine wp_only (fun a w => ∃ (Sv900 : Nat → Prop), Sl 62 [(1, .slice p6 b5.length k7), (5, .slice (some ⟨b892, 0, none⟩) sv660.1.length k749), (6, .int .i64 sv13.2), (7, .int .i64 x649), (8, .int .i64 carry899), (9, .int .i64 sv660.2.2), (16, .slice (some ⟨b655, o656, none⟩) a1.length k3), (17, .int .i64 (a1.length : Int)), (18, .int .i64 sv13.2), (25, .int .i64 (w64 ((b5.length : Int) + 1))), (26, .int .i64 sv660.2.2)] a ∧ Wd ⟨w0, S0, []⟩ Sv900 [.row (some ⟨b892, 0, none⟩) sv660.1.length k749 c747 3 1] [SlA p6 b5.length k7 b5, SlA (some ⟨b655, o656, none⟩) a1.length k3 a1, RowA c747 sv660.1] w) ?_ ?_
       ·refine h_b (C := Cls [.row (some ⟨b892, 0, none⟩) sv660.1.length k749 c747 3 1] []) (by kernel_rfl) rfl (hw.drew.cs [0] [] rfl rfl) fun hC => ?_
        have hw := hw.drew
        refine gm hs 0 rfl rfl rfl hC fun a hs => ?_
        refine gm hs 1 rfl rfl rfl hC fun a hs => ?_
        refine gm hs 2 rfl rfl rfl hC fun a hs => ?_
        refine gm hs 3 rfl rfl rfl hC fun a hs => ?_
        refine gv hs 4 rfl rfl hC (fun w hC => y_add rfl rfl) fun a hs => ?_
        refine gv hs 5 rfl rfl hC (fun w hC => y_indexAt Try.runUnderlying29 Try.sizeOf3 rfl rfl h886.1 h886.2 h887) fun a hs => ?_
        refine gv hs 6 rfl rfl hC (fun w hC => y_loadQ1 (j := 0) (hC.ownAt 0 rfl) rfl Try.isAgg3 h891 rfl) fun a hs => ?_
        refine gm hs 7 rfl rfl rfl hC fun a hs => ?_
        refine gm hs 8 rfl rfl rfl hC fun a hs => ?_
        refine gm hs 9 rfl rfl rfl hC fun a hs => ?_
        refine ho 10 rfl ?_
        refine st_callR hs (nat_digit_ok h896 hw.bdom (hw.bE 0 rfl)) (do_call Try.call97 rfl) trivial rfl rfl ?_
        intro v904 Sv901 w a h902 h903 hs
        subst h903
        have hw := hw.callB h902
        refine h_nx (hw.cs [0] [] rfl rfl) fun hC => ?_
        refine gv hs 11 rfl rfl hC (fun w hC => y_mul rfl rfl) fun a hs => ?_
        refine gv hs 12 rfl rfl hC (fun w hC => y_add rfl rfl) fun a hs => ?_
        refine gv hs 13 rfl rfl hC (fun w hC => y_add rfl rfl) fun a hs => ?_
        refine gv hs 14 rfl rfl hC (fun w hC => y_assignI rfl h898) fun a hs => ?_
        refine h_done (by kernel_rfl) ?_
        exact ⟨Sv750, (hs.wk rfl), (hw.ft [0] [0, 1, 2] (by decide) rfl rfl)⟩
       rintro a w ⟨Sv900, hs, hw⟩
       refine then_normal ?_
       refine sr ?_
       refine mv hs rfl rfl fun a hs => ?_
       refine mv hs rfl rfl fun a hs => ?_
       refine mv hs rfl rfl fun a hs => ?_
       refine sv hs (y_add rfl rfl) rfl fun a hs => ?_
       refine mv hs rfl rfl fun a hs => ?_
       refine sv hs (y_rem rfl rfl (by decide)) rfl fun a hs => ?_
       obtain ⟨x908, h906, hsh⟩ := bind_t hsh
       obtain ⟨q912, c913, h909, h910, h914, h907⟩ := hw.elemRK (α := Int) 0 rfl 2 rfl h906
       obtain ⟨_, rfl, rfl⟩ := h907
       refine sv hs (y_indexAt Try.runUnderlying29 Try.sizeOf3 rfl rfl h909.1 h909.2 h910) rfl fun a hs => ?_
       obtain ⟨l916, h915, hsh⟩ := bind_t hsh
       refine w_storeF (α := Int) hs hw 0 rfl 2 rfl h910 rfl rfl Try.sizeOf3 rfl h915 ⟨_, rfl, rfl⟩ trivial ?_
       intro c917 a w hs hw
       have h918 := setM_len h915
       try have hs := hs.fl 5 rfl h918
       try have hs := hs.fl 49 rfl h918
       refine nl ?_
       refine wp_region_lit ?_
       refine mv hs rfl rfl fun a hs => ?_
       obtain ⟨shr920, h919, hsh⟩ := bind_t hsh
       refine sv hs (y_shrM rfl rfl h919) rfl fun a hs => ?_
       refine av hs rfl rfl fun a hs => ?_
       refine nl ?_
       exact ⟨l916, shr920, c917, (some ⟨b892, 0, none⟩), k749, Sv900, hsh, (hs.wk rfl), (hw.ft [0] [1, 2, 0] (by decide) rfl rfl)⟩
      have hsh := ite_f hsh h882
      refine wp_skip ?_
      refine then_normal ?_
      exact ⟨sv660.1, sv660.2.1, c747, p748, k749, Sv750, hsh, (hs.wk rfl), (hw.ft [0] [0, 1, 2] (by decide) rfl rfl)⟩
     rintro a w ⟨out880, carry881, c876, p877, k878, Sv879, hsh, hs, hw⟩
     delta nat_multiply_j1 at hsh
     refine blk_normal ?_
     refine then_normal ?_
     refine wp_region_lit ?_
     refine sv hs (y_add rfl rfl) rfl fun a hs => ?_
     refine mv hs rfl rfl fun a hs => ?_
     refine nl ?_
     exact ⟨_, (Option.some.inj hsh).symm, c876, p877, k878, Sv879, (hs.wk rfl), (hw.ft [0] [0, 1, 2] (by decide) rfl rfl)⟩
    have hsh := ite_f hsh h801
    refine wp_exit ?_
    refine then_exit ?_
    refine then_exit ?_
    refine blk_exit ?_
    have hsh := oi hsh
    subst hsh
    have h921 := hd792 _ rfl
    subst h921
    refine then_normal ?_
    exact ⟨c747, p748, k749, Sv750, (hs.wk rfl), (hw.ft [0] [0, 1, 2] (by decide) rfl rfl)⟩
   rintro a w ⟨c796, p797, k798, Sv799, hs, hw⟩
   refine blk_normal ?_
   refine then_normal ?_
   refine wp_region_lit ?_
   refine sv hs (y_add rfl rfl) rfl fun a hs => ?_
   refine mv hs rfl rfl fun a hs => ?_
   refine nl ?_
   exact ⟨_, (Option.some.inj hsh).symm, c796, p797, k798, Sv799, (hs.wk rfl), (hw.ft [0] [0, 1, 2] (by decide) rfl rfl)⟩
  have hsh := ite_f hsh h493
  refine wp_exit ?_
  refine then_exit ?_
  refine then_exit ?_
  refine blk_exit ?_
  have hsh := oi hsh
  subst hsh
  have h923 := hd484 _ rfl
  subst h923
  refine then_normal ?_
  exact ⟨c326, p327, k328, Sv329, (hs.wk rfl), (hw.ft [0] [2] (by decide) rfl rfl)⟩
 rintro a w ⟨c488, p489, k490, Sv491, hs, hw⟩
 refine then_normal ?_
 refine sr ?_
 refine mv hs rfl rfl fun a hs => ?_
 obtain ⟨rv925, h924, hsh⟩ := bind_t hsh
 obtain ⟨Sv929, hw⟩ := w_share (α := Int) hw 0 rfl 0 rfl
 refine st_callR hs (nat_trim_ok h924 hw.dom (hw.envAt 0 rfl)) (do_call Try.call96 rfl) trivial rfl rfl ?_
 intro v933 Sv930 w a h931 h932 hs
 obtain ⟨p926, k927, rfl, h928⟩ := h932
 have hw := hw.call h931
 have hw := hw.addE (e := SlA p926 rv925.length k927 rv925) h928
 refine av hs rfl rfl fun a hs => ?_
 refine nl ?_
 have hsh := oi hsh
 subst hsh
 refine wp_ret ?_
 exact ret1 hs rfl (rv_tmp rfl) (hw.ret ⟨p926, k927, rfl, (hw.envAt 0 rfl)⟩)

abbrev nat_limited_rd (w0 : World) (X : List Nat) (r : ((List Int) × Int)) : (Nat → Prop) → World → Value → Prop := fun S w v => ∃ (p0_0 : Option Addr) (k0_0 : Nat), v = .tuple #[.slice p0_0 r.1.length k0_0, .int .i64 r.2] ∧ (SlA p0_0 r.1.length k0_0 r.1).p S w
set_option maxHeartbeats 4000000 in
set_option maxRecDepth 100000 in
theorem nat_limited_ok {w0 : World} {S0 : Nat → Prop} {p2 : Option Addr} {k3 : Nat} {n1 : (List Int)} {r : ((List Int) × Int)} (hsh : nat_limited n1 = some r) (hS : ∀ b, S0 b → b < w0.heap.size) (h4 : (SlA p2 n1.length k3 n1).p S0 w0) : Calls Try.prog 76 #[.slice p2 n1.length k3] w0 (Ret ([]) w0 S0 (nat_limited_rd w0 ([]) r)) := by
 refine calls_of_wp Try.func76 rfl ?_
 have hs := Sl.enter #[.slice p2 n1.length k3] 10 [(0, .slice p2 n1.length k3)] rfl ⟨rfl, trivial⟩
 have hw := Wd.enter (E := []) hS (fun _ h => (by cases h))
 have hw := hw.addE h4
 delta nat_limited at hsh
 refine sr ?_
 refine av hs rfl rfl fun a hs => ?_
 refine av hs rfl rfl fun a hs => ?_
 refine nl ?_
 refine wp_seq ?_
 refine sr ?_
 refine mv hs rfl rfl fun a hs => ?_
 obtain ⟨rv6, h5, hsh⟩ := bind_t hsh
 refine st_callR hs (nat_trim_ok h5 hw.dom (hw.envAt 0 rfl)) (do_call Try.call96 rfl) trivial rfl rfl ?_
 intro v13 Sv10 w a h11 h12 hs
 obtain ⟨p7, k8, rfl, h9⟩ := h12
 have hw := hw.call h11
 have hw := hw.addE (e := SlA p7 rv6.length k8 rv6) h9
 refine av hs rfl rfl fun a hs => ?_
 refine nl ?_
 refine sr ?_
 refine mv hs rfl rfl fun a hs => ?_
 refine sv hs (y_len Try.runUnderlying29 rfl) rfl fun a hs => ?_
 refine sv hs (y_gtr rfl rfl) rfl fun a hs => ?_
 refine nl ?_
 refine wp_cond_split (hs.ev rfl) (fun h16 => ?_) (fun h16 => ?_)
 ·have hsh := ite_t hsh h16
  refine sr ?_
  refine av hs rfl rfl fun a hs => ?_
  refine av hs rfl rfl fun a hs => ?_
  refine nl ?_
  have hsh := oi hsh
  subst hsh
  have hw := hw.addE (e := SlA (α := Int) none 0 0 []) nil_sl
  refine wp_ret ?_
  refine then_ret ?_
  exact ret2 hs rfl (rv_tmp rfl) (rv_tmp rfl) (hw.ret ⟨none, 0, rfl, (hw.envAt 0 rfl)⟩)
 have hsh := ite_f hsh h16
 refine wp_skip ?_
 refine then_normal ?_
 refine sr ?_
 refine mv hs rfl rfl fun a hs => ?_
 refine av hs rfl rfl fun a hs => ?_
 refine av hs rfl rfl fun a hs => ?_
 refine nl ?_
 have hsh := oi hsh
 subst hsh
 refine wp_ret ?_
 exact ret2 hs rfl (rv_tmp rfl) (rv_tmp rfl) (hw.ret ⟨p7, k8, rfl, (hw.envAt 0 rfl)⟩)

abbrev nat_Mul_rd (w0 : World) (X : List Nat) (r : ((List Int) × Int)) : (Nat → Prop) → World → Value → Prop := fun S w v => ∃ (p0_0 : Option Addr) (k0_0 : Nat), v = .tuple #[.slice p0_0 r.1.length k0_0, .int .i64 r.2] ∧ (SlA p0_0 r.1.length k0_0 r.1).p S w
set_option maxHeartbeats 4000000 in
set_option maxRecDepth 100000 in
theorem nat_Mul_ok {w0 : World} {S0 : Nat → Prop} {p2 : Option Addr} {k3 : Nat} {p6 : Option Addr} {k7 : Nat} {a1 : (List Int)} {b5 : (List Int)} {r : ((List Int) × Int)} (hsh : nat_Mul a1 b5 = some r) (hS : ∀ b, S0 b → b < w0.heap.size) (h4 : (SlA p2 a1.length k3 a1).p S0 w0) (h8 : (SlA p6 b5.length k7 b5).p S0 w0) : Calls Try.prog 93 #[.slice p2 a1.length k3, .slice p6 b5.length k7] w0 (Ret ([]) w0 S0 (nat_Mul_rd w0 ([]) r)) := by
 refine calls_of_wp Try.func93 rfl ?_
 have hs := Sl.enter #[.slice p2 a1.length k3, .slice p6 b5.length k7] 16 [(0, .slice p2 a1.length k3), (1, .slice p6 b5.length k7)] rfl ⟨rfl, rfl, trivial⟩
 have hw := Wd.enter (E := []) hS (fun _ h => (by cases h))
 have hw := hw.addE h4
 have hw := hw.addE h8
 delta nat_Mul at hsh
 refine sr ?_
 refine av hs rfl rfl fun a hs => ?_
 refine av hs rfl rfl fun a hs => ?_
 refine nl ?_
 refine wp_seq ?_
 refine sr ?_
 refine mv hs rfl rfl fun a hs => ?_
 refine mv hs rfl rfl fun a hs => ?_
 obtain ⟨rv10, h9, hsh⟩ := bind_t hsh
 refine st_callR hs (nat_both_ok h9 hw.bdom (hw.bE 1 rfl) (hw.bE 0 rfl)) (do_call Try.call100 rfl) trivial rfl rfl ?_
 intro v14 Sv11 w a h12 h13 hs
 subst h13
 have hw := hw.callB h12
 refine sv hs (y_not rfl) rfl fun a hs => ?_
 refine nl ?_
 refine wp_cond_split (hs.ev rfl) (fun h17 => ?_) (fun h17 => ?_)
 ·have hsh := ite_t hsh h17
  refine sr ?_
  refine av hs rfl rfl fun a hs => ?_
  refine av hs rfl rfl fun a hs => ?_
  refine nl ?_
  have hsh := oi hsh
  subst hsh
  have hw := hw.addE (e := SlA (α := Int) none 0 0 []) nil_sl
  refine wp_ret ?_
  refine then_ret ?_
  exact ret2 hs rfl (rv_tmp rfl) (rv_tmp rfl) (hw.ret ⟨none, 0, rfl, (hw.envAt 0 rfl)⟩)
 have hsh := ite_f hsh h17
 refine wp_skip ?_
 refine then_normal ?_
 refine sr ?_
 refine mv hs rfl rfl fun a hs => ?_
 refine mv hs rfl rfl fun a hs => ?_
 obtain ⟨rv19, h18, hsh⟩ := bind_t hsh
 refine st_callR hs (nat_multiply_ok h18 hw.dom (hw.envAt 1 rfl) (hw.envAt 0 rfl)) (do_call Try.call77 rfl) trivial rfl rfl ?_
 intro v26 Sv23 w a h24 h25 hs
 obtain ⟨p20, k21, rfl, h22⟩ := h25
 have hw := hw.call h24
 have hw := hw.addE (e := SlA p20 rv19.length k21 rv19) h22
 obtain ⟨rv29, h28, hsh⟩ := bind_t hsh
 refine st_callR hs (nat_limited_ok h28 hw.dom (hw.envAt 0 rfl)) (do_call Try.call76 rfl) trivial rfl rfl ?_
 intro v36 Sv33 w a h34 h35 hs
 obtain ⟨p30, k31, rfl, h32⟩ := h35
 have hw := hw.call h34
 have hw := hw.addE (e := SlA p30 rv29.1.length k31 rv29.1) h32
 refine sv hs (y_extract rfl rfl) rfl fun a hs => ?_
 refine sv hs (y_extract rfl rfl) rfl fun a hs => ?_
 refine av hs rfl rfl fun a hs => ?_
 refine av hs rfl rfl fun a hs => ?_
 refine nl ?_
 have hsh := oi hsh
 subst hsh
 refine wp_ret ?_
 exact ret2 hs rfl (rv_tmp rfl) (rv_tmp rfl) (hw.ret ⟨p30, k31, rfl, (hw.envAt 0 rfl)⟩)

abbrev response_square_rd (w0 : World) (X : List Nat) (r : (List Int)) : (Nat → Prop) → World → Value → Prop := fun S w v => ∃ (p0_0 : Option Addr) (k0_0 : Nat), v = .slice p0_0 r.length k0_0 ∧ (SlA p0_0 r.length k0_0 r).p S w
set_option maxHeartbeats 4000000 in
set_option maxRecDepth 100000 in
theorem response_square_ok {w0 : World} {S0 : Nat → Prop} {n1 : Int} {r : (List Int)} (hsh : response_square n1 = some r) (hS : ∀ b, S0 b → b < w0.heap.size) : Calls Try.prog 73 #[.int .i64 n1] w0 (Ret ([]) w0 S0 (response_square_rd w0 ([]) r)) := by
 refine calls_of_wp Try.func73 rfl ?_
 have hs := Sl.enter #[.int .i64 n1] 22 [(0, .int .i64 n1)] rfl ⟨rfl, trivial⟩
 have hw := Wd.enter (E := []) hS (fun _ h => (by cases h))
 delta response_square at hsh
 refine sr ?_
 refine av hs rfl rfl fun a hs => ?_
 refine nl ?_
 refine sr ?_
 refine mv hs rfl rfl fun a hs => ?_
 refine mv hs rfl rfl fun a hs => ?_
 refine sv hs (y_neg rfl) rfl fun a hs => ?_
 refine sv hs (y_max rfl rfl) rfl fun a hs => ?_
 obtain ⟨rv3, h2, hsh⟩ := bind_t hsh
 refine st_callR hs (nat_From_ok h2 hw.dom) (do_call Try.call92 rfl) trivial rfl rfl ?_
 intro v11 Sv8 w a h9 h10 hs
 obtain ⟨p4, k5, c7, rfl, h12, h6⟩ := h10
 have hw := hw.callN h9 h12
 have hw := hw.addE (e := RowA c7 rv3.1) h6
 refine mv hs rfl rfl fun a hs => ?_
 refine sv hs (y_extract rfl rfl) rfl fun a hs => ?_
 refine sv hs (y_extract rfl rfl) rfl fun a hs => ?_
 refine av hs rfl rfl fun a hs => ?_
 refine av hs rfl rfl fun a hs => ?_
 refine nl ?_
 refine sr ?_
 refine mv hs rfl rfl fun a hs => ?_
 refine mv hs rfl rfl fun a hs => ?_
 obtain ⟨rv14, h13, hsh⟩ := bind_t hsh
 obtain ⟨Sv18, hw⟩ := w_share (α := Int) hw 0 rfl 0 rfl
 refine st_callR hs (nat_Mul_ok h13 hw.dom (hw.envAt 0 rfl) (hw.envAt 0 rfl)) (do_call Try.call93 rfl) trivial rfl rfl ?_
 intro v22 Sv19 w a h20 h21 hs
 obtain ⟨p15, k16, rfl, h17⟩ := h21
 have hw := hw.call h20
 have hw := hw.addE (e := SlA p15 rv14.1.length k16 rv14.1) h17
 refine mv hs rfl rfl fun a hs => ?_
 refine sv hs (y_extract rfl rfl) rfl fun a hs => ?_
 refine sv hs (y_extract rfl rfl) rfl fun a hs => ?_
 refine av hs rfl rfl fun a hs => ?_
 refine av hs rfl rfl fun a hs => ?_
 refine nl ?_
 refine sr ?_
 refine mv hs rfl rfl fun a hs => ?_
 refine av hs rfl rfl fun a hs => ?_
 refine nl ?_
 have hsh := oi hsh
 subst hsh
 refine wp_ret ?_
 exact ret1 hs rfl (rv_tmp rfl) (hw.ret ⟨p15, k16, rfl, (hw.envAt 0 rfl)⟩)

abbrev nat_Add_rd (w0 : World) (X : List Nat) (r : ((List Int) × Int)) : (Nat → Prop) → World → Value → Prop := fun S w v => ∃ (p0_0 : Option Addr) (k0_0 : Nat), v = .tuple #[.slice p0_0 r.1.length k0_0, .int .i64 r.2] ∧ (SlA p0_0 r.1.length k0_0 r.1).p S w
set_option maxHeartbeats 4000000 in
set_option maxRecDepth 100000 in
theorem nat_Add_ok {w0 : World} {S0 : Nat → Prop} {p2 : Option Addr} {k3 : Nat} {p6 : Option Addr} {k7 : Nat} {a1 : (List Int)} {b5 : (List Int)} {r : ((List Int) × Int)} (hsh : nat_Add a1 b5 = some r) (hS : ∀ b, S0 b → b < w0.heap.size) (h4 : (SlA p2 a1.length k3 a1).p S0 w0) (h8 : (SlA p6 b5.length k7 b5).p S0 w0) : Calls Try.prog 94 #[.slice p2 a1.length k3, .slice p6 b5.length k7] w0 (Ret ([]) w0 S0 (nat_Add_rd w0 ([]) r)) := by
 refine calls_of_wp Try.func94 rfl ?_
 have hs := Sl.enter #[.slice p2 a1.length k3, .slice p6 b5.length k7] 43 [(0, .slice p2 a1.length k3), (1, .slice p6 b5.length k7)] rfl ⟨rfl, rfl, trivial⟩
 have hw := Wd.enter (E := []) hS (fun _ h => (by cases h))
 have hw := hw.addE h4
 have hw := hw.addE h8
 delta nat_Add at hsh
 refine sr ?_
 refine av hs rfl rfl fun a hs => ?_
 refine av hs rfl rfl fun a hs => ?_
 refine nl ?_
 refine wp_seq ?_
 refine sr ?_
 refine mv hs rfl rfl fun a hs => ?_
 refine mv hs rfl rfl fun a hs => ?_
 obtain ⟨rv10, h9, hsh⟩ := bind_t hsh
 refine st_callR hs (nat_both_ok h9 hw.bdom (hw.bE 1 rfl) (hw.bE 0 rfl)) (do_call Try.call100 rfl) trivial rfl rfl ?_
 intro v14 Sv11 w a h12 h13 hs
 subst h13
 have hw := hw.callB h12
 refine sv hs (y_not rfl) rfl fun a hs => ?_
 refine nl ?_
 refine wp_cond_split (hs.ev rfl) (fun h17 => ?_) (fun h17 => ?_)
 ·have hsh := ite_t hsh h17
  refine sr ?_
  refine av hs rfl rfl fun a hs => ?_
  refine av hs rfl rfl fun a hs => ?_
  refine nl ?_
  have hsh := oi hsh
  subst hsh
  have hw := hw.addE (e := SlA (α := Int) none 0 0 []) nil_sl
  refine wp_ret ?_
  refine then_ret ?_
  exact ret2 hs rfl (rv_tmp rfl) (rv_tmp rfl) (hw.ret ⟨none, 0, rfl, (hw.envAt 0 rfl)⟩)
 have hsh := ite_f hsh h17
 refine wp_skip ?_
 refine then_normal ?_
 refine sr ?_
 refine av hs rfl rfl fun a hs => ?_
 refine nl ?_
 refine sr ?_
 refine av hs rfl rfl fun a hs => ?_
 refine nl ?_
 refine wp_seq ?_
 refine sr ?_
 refine mv hs rfl rfl fun a hs => ?_
 refine sv hs (y_len Try.runUnderlying29 rfl) rfl fun a hs => ?_
 refine mv hs rfl rfl fun a hs => ?_
 refine sv hs (y_len Try.runUnderlying29 rfl) rfl fun a hs => ?_
 refine sv hs (y_max rfl rfl) rfl fun a hs => ?_
 refine sv hs (y_add rfl rfl) rfl fun a hs => ?_
 refine mv hs rfl rfl fun a hs => ?_
 refine nl ?_
 obtain ⟨e108, h177, hsh⟩ := bind_t hsh
 refine wp_join (fun a w => ∃ (c109 : List Value) (p110 : Option Addr) (k111 : Nat) (Sv112 : Nat → Prop), Sl 43 [(6, .slice p110 e108.length k111)] a ∧ Wd ⟨w0, S0, []⟩ Sv112 [.row p110 e108.length k111 c109 3 1] [RowA c109 e108] w) ?_ ?_
 ·refine wp_block ?_
  have hw := hw.nilRow Int 3
  refine wp_while (fun sv18 a w => ∃ (c75 : List Value) (p76 : Option Addr) (k77 : Nat) (Sv78 : Nat → Prop), Sl 43 [(0, .slice p2 a1.length k3), (1, .slice p6 b5.length k7), (6, .slice p76 sv18.1.length k77), (7, .int .i64 sv18.2.1), (18, .int .i64 (w64 ((max (a1.length : Int) (b5.length : Int)) + 1))), (19, .int .i64 sv18.2.2)] a ∧ Wd ⟨w0, S0, []⟩ Sv78 [.row p76 sv18.1.length k77 c75 3 1] [SlA p2 a1.length k3 a1, SlA p6 b5.length k7 b5, RowA c75 sv18.1] w) (([] : List Int), 0, 0) h177 ⟨[], none, 0, S0, (hs.wk rfl), (hw.ft [0] [2, 1, 0] (by decide) rfl rfl)⟩ ?_
  clear h177
  repeat clear hsh
  rintro sv18 a w tv106 ⟨c75, p76, k77, Sv78, hs, hw⟩ hsh hd105
  delta nat_Add_l1 at hsh
  refine sr ?_
  refine sv hs (y_lss rfl rfl) rfl fun a hs => ?_
  refine nl ?_
  refine wp_seq ?_
  refine wp_cond_split (hs.ev rfl) (fun h114 => ?_) (fun h114 => ?_)
  ·have hsh := ite_t hsh h114
   refine wp_skip ?_
   refine then_normal ?_
   refine wp_seq ?_
   refine wp_block ?_
   refine sr ?_
   refine mv hs rfl rfl fun a hs => ?_
   refine av hs rfl rfl fun a hs => ?_
   refine nl ?_
   refine sr ?_
   refine mv hs rfl rfl fun a hs => ?_
   refine mv hs rfl rfl fun a hs => ?_
   refine mv hs rfl rfl fun a hs => ?_
   obtain ⟨rv141, h140, hsh⟩ := bind_t hsh
   refine st_callR hs (nat_digit_ok h140 hw.bdom (hw.bE 0 rfl)) (do_call Try.call97 rfl) trivial rfl rfl ?_
   intro v145 Sv142 w a h143 h144 hs
   subst h144
   have hw := hw.callB h143
   refine mv hs rfl rfl fun a hs => ?_
   refine mv hs rfl rfl fun a hs => ?_
   obtain ⟨rv148, h147, hsh⟩ := bind_t hsh
   refine st_callR hs (nat_digit_ok h147 hw.bdom (hw.bE 1 rfl)) (do_call Try.call97 rfl) trivial rfl rfl ?_
   intro v152 Sv149 w a h150 h151 hs
   subst h151
   have hw := hw.callB h150
   refine sv hs (y_add rfl rfl) rfl fun a hs => ?_
   refine sv hs (y_add rfl rfl) rfl fun a hs => ?_
   obtain ⟨carry155, h154, hsh⟩ := bind_t hsh
   refine sv hs (y_assignI rfl h154) rfl fun a hs => ?_
   refine nl ?_
   refine sr ?_
   refine mv hs rfl rfl fun a hs => ?_
   refine mv hs rfl rfl fun a hs => ?_
   refine sv hs (y_rem rfl rfl (by decide)) rfl fun a hs => ?_
   refine w_litSlice (α := Int) (vs := [.int .i64 (Int.tmod carry155 1073741824)]) (cs := [.int .i64 (Int.tmod carry155 1073741824)]) (xs := ([(Int.tmod carry155 1073741824)] : List Int)) hs hw El29 rfl rfl rfl rfl rfl rfl ⟨⟨_, rfl, rfl⟩, rfl⟩ rfl trivial rfl fun b157 a w hs hw => ?_
   obtain ⟨l159, h158, hsh⟩ := bind_t hsh
   refine w_appendR (α := Int) hs hw El29 1 rfl rfl rfl 3 rfl 0 rfl 0 rfl h158 rfl trivial ?_
   intro p160 k161 c162 a w hs hw
   refine av hs rfl rfl fun a hs => ?_
   refine nl ?_
   refine wp_region_lit ?_
   refine mv hs rfl rfl fun a hs => ?_
   obtain ⟨shr164, h163, hsh⟩ := bind_t hsh
   refine sv hs (y_shrM rfl rfl h163) rfl fun a hs => ?_
   refine av hs rfl rfl fun a hs => ?_
   refine wpList_nil ?_
   refine blk_normal ?_
   refine then_normal ?_
   refine wp_region_lit ?_
   refine sv hs (y_add rfl rfl) rfl fun a hs => ?_
   refine mv hs rfl rfl fun a hs => ?_
   refine nl ?_
   exact ⟨_, (Option.some.inj hsh).symm, c162, p160, k161, Sv78, (hs.wk rfl), (hw.ft [1] [2, 3, 0] (by decide) rfl rfl)⟩
  have hsh := ite_f hsh h114
  refine wp_exit ?_
  refine then_exit ?_
  refine then_exit ?_
  refine blk_exit ?_
  have hsh := oi hsh
  subst hsh
  have h165 := hd105 _ rfl
  subst h165
  refine then_normal ?_
  exact ⟨c75, p76, k77, Sv78, (hs.wk rfl), (hw.ft [0] [2] (by decide) rfl rfl)⟩
 rintro a w ⟨c109, p110, k111, Sv112, hs, hw⟩
 refine then_normal ?_
 refine sr ?_
 refine mv hs rfl rfl fun a hs => ?_
 obtain ⟨rv167, h166, hsh⟩ := bind_t hsh
 obtain ⟨Sv171, hw⟩ := w_share (α := Int) hw 0 rfl 0 rfl
 refine st_callR hs (nat_limited_ok h166 hw.dom (hw.envAt 0 rfl)) (do_call Try.call76 rfl) trivial rfl rfl ?_
 intro v175 Sv172 w a h173 h174 hs
 obtain ⟨p168, k169, rfl, h170⟩ := h174
 have hw := hw.call h173
 have hw := hw.addE (e := SlA p168 rv167.1.length k169 rv167.1) h170
 refine sv hs (y_extract rfl rfl) rfl fun a hs => ?_
 refine sv hs (y_extract rfl rfl) rfl fun a hs => ?_
 refine av hs rfl rfl fun a hs => ?_
 refine av hs rfl rfl fun a hs => ?_
 refine nl ?_
 have hsh := oi hsh
 subst hsh
 refine wp_ret ?_
 exact ret2 hs rfl (rv_tmp rfl) (rv_tmp rfl) (hw.ret ⟨p168, k169, rfl, (hw.envAt 0 rfl)⟩)

abbrev response_squared_rd (w0 : World) (X : List Nat) (r : (List Int)) : (Nat → Prop) → World → Value → Prop := fun S w v => ∃ (p0_0 : Option Addr) (k0_0 : Nat), v = .slice p0_0 r.length k0_0 ∧ (SlA p0_0 r.length k0_0 r).p S w
set_option maxHeartbeats 4000000 in
set_option maxRecDepth 100000 in
theorem response_squared_ok {w0 : World} {S0 : Nat → Prop} {a1 : (Arr3 Int)} {num2 : Int} {den3 : Int} {r : (List Int)} (hsh : response_squared a1 num2 den3 = some r) (hS : ∀ b, S0 b → b < w0.heap.size) : Calls Try.prog 74 #[.agg #[.int .i64 a1.e0, .int .i64 a1.e1, .int .i64 a1.e2], .int .i64 num2, .int .i64 den3] w0 (Ret ([]) w0 S0 (response_squared_rd w0 ([]) r)) := by
 refine calls_of_wp Try.func74 rfl ?_
 have hs := Sl.enter #[.agg #[.int .i64 a1.e0, .int .i64 a1.e1, .int .i64 a1.e2], .int .i64 num2, .int .i64 den3] 35 [(0, .agg #[.int .i64 a1.e0, .int .i64 a1.e1, .int .i64 a1.e2]), (1, .int .i64 num2), (2, .int .i64 den3)] rfl ⟨rfl, rfl, rfl, trivial⟩
 have hw := Wd.enter (E := []) hS (fun _ h => (by cases h))
 delta response_squared at hsh
 refine sr ?_
 refine w_box (cs := [.int .i64 a1.e0, .int .i64 a1.e1, .int .i64 a1.e2]) hs hw rfl rfl rfl trivial ?_
 intro b4 a w hs hw
 refine av hs rfl rfl fun a hs => ?_
 refine nl ?_
 refine wp_seq ?_
 obtain ⟨rv6, h5, hsh⟩ := bind_t hsh
 obtain ⟨rv11, h10, hsh⟩ := bind_t hsh
 obtain ⟨rv16, h15, hsh⟩ := bind_t hsh
 refine wp_only (fun a w => ∃ (Sv20 : Nat → Prop) (k18 : Nat) (p17 : Option Addr), Sl 35 [(7, .slice p17 rv16.1.length k18)] a ∧ Wd ⟨w0, S0, []⟩ Sv20 [] [SlA p17 rv16.1.length k18 rv16.1] w) ?_ ?_
 ·refine h_b (C := Cls [.box b4 [.int .i64 a1.e0, .int .i64 a1.e1, .int .i64 a1.e2] 23] []) (by kernel_rfl) rfl (hw.drew.cs [0] [] rfl rfl) fun hC => ?_
  have hw := hw.drew
  refine gv hs 0 rfl rfl hC (fun w hC => y_indexAtA (q := 0) Try.runUnderlying23 Try.sizeOf3 rfl rfl (by decide) (by decide) rfl) fun a hs => ?_
  refine gv hs 1 rfl rfl hC (fun w hC => y_loadB1 (hC.ownAt 0 rfl) rfl Try.isAgg3 rfl) fun a hs => ?_
  refine gm hs 2 rfl rfl rfl hC fun a hs => ?_
  refine gv hs 3 rfl rfl hC (fun w hC => y_mul rfl rfl) fun a hs => ?_
  refine gm hs 4 rfl rfl rfl hC fun a hs => ?_
  refine gv hs 5 rfl rfl hC (fun w hC => y_mul rfl rfl) fun a hs => ?_
  refine gv hs 6 rfl rfl hC (fun w hC => y_indexAtA (q := 2) Try.runUnderlying23 Try.sizeOf3 rfl rfl (by decide) (by decide) rfl) fun a hs => ?_
  refine gv hs 7 rfl rfl hC (fun w hC => y_loadB1 (hC.ownAt 0 rfl) rfl Try.isAgg3 rfl) fun a hs => ?_
  refine gm hs 8 rfl rfl rfl hC fun a hs => ?_
  refine gv hs 9 rfl rfl hC (fun w hC => y_mul rfl rfl) fun a hs => ?_
  refine gm hs 10 rfl rfl rfl hC fun a hs => ?_
  refine gv hs 11 rfl rfl hC (fun w hC => y_mul rfl rfl) fun a hs => ?_
  refine gv hs 12 rfl rfl hC (fun w hC => y_sub rfl rfl) fun a hs => ?_
  refine gv hs 14 rfl rfl hC (fun w hC => y_indexAtA (q := 1) Try.runUnderlying23 Try.sizeOf3 rfl rfl (by decide) (by decide) rfl) fun a hs => ?_
  refine gv hs 15 rfl rfl hC (fun w hC => y_loadB1 (hC.ownAt 0 rfl) rfl Try.isAgg3 rfl) fun a hs => ?_
  refine gm hs 16 rfl rfl rfl hC fun a hs => ?_
  refine gv hs 17 rfl rfl hC (fun w hC => y_mul rfl rfl) fun a hs => ?_
  refine gm hs 18 rfl rfl rfl hC fun a hs => ?_
  refine gv hs 19 rfl rfl hC (fun w hC => y_mul rfl rfl) fun a hs => ?_
  refine ho 13 rfl ?_
  refine st_callR hs (response_square_ok h5 hw.dom) (do_call Try.call73 rfl) trivial rfl rfl ?_
  intro v24 Sv21 w a h22 h23 hs
  obtain ⟨p7, k8, rfl, h9⟩ := h23
  have hw := hw.call h22
  have hw := hw.addE (e := SlA p7 rv6.length k8 rv6) h9
  refine h_nx (hw.cs [0] [] rfl rfl) fun hC => ?_
  refine ho 20 rfl ?_
  refine st_callR hs (response_square_ok h10 hw.dom) (do_call Try.call73 rfl) trivial rfl rfl ?_
  intro v29 Sv26 w a h27 h28 hs
  obtain ⟨p12, k13, rfl, h14⟩ := h28
  have hw := hw.call h27
  have hw := hw.addE (e := SlA p12 rv11.length k13 rv11) h14
  refine h_nx (hw.cs [0] [] rfl rfl) fun hC => ?_
  refine ho 21 rfl ?_
  refine st_callR hs (nat_Add_ok h15 hw.dom (hw.envAt 1 rfl) (hw.envAt 0 rfl)) (do_call Try.call94 rfl) trivial rfl rfl ?_
  intro v34 Sv31 w a h32 h33 hs
  obtain ⟨p17, k18, rfl, h19⟩ := h33
  have hw := hw.call h32
  have hw := hw.addE (e := SlA p17 rv16.1.length k18 rv16.1) h19
  refine h_nx (hw.cs [0] [] rfl rfl) fun hC => ?_
  refine gm hs 22 rfl rfl rfl hC fun a hs => ?_
  refine gv hs 23 rfl rfl hC (fun w hC => y_extract rfl rfl) fun a hs => ?_
  refine gv hs 24 rfl rfl hC (fun w hC => y_extract rfl rfl) fun a hs => ?_
  refine gv hs 25 rfl rfl hC (fun w hC => y_assign rfl) fun a hs => ?_
  refine gv hs 26 rfl rfl hC (fun w hC => y_assign rfl) fun a hs => ?_
  refine h_done (by kernel_rfl) ?_
  exact ⟨Sv31, k18, p17, (hs.wk rfl), (hw.ft [] [0] (by decide) rfl rfl)⟩
 rintro a w ⟨Sv20, k18, p17, hs, hw⟩
 refine then_normal ?_
 refine sr ?_
 refine mv hs rfl rfl fun a hs => ?_
 refine av hs rfl rfl fun a hs => ?_
 refine nl ?_
 have hsh := oi hsh
 subst hsh
 refine wp_ret ?_
 exact ret1 hs rfl (rv_tmp rfl) (hw.ret ⟨p17, k18, rfl, (hw.envAt 0 rfl)⟩)

abbrev response_gain_rd (w0 : World) (X : List Nat) (r : (Fraction × Bool)) : (Nat → Prop) → World → Value → Prop := fun S w v => ∃ (p0_0 : Option Addr) (k0_0 : Nat) (p0_1 : Option Addr) (k0_1 : Nat), v = .tuple #[.agg #[.slice p0_0 r.1.Num.length k0_0, .slice p0_1 r.1.Den.length k0_1], .bool r.2] ∧ (SlA p0_0 r.1.Num.length k0_0 r.1.Num).p S w ∧ (SlA p0_1 r.1.Den.length k0_1 r.1.Den).p S w
set_option maxHeartbeats 4000000 in
set_option maxRecDepth 100000 in
theorem response_gain_ok {w0 : World} {S0 : Nat → Prop} {p2 : Option Addr} {k3 : Nat} {s1 : Stage} {num5 : Int} {den6 : Int} {r : (Fraction × Bool)} (hsh : response_gain s1 num5 den6 = some r) (hS : ∀ b, S0 b → b < w0.heap.size) (h4 : (SlA p2 s1.Taps.length k3 s1.Taps).p S0 w0) : Calls Try.prog 42 #[.agg #[.int .i64 s1.Kind, .int .i64 s1.Num.e0, .int .i64 s1.Num.e1, .int .i64 s1.Num.e2, .int .i64 s1.Den.e0, .int .i64 s1.Den.e1, .int .i64 s1.Den.e2, .slice p2 s1.Taps.length k3, .int .i64 s1.Factor, .int .i64 s1.Shift], .int .i64 num5, .int .i64 den6] w0 (Ret ([]) w0 S0 (response_gain_rd w0 ([]) r)) := by
 refine calls_of_wp Try.func42 rfl ?_
 have hs := Sl.enter #[.agg #[.int .i64 s1.Kind, .int .i64 s1.Num.e0, .int .i64 s1.Num.e1, .int .i64 s1.Num.e2, .int .i64 s1.Den.e0, .int .i64 s1.Den.e1, .int .i64 s1.Den.e2, .slice p2 s1.Taps.length k3, .int .i64 s1.Factor, .int .i64 s1.Shift], .int .i64 num5, .int .i64 den6] 49 [(0, .agg #[.int .i64 s1.Kind, .int .i64 s1.Num.e0, .int .i64 s1.Num.e1, .int .i64 s1.Num.e2, .int .i64 s1.Den.e0, .int .i64 s1.Den.e1, .int .i64 s1.Den.e2, .slice p2 s1.Taps.length k3, .int .i64 s1.Factor, .int .i64 s1.Shift]), (1, .int .i64 num5), (2, .int .i64 den6)] rfl ⟨rfl, rfl, rfl, trivial⟩
 have hw := Wd.enter (E := []) hS (fun _ h => (by cases h))
 have hw := hw.addE h4
 delta response_gain at hsh
 refine sr ?_
 refine w_box (cs := [.int .i64 s1.Kind, .int .i64 s1.Num.e0, .int .i64 s1.Num.e1, .int .i64 s1.Num.e2, .int .i64 s1.Den.e0, .int .i64 s1.Den.e1, .int .i64 s1.Den.e2, .slice p2 s1.Taps.length k3, .int .i64 s1.Factor, .int .i64 s1.Shift]) hs hw rfl rfl rfl trivial ?_
 intro b7 a w hs hw
 refine w_alloc (cs := [.slice none ([] : List Int).length 0, .slice none ([] : List Int).length 0]) hs hw Try.zeroValue31 rfl rfl trivial ?_
 intro b8 a w hs hw
 refine av hs rfl rfl fun a hs => ?_
 refine nl ?_
 refine wp_seq ?_
 refine sr ?_
 refine sv hs (y_fieldAddr (o' := 0) Try.runUnderlying26 rfl Try.sizeOf3 rfl rfl rfl) rfl fun a hs => ?_
 refine sv hs (y_loadB1 (hw.ownAt 1 rfl) rfl Try.isAgg3 rfl) rfl fun a hs => ?_
 refine nl ?_
 refine wp_block ?_
 refine sr ?_
 refine sv hs (y_eql rfl rfl) rfl fun a hs => ?_
 refine av hs rfl rfl fun a hs => ?_
 refine nl ?_
 refine wp_cond_split (hs.ev rfl) (fun h61 => ?_) (fun h61 => ?_)
 ·have hsh := ite_t hsh h61
  refine wp_seq ?_
  obtain ⟨rv63, h62, hsh⟩ := bind_t hsh
  obtain ⟨rv68, h67, hsh⟩ := bind_t hsh
  refine wp_only (fun a w => ∃ (Sv72 : Nat → Prop) (k65 : Nat) (k70 : Nat) (p64 : Option Addr) (p69 : Option Addr), Sl 49 [(6, .pointer (some ⟨b8, 0, none⟩)), (7, .bool true)] a ∧ Wd ⟨w0, S0, []⟩ Sv72 [.box b8 [.slice p64 rv63.length k65, .slice p69 rv68.length k70] 31] [SlA p64 rv63.length k65 rv63, SlA p69 rv68.length k70 rv68] w) ?_ ?_
  ·refine h_b (C := Cls [.box b7 [.int .i64 s1.Kind, .int .i64 s1.Num.e0, .int .i64 s1.Num.e1, .int .i64 s1.Num.e2, .int .i64 s1.Den.e0, .int .i64 s1.Den.e1, .int .i64 s1.Den.e2, .slice p2 s1.Taps.length k3, .int .i64 s1.Factor, .int .i64 s1.Shift] 26] []) (by kernel_rfl) rfl (hw.drew.cs [1] [] rfl rfl) fun hC => ?_
   have hw := hw.drew
   refine gv hs 0 rfl rfl hC (fun w hC => y_fieldAddr (o' := 1) Try.runUnderlying26 rfl Try.sizeOf23 rfl rfl rfl) fun a hs => ?_
   refine gv hs 1 rfl rfl hC (fun w hC => y_indexAtA (q := 1) Try.runUnderlying23 Try.sizeOf3 rfl rfl (by decide) (by decide) rfl) fun a hs => ?_
   refine gv hs 2 rfl rfl hC (fun w hC => y_loadB1 (hC.ownAt 0 rfl) rfl Try.isAgg3 rfl) fun a hs => ?_
   refine gv hs 4 rfl rfl hC (fun w hC => y_fieldAddr (o' := 4) Try.runUnderlying26 rfl Try.sizeOf23 rfl rfl rfl) fun a hs => ?_
   refine gv hs 5 rfl rfl hC (fun w hC => y_indexAtA (q := 4) Try.runUnderlying23 Try.sizeOf3 rfl rfl (by decide) (by decide) rfl) fun a hs => ?_
   refine gv hs 6 rfl rfl hC (fun w hC => y_loadB1 (hC.ownAt 0 rfl) rfl Try.isAgg3 rfl) fun a hs => ?_
   refine ho 3 rfl ?_
   refine st_callR hs (response_square_ok h62 hw.dom) (do_call Try.call73 rfl) trivial rfl rfl ?_
   intro v76 Sv73 w a h74 h75 hs
   obtain ⟨p64, k65, rfl, h66⟩ := h75
   have hw := hw.call h74
   have hw := hw.addE (e := SlA p64 rv63.length k65 rv63) h66
   refine h_nx (hw.cs [1] [] rfl rfl) fun hC => ?_
   refine ho 7 rfl ?_
   refine st_callR hs (response_square_ok h67 hw.dom) (do_call Try.call73 rfl) trivial rfl rfl ?_
   intro v81 Sv78 w a h79 h80 hs
   obtain ⟨p69, k70, rfl, h71⟩ := h80
   have hw := hw.call h79
   have hw := hw.addE (e := SlA p69 rv68.length k70 rv68) h71
   refine h_nx (hw.cs [1] [] rfl rfl) fun hC => ?_
   refine gv hs 8 rfl rfl hC (fun w hC => y_build (vs := [(0, .slice p64 rv63.length k65), (1, .slice p69 rv68.length k70)]) Bld31 rfl rfl) fun a hs => ?_
   refine ho 9 rfl ?_
   refine w_store (m := 2) (cs' := [.slice p64 rv63.length k65, .slice p69 rv68.length k70]) hs hw 0 rfl rfl rfl Try.sizeOf31 rfl rfl rfl rfl trivial ?_
   intro a w hs hw
   refine h_nx (hw.cs [1] [] rfl rfl) fun hC => ?_
   refine gv hs 10 rfl rfl hC (fun w hC => y_assign rfl) fun a hs => ?_
   refine h_done (by kernel_rfl) ?_
   exact ⟨Sv78, k65, k70, p64, p69, (hs.wk rfl), (hw.ft [0] [1, 0] (by decide) rfl rfl)⟩
  rintro a w ⟨Sv72, k65, k70, p64, p69, hs, hw⟩
  refine then_normal ?_
  have hsh := oi hsh
  subst hsh
  refine wp_ret ?_
  refine blk_ret ?_
  refine then_ret ?_
  exact ret2 hs rfl (rv_cell hw 0 rfl rfl Try.isAgg31 Try.sizeOf31 rfl) (rv_tmp rfl) (hw.ret ⟨p64, k65, p69, k70, rfl, (hw.envAt 0 rfl), (hw.envAt 1 rfl)⟩)
 have hsh := ite_f hsh h61
 refine sr ?_
 refine sv hs (y_eql rfl rfl) rfl fun a hs => ?_
 refine av hs rfl rfl fun a hs => ?_
 refine nl ?_
 refine wp_cond_split (hs.ev rfl) (fun h97 => ?_) (fun h97 => ?_)
 ·have hsh := ite_t hsh h97
  refine wp_seq ?_
  obtain ⟨rv99, h98, hsh⟩ := bind_t hsh
  obtain ⟨rv104, h103, hsh⟩ := bind_t hsh
  refine wp_only (fun a w => ∃ (Sv109 : Nat → Prop) (b108 : Nat) (k101 : Nat) (k106 : Nat) (p100 : Option Addr) (p105 : Option Addr), Sl 49 [(6, .pointer (some ⟨b8, 0, none⟩)), (8, .pointer (some ⟨b108, 0, none⟩))] a ∧ Wd ⟨w0, S0, []⟩ Sv109 [.box b8 [.slice none ([] : List Int).length 0, .slice none ([] : List Int).length 0] 31, .box b108 [.slice p100 rv99.length k101, .slice p105 rv104.length k106] 31] [SlA none ([] : List Int).length 0 ([] : List Int), SlA p100 rv99.length k101 rv99, SlA p105 rv104.length k106 rv104] w) ?_ ?_
  ·refine h_b (C := Cls [.box b8 [.slice none ([] : List Int).length 0, .slice none ([] : List Int).length 0] 31, .box b7 [.int .i64 s1.Kind, .int .i64 s1.Num.e0, .int .i64 s1.Num.e1, .int .i64 s1.Num.e2, .int .i64 s1.Den.e0, .int .i64 s1.Den.e1, .int .i64 s1.Den.e2, .slice p2 s1.Taps.length k3, .int .i64 s1.Factor, .int .i64 s1.Shift] 26] []) (by kernel_rfl) rfl (hw.drew.cs [0, 1] [] rfl rfl) fun hC => ?_
   have hw := hw.drew
   refine gv hs 0 rfl rfl hC (fun w hC => y_fieldAddr (o' := 1) Try.runUnderlying26 rfl Try.sizeOf23 rfl rfl rfl) fun a hs => ?_
   refine gv hs 1 rfl rfl hC (fun w hC => y_loadBA (hC.ownAt 1 rfl) rfl Try.isAgg23 Try.sizeOf23 rfl rfl) fun a hs => ?_
   refine gm hs 2 rfl rfl rfl hC fun a hs => ?_
   refine gm hs 3 rfl rfl rfl hC fun a hs => ?_
   refine gv hs 5 rfl rfl hC (fun w hC => y_fieldAddr (o' := 4) Try.runUnderlying26 rfl Try.sizeOf23 rfl rfl rfl) fun a hs => ?_
   refine gv hs 6 rfl rfl hC (fun w hC => y_loadBA (hC.ownAt 1 rfl) rfl Try.isAgg23 Try.sizeOf23 rfl rfl) fun a hs => ?_
   refine gm hs 7 rfl rfl rfl hC fun a hs => ?_
   refine gm hs 8 rfl rfl rfl hC fun a hs => ?_
   refine h_all (rs := [4, 11]) (by kernel_rfl) rfl ?_
   refine AllH.cons rfl ?_ ?_
   ·refine st_callR hs (response_squared_ok h98 hw.dom) (do_call Try.call74 rfl) trivial rfl rfl ?_
    intro v113 Sv110 w a h111 h112 hs
    obtain ⟨p100, k101, rfl, h102⟩ := h112
    have hw := hw.call h111
    have hw := hw.addE (e := SlA p100 rv99.length k101 rv99) h102
    refine h_nx (hw.cs [0, 1] [] rfl rfl) fun hC => ?_
    refine h_all (rs := [9, 11]) (by kernel_rfl) rfl ?_
    refine AllH.cons rfl ?_ ?_
    ·refine st_callR hs (response_squared_ok h103 hw.dom) (do_call Try.call74 rfl) trivial rfl rfl ?_
     intro v118 Sv115 w a h116 h117 hs
     obtain ⟨p105, k106, rfl, h107⟩ := h117
     have hw := hw.call h116
     have hw := hw.addE (e := SlA p105 rv104.length k106 rv104) h107
     refine h_nx (hw.cs [0, 1] [] rfl rfl) fun hC => ?_
     refine gv hs 10 rfl rfl hC (fun w hC => y_build (vs := [(0, .slice p100 rv99.length k101), (1, .slice p105 rv104.length k106)]) Bld31 rfl rfl) fun a hs => ?_
     refine ho 11 rfl ?_
     refine w_alloc (cs := [.slice none ([] : List Int).length 0, .slice none ([] : List Int).length 0]) hs hw Try.zeroValue31 rfl rfl trivial ?_
     intro b108 a w hs hw
     refine h_nx (hw.cs [1, 2] [] rfl rfl) fun hC => ?_
     refine ho 12 rfl ?_
     refine w_store (m := 2) (cs' := [.slice p100 rv99.length k101, .slice p105 rv104.length k106]) hs hw 0 rfl rfl rfl Try.sizeOf31 rfl rfl rfl rfl trivial ?_
     intro a w hs hw
     refine h_nx (hw.cs [1, 2] [] rfl rfl) fun hC => ?_
     refine h_done (by kernel_rfl) ?_
     have hw := hw.addE (e := SlA (α := Int) none 0 0 []) nil_sl
     exact ⟨Sv115, b108, k101, k106, p100, p105, (hs.wk rfl), (hw.ft [1, 0] [0, 2, 1] (by decide) rfl rfl)⟩
    refine AllH.cons rfl ?_ ?_
    ·refine w_alloc (cs := [.slice none ([] : List Int).length 0, .slice none ([] : List Int).length 0]) hs hw Try.zeroValue31 rfl rfl trivial ?_
     intro b108 a w hs hw
     refine h_nx (hw.cs [1, 2] [] rfl rfl) fun hC => ?_
     refine ho 9 rfl ?_
     refine st_callR hs (response_squared_ok h103 hw.dom) (do_call Try.call74 rfl) trivial rfl rfl ?_
     intro v123 Sv120 w a h121 h122 hs
     obtain ⟨p105, k106, rfl, h107⟩ := h122
     have hw := hw.call h121
     have hw := hw.addE (e := SlA p105 rv104.length k106 rv104) h107
     refine h_nx (hw.cs [1, 2] [] rfl rfl) fun hC => ?_
     refine gv hs 10 rfl rfl hC (fun w hC => y_build (vs := [(0, .slice p100 rv99.length k101), (1, .slice p105 rv104.length k106)]) Bld31 rfl rfl) fun a hs => ?_
     refine ho 12 rfl ?_
     refine w_store (m := 2) (cs' := [.slice p100 rv99.length k101, .slice p105 rv104.length k106]) hs hw 0 rfl rfl rfl Try.sizeOf31 rfl rfl rfl rfl trivial ?_
     intro a w hs hw
     refine h_nx (hw.cs [1, 2] [] rfl rfl) fun hC => ?_
     refine h_done (by kernel_rfl) ?_
     have hw := hw.addE (e := SlA (α := Int) none 0 0 []) nil_sl
     exact ⟨Sv120, b108, k101, k106, p100, p105, (hs.wk rfl), (hw.ft [1, 0] [0, 2, 1] (by decide) rfl rfl)⟩
    exact AllH.nil
   refine AllH.cons rfl ?_ ?_
   ·refine w_alloc (cs := [.slice none ([] : List Int).length 0, .slice none ([] : List Int).length 0]) hs hw Try.zeroValue31 rfl rfl trivial ?_
    intro b108 a w hs hw
    refine h_nx (hw.cs [1, 2] [] rfl rfl) fun hC => ?_
    refine ho 4 rfl ?_
    refine st_callR hs (response_squared_ok h98 hw.dom) (do_call Try.call74 rfl) trivial rfl rfl ?_
    intro v128 Sv125 w a h126 h127 hs
    obtain ⟨p100, k101, rfl, h102⟩ := h127
    have hw := hw.call h126
    have hw := hw.addE (e := SlA p100 rv99.length k101 rv99) h102
    refine h_nx (hw.cs [1, 2] [] rfl rfl) fun hC => ?_
    refine ho 9 rfl ?_
    refine st_callR hs (response_squared_ok h103 hw.dom) (do_call Try.call74 rfl) trivial rfl rfl ?_
    intro v133 Sv130 w a h131 h132 hs
    obtain ⟨p105, k106, rfl, h107⟩ := h132
    have hw := hw.call h131
    have hw := hw.addE (e := SlA p105 rv104.length k106 rv104) h107
    refine h_nx (hw.cs [1, 2] [] rfl rfl) fun hC => ?_
    refine gv hs 10 rfl rfl hC (fun w hC => y_build (vs := [(0, .slice p100 rv99.length k101), (1, .slice p105 rv104.length k106)]) Bld31 rfl rfl) fun a hs => ?_
    refine ho 12 rfl ?_
    refine w_store (m := 2) (cs' := [.slice p100 rv99.length k101, .slice p105 rv104.length k106]) hs hw 0 rfl rfl rfl Try.sizeOf31 rfl rfl rfl rfl trivial ?_
    intro a w hs hw
    refine h_nx (hw.cs [1, 2] [] rfl rfl) fun hC => ?_
    refine h_done (by kernel_rfl) ?_
    have hw := hw.addE (e := SlA (α := Int) none 0 0 []) nil_sl
    exact ⟨Sv130, b108, k101, k106, p100, p105, (hs.wk rfl), (hw.ft [1, 0] [0, 2, 1] (by decide) rfl rfl)⟩
   exact AllH.nil
  rintro a w ⟨Sv109, b108, k101, k106, p100, p105, hs, hw⟩
  refine then_normal ?_
  refine wp_seq ?_
  refine wp_only (fun a w => ∃ (Sv135 : Nat → Prop), Sl 49 [(6, .pointer (some ⟨b8, 0, none⟩)), (7, .bool (decide (0 < (rv104.length : Int))))] a ∧ Wd ⟨w0, S0, []⟩ Sv135 [.box b8 [.slice p100 rv99.length k101, .slice p105 rv104.length k106] 31] [SlA p100 rv99.length k101 rv99, SlA p105 rv104.length k106 rv104] w) ?_ ?_
  ·refine h_b (C := Cls [.box b108 [.slice p100 rv99.length k101, .slice p105 rv104.length k106] 31] []) (by kernel_rfl) rfl (hw.drew.cs [1] [] rfl rfl) fun hC => ?_
   have hw := hw.drew
   refine gv hs 0 rfl rfl hC (fun w hC => y_loadBA (hC.ownAt 0 rfl) rfl Try.isAgg31 Try.sizeOf31 rfl rfl) fun a hs => ?_
   refine gv hs 1 rfl rfl hC (fun w hC => y_fieldAddr (o' := 1) Try.runUnderlying31 rfl Try.sizeOf29 rfl rfl rfl) fun a hs => ?_
   refine gv hs 2 rfl rfl hC (fun w hC => y_loadB1 (hC.ownAt 0 rfl) rfl Try.isAgg29 rfl) fun a hs => ?_
   refine gv hs 3 rfl rfl hC (fun w hC => y_len Try.runUnderlying29 rfl) fun a hs => ?_
   refine gv hs 4 rfl rfl hC (fun w hC => y_gtr rfl rfl) fun a hs => ?_
   refine ho 5 rfl ?_
   refine w_store (m := 2) (cs' := [.slice p100 rv99.length k101, .slice p105 rv104.length k106]) hs hw 0 rfl rfl rfl Try.sizeOf31 rfl rfl rfl rfl trivial ?_
   intro a w hs hw
   refine h_nx (hw.cs [1] [] rfl rfl) fun hC => ?_
   refine gv hs 6 rfl rfl hC (fun w hC => y_assign rfl) fun a hs => ?_
   refine h_done (by kernel_rfl) ?_
   exact ⟨Sv109, (hs.wk rfl), (hw.ft [0] [1, 2] (by decide) rfl rfl)⟩
  rintro a w ⟨Sv135, hs, hw⟩
  refine then_normal ?_
  have hsh := oi hsh
  subst hsh
  refine wp_ret ?_
  refine blk_ret ?_
  refine then_ret ?_
  exact ret2 hs rfl (rv_cell hw 0 rfl rfl Try.isAgg31 Try.sizeOf31 rfl) (rv_tmp rfl) (hw.ret ⟨p100, k101, p105, k106, rfl, (hw.envAt 0 rfl), (hw.envAt 1 rfl)⟩)
 have hsh := ite_f hsh h97
 refine wp_skip ?_
 refine blk_normal ?_
 refine then_normal ?_
 refine wp_seq ?_
 obtain ⟨rv137, h136, hsh⟩ := bind_t hsh
 obtain ⟨rv139, h138, hsh⟩ := bind_t hsh
 obtain ⟨shl144, h143, hsh⟩ := bind_t hsh
 obtain ⟨rv146, h145, hsh⟩ := bind_t hsh
 refine wp_only (fun a w => ∃ (Sv150 : Nat → Prop) (k141 : Nat) (k148 : Nat) (p140 : Option Addr) (p147 : Option Addr), Sl 49 [(6, .pointer (some ⟨b8, 0, none⟩)), (7, .bool true)] a ∧ Wd ⟨w0, S0, []⟩ Sv150 [.box b8 [.slice p140 rv139.length k141, .slice p147 rv146.length k148] 31] [SlA p140 rv139.length k141 rv139, SlA p147 rv146.length k148 rv146] w) ?_ ?_
 ·refine h_b (C := Cls [.box b7 [.int .i64 s1.Kind, .int .i64 s1.Num.e0, .int .i64 s1.Num.e1, .int .i64 s1.Num.e2, .int .i64 s1.Den.e0, .int .i64 s1.Den.e1, .int .i64 s1.Den.e2, .slice p2 s1.Taps.length k3, .int .i64 s1.Factor, .int .i64 s1.Shift] 26] []) (by kernel_rfl) rfl (hw.drew.cs [1] [] rfl rfl) fun hC => ?_
  have hw := hw.drew
  refine gv hs 0 rfl rfl hC (fun w hC => y_fieldAddr (o' := 7) Try.runUnderlying26 rfl Try.sizeOf24 rfl rfl rfl) fun a hs => ?_
  refine gv hs 1 rfl rfl hC (fun w hC => y_loadB1 (hC.ownAt 0 rfl) rfl Try.isAgg24 rfl) fun a hs => ?_
  refine gv hs 4 rfl rfl hC (fun w hC => y_fieldAddr (o' := 9) Try.runUnderlying26 rfl Try.sizeOf3 rfl rfl rfl) fun a hs => ?_
  refine gv hs 5 rfl rfl hC (fun w hC => y_loadB1 (hC.ownAt 0 rfl) rfl Try.isAgg3 rfl) fun a hs => ?_
  refine gv hs 6 rfl rfl hC (fun w hC => y_shlM rfl rfl h143) fun a hs => ?_
  refine ho 2 rfl ?_
  refine st_callR hs (response_sum_ok h136 hw.bdom (hw.bE 0 rfl)) (do_call Try.call41 rfl) trivial rfl rfl ?_
  intro v154 Sv151 w a h152 h153 hs
  subst h153
  have hw := hw.callB h152
  refine h_nx (hw.cs [1] [] rfl rfl) fun hC => ?_
  refine ho 3 rfl ?_
  refine st_callR hs (response_square_ok h138 hw.dom) (do_call Try.call73 rfl) trivial rfl rfl ?_
  intro v159 Sv156 w a h157 h158 hs
  obtain ⟨p140, k141, rfl, h142⟩ := h158
  have hw := hw.call h157
  have hw := hw.addE (e := SlA p140 rv139.length k141 rv139) h142
  refine h_nx (hw.cs [1] [] rfl rfl) fun hC => ?_
  refine ho 7 rfl ?_
  refine st_callR hs (response_square_ok h145 hw.dom) (do_call Try.call73 rfl) trivial rfl rfl ?_
  intro v164 Sv161 w a h162 h163 hs
  obtain ⟨p147, k148, rfl, h149⟩ := h163
  have hw := hw.call h162
  have hw := hw.addE (e := SlA p147 rv146.length k148 rv146) h149
  refine h_nx (hw.cs [1] [] rfl rfl) fun hC => ?_
  refine gv hs 8 rfl rfl hC (fun w hC => y_build (vs := [(0, .slice p140 rv139.length k141), (1, .slice p147 rv146.length k148)]) Bld31 rfl rfl) fun a hs => ?_
  refine ho 9 rfl ?_
  refine w_store (m := 2) (cs' := [.slice p140 rv139.length k141, .slice p147 rv146.length k148]) hs hw 0 rfl rfl rfl Try.sizeOf31 rfl rfl rfl rfl trivial ?_
  intro a w hs hw
  refine h_nx (hw.cs [1] [] rfl rfl) fun hC => ?_
  refine gv hs 10 rfl rfl hC (fun w hC => y_assign rfl) fun a hs => ?_
  refine h_done (by kernel_rfl) ?_
  exact ⟨Sv161, k141, k148, p140, p147, (hs.wk rfl), (hw.ft [0] [1, 0] (by decide) rfl rfl)⟩
 rintro a w ⟨Sv150, k141, k148, p140, p147, hs, hw⟩
 refine then_normal ?_
 have hsh := oi hsh
 subst hsh
 refine wp_ret ?_
 exact ret2 hs rfl (rv_cell hw 0 rfl rfl Try.isAgg31 Try.sizeOf31 rfl) (rv_tmp rfl) (hw.ret ⟨p140, k141, p147, k148, rfl, (hw.envAt 0 rfl), (hw.envAt 1 rfl)⟩)

abbrev nat_ValidFraction_rd (w0 : World) (X : List Nat) (r : Bool) : (Nat → Prop) → World → Value → Prop := fun S w v => v = .bool r
set_option maxHeartbeats 4000000 in
set_option maxRecDepth 100000 in
theorem nat_ValidFraction_ok {w0 : World} {S0 : Nat → Prop} {p2 : Option Addr} {k3 : Nat} {p4 : Option Addr} {k5 : Nat} {f1 : Fraction} {r : Bool} (hsh : nat_ValidFraction f1 = some r) (hS : ∀ b, S0 b → b < w0.heap.size) (h6 : (SlA p2 f1.Num.length k3 f1.Num).p S0 w0) (h7 : (SlA p4 f1.Den.length k5 f1.Den).p S0 w0) : Calls Try.prog 75 #[.agg #[.slice p2 f1.Num.length k3, .slice p4 f1.Den.length k5]] w0 (Ret ([]) w0 S0 (nat_ValidFraction_rd w0 ([]) r)) := by
 refine calls_of_wp Try.func75 rfl ?_
 have hs := Sl.enter #[.agg #[.slice p2 f1.Num.length k3, .slice p4 f1.Den.length k5]] 17 [(0, .agg #[.slice p2 f1.Num.length k3, .slice p4 f1.Den.length k5])] rfl ⟨rfl, trivial⟩
 have hw := Wd.enter (E := []) hS (fun _ h => (by cases h))
 have hw := hw.addE h6
 have hw := hw.addE h7
 delta nat_ValidFraction at hsh
 refine sr ?_
 refine w_box (cs := [.slice p2 f1.Num.length k3, .slice p4 f1.Den.length k5]) hs hw rfl rfl rfl trivial ?_
 intro b8 a w hs hw
 refine av hs rfl rfl fun a hs => ?_
 refine nl ?_
 refine sr ?_
 refine sv hs (y_fieldAddr (o' := 0) Try.runUnderlying31 rfl Try.sizeOf29 rfl rfl rfl) rfl fun a hs => ?_
 refine sv hs (y_loadB1 (hw.ownAt 0 rfl) rfl Try.isAgg29 rfl) rfl fun a hs => ?_
 obtain ⟨rv10, h9, hsh⟩ := bind_t hsh
 refine st_callR hs (nat_Valid_ok h9 hw.bdom (hw.bE 1 rfl)) (do_call Try.call95 rfl) trivial rfl rfl ?_
 intro v14 Sv11 w a h12 h13 hs
 subst h13
 have hw := hw.callB h12
 refine mv hs rfl rfl fun a hs => ?_
 obtain ⟨c24, hc24, hsh⟩ := bind_t hsh
 refine wpl_join 4 (fun a w => ∃ (Sv25 : Nat → Prop), Sl 17 [(1, .pointer (some ⟨b8, 0, none⟩)), (10, .bool c24)] a ∧ Wd ⟨w0, S0, []⟩ Sv25 [.box b8 [.slice p2 f1.Num.length k3, .slice p4 f1.Den.length k5] 31] [SlA p2 f1.Num.length k3 f1.Num, SlA p4 f1.Den.length k5 f1.Den] w) ?_ ?_
 ·rcases Bool.eq_false_or_eq_true rv10 with h23 | h23
  ·have hs := hs.fix 6 (.bool true) rfl (vb h23)
   have hsh := ite_t hc24 h23
   refine st_val hs (y_fieldAddr (o' := 1) Try.runUnderlying31 rfl Try.sizeOf29 rfl rfl rfl) ⟨_, rfl, rfl⟩ rfl rfl fun a hs => ?_
   refine st_val hs (y_loadB1 (hw.ownAt 0 rfl) rfl Try.isAgg29 rfl) ⟨_, rfl, rfl⟩ rfl rfl fun a hs => ?_
   obtain ⟨rv27, h26, hsh⟩ := bind_t hsh
   refine st_callR hs (nat_Valid_ok h26 hw.bdom (hw.bE 0 rfl)) (do_call Try.call95 rfl) ⟨_, rfl, rfl⟩ rfl rfl ?_
   intro v31 Sv28 w a h29 h30 hs
   subst h30
   have hw := hw.callB h29
   refine sv hs (y_pickT rfl rfl) rfl fun a hs => ?_
   refine wpList_nil ?_
   have hsh := oi hsh
   subst hsh
   refine then_normal ?_
   exact ⟨S0, (hs.wk rfl), (hw.ft [0] [1, 0] (by decide) rfl rfl)⟩
  have hs := hs.fix 6 (.bool false) rfl (vb h23)
  have hsh := ite_f hc24 h23
  refine st_skip hs rfl rfl rfl rfl rfl fun a hs => ?_
  refine st_skip hs rfl rfl rfl rfl rfl fun a hs => ?_
  refine st_skip hs rfl rfl rfl rfl rfl fun a hs => ?_
  refine sv hs (y_pickF rfl rfl) rfl fun a hs => ?_
  refine wpList_nil ?_
  have hsh := oi hsh
  subst hsh
  refine then_normal ?_
  exact ⟨S0, (hs.wk rfl), (hw.ft [0] [1, 0] (by decide) rfl rfl)⟩
 rintro a w ⟨Sv25, hs, hw⟩
 refine mv hs rfl rfl fun a hs => ?_
 refine wpl_join 5 (fun a w1 => w = w1 ∧ Sl 17 [(16, .bool (c24 && (decide (0 < (f1.Den.length : Int)))))] a) ?_ ?_
 ·rcases Bool.eq_false_or_eq_true c24 with h33 | h33
  ·have hs := hs.fix 11 (.bool true) rfl (vb h33)
   refine st_val hs (y_fieldAddr (o' := 1) Try.runUnderlying31 rfl Try.sizeOf29 rfl rfl rfl) ⟨_, rfl, rfl⟩ rfl rfl fun a hs => ?_
   refine st_val hs (y_loadB1 (hw.ownAt 0 rfl) rfl Try.isAgg29 rfl) ⟨_, rfl, rfl⟩ rfl rfl fun a hs => ?_
   refine st_val hs (y_len Try.runUnderlying29 rfl) ⟨_, rfl, rfl⟩ rfl rfl fun a hs => ?_
   refine st_val hs (y_gtr rfl rfl) ⟨_, rfl, rfl⟩ rfl rfl fun a hs => ?_
   refine sv hs (y_pickT rfl rfl) rfl fun a hs => ?_
   refine nl ?_
   exact ⟨rfl, (hs.fix 16 (.bool (c24 && (decide (0 < (f1.Den.length : Int))))) rfl (and_t h33)).weaken _ ⟨rfl, trivial⟩⟩
  have hs := hs.fix 11 (.bool false) rfl (vb h33)
  refine st_skip hs rfl rfl rfl rfl rfl fun a hs => ?_
  refine st_skip hs rfl rfl rfl rfl rfl fun a hs => ?_
  refine st_skip hs rfl rfl rfl rfl rfl fun a hs => ?_
  refine st_skip hs rfl rfl rfl rfl rfl fun a hs => ?_
  refine sv hs (y_pickF rfl rfl) rfl fun a hs => ?_
  refine nl ?_
  exact ⟨rfl, (hs.fix 16 (.bool (c24 && (decide (0 < (f1.Den.length : Int))))) rfl (and_f h33)).weaken _ ⟨rfl, trivial⟩⟩
 rintro a w1 ⟨h34, hs⟩
 subst h34
 refine av hs rfl rfl fun a hs => ?_
 refine nl ?_
 have hsh := oi hsh
 subst hsh
 refine wp_ret ?_
 exact ret1 hs rfl (rv_tmp rfl) (hw.ret rfl)

abbrev nat_Times_rd (w0 : World) (X : List Nat) (r : (Fraction × Int)) : (Nat → Prop) → World → Value → Prop := fun S w v => ∃ (p0_0 : Option Addr) (k0_0 : Nat) (p0_1 : Option Addr) (k0_1 : Nat), v = .tuple #[.agg #[.slice p0_0 r.1.Num.length k0_0, .slice p0_1 r.1.Den.length k0_1], .int .i64 r.2] ∧ (SlA p0_0 r.1.Num.length k0_0 r.1.Num).p S w ∧ (SlA p0_1 r.1.Den.length k0_1 r.1.Den).p S w
set_option maxHeartbeats 4000000 in
set_option maxRecDepth 100000 in
theorem nat_Times_ok {w0 : World} {S0 : Nat → Prop} {p2 : Option Addr} {k3 : Nat} {p4 : Option Addr} {k5 : Nat} {p9 : Option Addr} {k10 : Nat} {p11 : Option Addr} {k12 : Nat} {a1 : Fraction} {b8 : Fraction} {r : (Fraction × Int)} (hsh : nat_Times a1 b8 = some r) (hS : ∀ b, S0 b → b < w0.heap.size) (h6 : (SlA p2 a1.Num.length k3 a1.Num).p S0 w0) (h7 : (SlA p4 a1.Den.length k5 a1.Den).p S0 w0) (h13 : (SlA p9 b8.Num.length k10 b8.Num).p S0 w0) (h14 : (SlA p11 b8.Den.length k12 b8.Den).p S0 w0) : Calls Try.prog 43 #[.agg #[.slice p2 a1.Num.length k3, .slice p4 a1.Den.length k5], .agg #[.slice p9 b8.Num.length k10, .slice p11 b8.Den.length k12]] w0 (Ret ([]) w0 S0 (nat_Times_rd w0 ([]) r)) := by
 refine calls_of_wp Try.func43 rfl ?_
 have hs := Sl.enter #[.agg #[.slice p2 a1.Num.length k3, .slice p4 a1.Den.length k5], .agg #[.slice p9 b8.Num.length k10, .slice p11 b8.Den.length k12]] 47 [(0, .agg #[.slice p2 a1.Num.length k3, .slice p4 a1.Den.length k5]), (1, .agg #[.slice p9 b8.Num.length k10, .slice p11 b8.Den.length k12])] rfl ⟨rfl, rfl, trivial⟩
 have hw := Wd.enter (E := []) hS (fun _ h => (by cases h))
 have hw := hw.addE h6
 have hw := hw.addE h7
 have hw := hw.addE h13
 have hw := hw.addE h14
 delta nat_Times at hsh
 refine sr ?_
 refine w_box (cs := [.slice p2 a1.Num.length k3, .slice p4 a1.Den.length k5]) hs hw rfl rfl rfl trivial ?_
 intro b15 a w hs hw
 refine w_box (cs := [.slice p9 b8.Num.length k10, .slice p11 b8.Den.length k12]) hs hw rfl rfl rfl trivial ?_
 intro b16 a w hs hw
 refine w_alloc (cs := [.slice none ([] : List Int).length 0, .slice none ([] : List Int).length 0]) hs hw Try.zeroValue31 rfl rfl trivial ?_
 intro b17 a w hs hw
 refine av hs rfl rfl fun a hs => ?_
 refine nl ?_
 refine wp_seq ?_
 refine sr ?_
 refine sv hs (y_loadBA (hw.ownAt 2 rfl) rfl Try.isAgg31 Try.sizeOf31 rfl rfl) rfl fun a hs => ?_
 obtain ⟨rv19, h18, hsh⟩ := bind_t hsh
 refine st_callR hs (nat_ValidFraction_ok h18 hw.bdom (hw.bE 3 rfl) (hw.bE 2 rfl)) (do_call Try.call75 rfl) trivial rfl rfl ?_
 intro v23 Sv20 w a h21 h22 hs
 subst h22
 have hw := hw.callB h21
 refine sv hs (y_not rfl) rfl fun a hs => ?_
 refine mv hs rfl rfl fun a hs => ?_
 obtain ⟨c33, hc33, hsh⟩ := bind_t hsh
 refine wpl_join 4 (fun a w => ∃ (Sv34 : Nat → Prop), Sl 47 [(2, .pointer (some ⟨b15, 0, none⟩)), (3, .pointer (some ⟨b16, 0, none⟩)), (4, .pointer (some ⟨b17, 0, none⟩)), (17, .bool c33)] a ∧ Wd ⟨w0, S0, []⟩ Sv34 [.box b15 [.slice p2 a1.Num.length k3, .slice p4 a1.Den.length k5] 31, .box b16 [.slice p9 b8.Num.length k10, .slice p11 b8.Den.length k12] 31, .box b17 [.slice none ([] : List Int).length 0, .slice none ([] : List Int).length 0] 31] [SlA p2 a1.Num.length k3 a1.Num, SlA p4 a1.Den.length k5 a1.Den, SlA p9 b8.Num.length k10 b8.Num, SlA p11 b8.Den.length k12 b8.Den, SlA none ([] : List Int).length 0 ([] : List Int)] w) ?_ ?_
 ·rcases Bool.eq_false_or_eq_true (!rv19) with h32 | h32
  ·have hs := hs.fix 13 (.bool true) rfl (vb h32)
   have hsh := ite_t hc33 h32
   refine st_skip hs rfl rfl rfl rfl rfl fun a hs => ?_
   refine st_skip hs rfl rfl rfl rfl rfl fun a hs => ?_
   refine st_skip hs rfl rfl rfl rfl rfl fun a hs => ?_
   refine sv hs (y_pickT rfl rfl) rfl fun a hs => ?_
   refine wpList_nil ?_
   have hw := hw.addE (e := SlA (α := Int) none 0 0 []) nil_sl
   have hsh := oi hsh
   subst hsh
   refine then_normal ?_
   exact ⟨S0, (hs.wk rfl), (hw.ft [2, 1, 0] [4, 3, 2, 1, 0] (by decide) rfl rfl)⟩
  have hs := hs.fix 13 (.bool false) rfl (vb h32)
  have hsh := ite_f hc33 h32
  refine st_val hs (y_loadBA (hw.ownAt 1 rfl) rfl Try.isAgg31 Try.sizeOf31 rfl rfl) ⟨_, rfl, rfl⟩ rfl rfl fun a hs => ?_
  obtain ⟨rv36, h35, hsh⟩ := bind_t hsh
  refine st_callR hs (nat_ValidFraction_ok h35 hw.bdom (hw.bE 1 rfl) (hw.bE 0 rfl)) (do_call Try.call75 rfl) ⟨_, rfl, rfl⟩ rfl rfl ?_
  intro v40 Sv37 w a h38 h39 hs
  subst h39
  have hw := hw.callB h38
  refine st_val hs (y_not rfl) ⟨_, rfl, rfl⟩ rfl rfl fun a hs => ?_
  refine sv hs (y_pickF rfl rfl) rfl fun a hs => ?_
  refine wpList_nil ?_
  have hw := hw.addE (e := SlA (α := Int) none 0 0 []) nil_sl
  have hsh := oi hsh
  subst hsh
  refine then_normal ?_
  exact ⟨S0, (hs.wk rfl), (hw.ft [2, 1, 0] [4, 3, 2, 1, 0] (by decide) rfl rfl)⟩
 rintro a w ⟨Sv34, hs, hw⟩
 refine nl ?_
 refine wp_cond_split (hs.ev rfl) (fun h43 => ?_) (fun h43 => ?_)
 ·have hsh := ite_t hsh h43
  refine sr ?_
  refine sv hs (y_build (vs := []) Bld31 rfl rfl) rfl fun a hs => ?_
  refine w_store (m := 2) (cs' := [.slice none ([] : List Int).length 0, .slice none ([] : List Int).length 0]) hs hw 2 rfl rfl rfl Try.sizeOf31 rfl rfl rfl rfl trivial ?_
  intro a w hs hw
  refine av hs rfl rfl fun a hs => ?_
  refine nl ?_
  have hsh := oi hsh
  subst hsh
  refine wp_ret ?_
  refine then_ret ?_
  exact ret2 hs rfl (rv_cell hw 2 rfl rfl Try.isAgg31 Try.sizeOf31 rfl) (rv_tmp rfl) (hw.ret ⟨none, 0, none, 0, rfl, (hw.envAt 4 rfl), (hw.envAt 4 rfl)⟩)
 have hsh := ite_f hsh h43
 refine wp_skip ?_
 refine then_normal ?_
 refine sr ?_
 refine sv hs (y_fieldAddr (o' := 0) Try.runUnderlying31 rfl Try.sizeOf29 rfl rfl rfl) rfl fun a hs => ?_
 refine sv hs (y_loadB1 (hw.ownAt 0 rfl) rfl Try.isAgg29 rfl) rfl fun a hs => ?_
 refine sv hs (y_fieldAddr (o' := 0) Try.runUnderlying31 rfl Try.sizeOf29 rfl rfl rfl) rfl fun a hs => ?_
 refine sv hs (y_loadB1 (hw.ownAt 1 rfl) rfl Try.isAgg29 rfl) rfl fun a hs => ?_
 obtain ⟨rv45, h44, hsh⟩ := bind_t hsh
 refine st_callR hs (nat_multiply_ok h44 hw.dom (hw.envAt 0 rfl) (hw.envAt 2 rfl)) (do_call Try.call77 rfl) trivial rfl rfl ?_
 intro v52 Sv49 w a h50 h51 hs
 obtain ⟨p46, k47, rfl, h48⟩ := h51
 have hw := hw.call h50
 have hw := hw.addE (e := SlA p46 rv45.length k47 rv45) h48
 obtain ⟨rv55, h54, hsh⟩ := bind_t hsh
 refine st_callR hs (nat_limited_ok h54 hw.dom (hw.envAt 0 rfl)) (do_call Try.call76 rfl) trivial rfl rfl ?_
 intro v62 Sv59 w a h60 h61 hs
 obtain ⟨p56, k57, rfl, h58⟩ := h61
 have hw := hw.call h60
 have hw := hw.addE (e := SlA p56 rv55.1.length k57 rv55.1) h58
 refine mv hs rfl rfl fun a hs => ?_
 refine sv hs (y_extract rfl rfl) rfl fun a hs => ?_
 refine sv hs (y_extract rfl rfl) rfl fun a hs => ?_
 refine av hs rfl rfl fun a hs => ?_
 refine av hs rfl rfl fun a hs => ?_
 refine nl ?_
 refine sr ?_
 refine sv hs (y_fieldAddr (o' := 1) Try.runUnderlying31 rfl Try.sizeOf29 rfl rfl rfl) rfl fun a hs => ?_
 refine sv hs (y_loadB1 (hw.ownAt 0 rfl) rfl Try.isAgg29 rfl) rfl fun a hs => ?_
 refine sv hs (y_fieldAddr (o' := 1) Try.runUnderlying31 rfl Try.sizeOf29 rfl rfl rfl) rfl fun a hs => ?_
 refine sv hs (y_loadB1 (hw.ownAt 1 rfl) rfl Try.isAgg29 rfl) rfl fun a hs => ?_
 obtain ⟨rv65, h64, hsh⟩ := bind_t hsh
 refine st_callR hs (nat_multiply_ok h64 hw.dom (hw.envAt 3 rfl) (hw.envAt 5 rfl)) (do_call Try.call77 rfl) trivial rfl rfl ?_
 intro v72 Sv69 w a h70 h71 hs
 obtain ⟨p66, k67, rfl, h68⟩ := h71
 have hw := hw.call h70
 have hw := hw.addE (e := SlA p66 rv65.length k67 rv65) h68
 obtain ⟨rv75, h74, hsh⟩ := bind_t hsh
 refine st_callR hs (nat_limited_ok h74 hw.dom (hw.envAt 0 rfl)) (do_call Try.call76 rfl) trivial rfl rfl ?_
 intro v82 Sv79 w a h80 h81 hs
 obtain ⟨p76, k77, rfl, h78⟩ := h81
 have hw := hw.call h80
 have hw := hw.addE (e := SlA p76 rv75.1.length k77 rv75.1) h78
 refine mv hs rfl rfl fun a hs => ?_
 refine sv hs (y_extract rfl rfl) rfl fun a hs => ?_
 refine sv hs (y_extract rfl rfl) rfl fun a hs => ?_
 refine av hs rfl rfl fun a hs => ?_
 refine av hs rfl rfl fun a hs => ?_
 refine nl ?_
 refine wp_seq ?_
 refine sr ?_
 refine mv hs rfl rfl fun a hs => ?_
 refine sv hs (y_neq rfl rfl) rfl fun a hs => ?_
 refine mv hs rfl rfl fun a hs => ?_
 refine wpl_join 3 (fun a w1 => w = w1 ∧ Sl 47 [(4, .pointer (some ⟨b17, 0, none⟩)), (6, .slice p56 rv55.1.length k57), (8, .slice p76 rv75.1.length k77), (42, .bool ((rv55.2 != 0) || (rv75.2 != 0)))] a) ?_ ?_
 ·rcases Bool.eq_false_or_eq_true (rv55.2 != 0) with h84 | h84
  ·have hs := hs.fix 39 (.bool true) rfl (vb h84)
   refine st_skip hs rfl rfl rfl rfl rfl fun a hs => ?_
   refine st_skip hs rfl rfl rfl rfl rfl fun a hs => ?_
   refine sv hs (y_pickT rfl rfl) rfl fun a hs => ?_
   refine nl ?_
   exact ⟨rfl, (hs.fix 42 (.bool ((rv55.2 != 0) || (rv75.2 != 0))) rfl (or_t h84)).weaken _ ⟨rfl, rfl, rfl, rfl, trivial⟩⟩
  have hs := hs.fix 39 (.bool false) rfl (vb h84)
  refine st_val hs (y_move rfl) ⟨_, rfl, rfl⟩ rfl rfl fun a hs => ?_
  refine st_val hs (y_neq rfl rfl) ⟨_, rfl, rfl⟩ rfl rfl fun a hs => ?_
  refine sv hs (y_pickF rfl rfl) rfl fun a hs => ?_
  refine nl ?_
  exact ⟨rfl, (hs.fix 42 (.bool ((rv55.2 != 0) || (rv75.2 != 0))) rfl (or_f h84)).weaken _ ⟨rfl, rfl, rfl, rfl, trivial⟩⟩
 rintro a w1 ⟨h87, hs⟩
 subst h87
 refine nl ?_
 refine wp_cond_split (hs.ev rfl) (fun h86 => ?_) (fun h86 => ?_)
 ·have hsh := ite_t hsh h86
  refine sr ?_
  refine sv hs (y_build (vs := []) Bld31 rfl rfl) rfl fun a hs => ?_
  refine w_store (m := 2) (cs' := [.slice none ([] : List Int).length 0, .slice none ([] : List Int).length 0]) hs hw 2 rfl rfl rfl Try.sizeOf31 rfl rfl rfl rfl trivial ?_
  intro a w hs hw
  refine av hs rfl rfl fun a hs => ?_
  refine nl ?_
  have hsh := oi hsh
  subst hsh
  refine wp_ret ?_
  refine then_ret ?_
  exact ret2 hs rfl (rv_cell hw 2 rfl rfl Try.isAgg31 Try.sizeOf31 rfl) (rv_tmp rfl) (hw.ret ⟨none, 0, none, 0, rfl, (hw.envAt 8 rfl), (hw.envAt 8 rfl)⟩)
 have hsh := ite_f hsh h86
 refine wp_skip ?_
 refine then_normal ?_
 refine sr ?_
 refine mv hs rfl rfl fun a hs => ?_
 refine mv hs rfl rfl fun a hs => ?_
 refine sv hs (y_build (vs := [(0, .slice p56 rv55.1.length k57), (1, .slice p76 rv75.1.length k77)]) Bld31 rfl rfl) rfl fun a hs => ?_
 refine w_store (m := 2) (cs' := [.slice p56 rv55.1.length k57, .slice p76 rv75.1.length k77]) hs hw 2 rfl rfl rfl Try.sizeOf31 rfl rfl rfl rfl trivial ?_
 intro a w hs hw
 refine av hs rfl rfl fun a hs => ?_
 refine nl ?_
 have hsh := oi hsh
 subst hsh
 refine wp_ret ?_
 exact ret2 hs rfl (rv_cell hw 2 rfl rfl Try.isAgg31 Try.sizeOf31 rfl) (rv_tmp rfl) (hw.ret ⟨p56, k57, p76, k77, rfl, (hw.envAt 2 rfl), (hw.envAt 0 rfl)⟩)

abbrev response_Gain_rd (w0 : World) (X : List Nat) (r : (Fraction × Int)) : (Nat → Prop) → World → Value → Prop := fun S w v => ∃ (p0_0 : Option Addr) (k0_0 : Nat) (p0_1 : Option Addr) (k0_1 : Nat), v = .tuple #[.agg #[.slice p0_0 r.1.Num.length k0_0, .slice p0_1 r.1.Den.length k0_1], .int .i64 r.2] ∧ (SlA p0_0 r.1.Num.length k0_0 r.1.Num).p S w ∧ (SlA p0_1 r.1.Den.length k0_1 r.1.Den).p S w
set_option maxHeartbeats 4000000 in
set_option maxRecDepth 100000 in
theorem response_Gain_ok {w0 : World} {S0 : Nat → Prop} {p2 : Option Addr} {k3 : Nat} {r1 : Response} {num5 : Int} {den6 : Int} {r : (Fraction × Int)} (hsh : response_Gain r1 num5 den6 = some r) (hS : ∀ b, S0 b → b < w0.heap.size) (h4 : (SlA p2 r1.Stages.length k3 r1.Stages).p S0 w0) : Calls Try.prog 10 #[.agg #[.slice p2 r1.Stages.length k3], .int .i64 num5, .int .i64 den6] w0 (Ret ([]) w0 S0 (response_Gain_rd w0 ([]) r)) := by
 refine calls_of_wp Try.func10 rfl ?_
 have hs := Sl.enter #[.agg #[.slice p2 r1.Stages.length k3], .int .i64 num5, .int .i64 den6] 59 [(0, .agg #[.slice p2 r1.Stages.length k3]), (1, .int .i64 num5), (2, .int .i64 den6)] rfl ⟨rfl, rfl, rfl, trivial⟩
 have hw := Wd.enter (E := []) hS (fun _ h => (by cases h))
 have hw := hw.addE h4
 delta response_Gain at hsh
 refine sr ?_
 refine w_box (cs := [.slice p2 r1.Stages.length k3]) hs hw rfl rfl rfl trivial ?_
 intro b7 a w hs hw
 refine w_alloc (cs := [.slice none ([] : List Int).length 0, .slice none ([] : List Int).length 0]) hs hw Try.zeroValue31 rfl rfl trivial ?_
 intro b8 a w hs hw
 refine av hs rfl rfl fun a hs => ?_
 refine nl ?_
 refine wp_seq ?_
 refine sr ?_
 refine sv hs (y_loadBA (hw.ownAt 1 rfl) rfl Try.isAgg37 Try.sizeOf37 rfl rfl) rfl fun a hs => ?_
 obtain ⟨rv10, h9, hsh⟩ := bind_t hsh
 refine st_callR hs (response_Valid_ok h9 hw.bdom (hw.bE 0 rfl)) (do_call Try.call33 rfl) trivial rfl rfl ?_
 intro v14 Sv11 w a h12 h13 hs
 subst h13
 have hw := hw.callB h12
 refine sv hs (y_not rfl) rfl fun a hs => ?_
 refine nl ?_
 refine wp_cond_split (hs.ev rfl) (fun h17 => ?_) (fun h17 => ?_)
 ·have hsh := ite_t hsh h17
  refine sr ?_
  refine sv hs (y_build (vs := []) Bld31 rfl rfl) rfl fun a hs => ?_
  refine w_store (m := 2) (cs' := [.slice none ([] : List Int).length 0, .slice none ([] : List Int).length 0]) hs hw 0 rfl rfl rfl Try.sizeOf31 rfl rfl rfl rfl trivial ?_
  intro a w hs hw
  refine av hs rfl rfl fun a hs => ?_
  refine nl ?_
  have hsh := oi hsh
  subst hsh
  have hw := hw.addE (e := SlA (α := Int) none 0 0 []) nil_sl
  refine wp_ret ?_
  refine then_ret ?_
  exact ret2 hs rfl (rv_cell hw 0 rfl rfl Try.isAgg31 Try.sizeOf31 rfl) (rv_tmp rfl) (hw.ret ⟨none, 0, none, 0, rfl, (hw.envAt 0 rfl), (hw.envAt 0 rfl)⟩)
 have hsh := ite_f hsh h17
 refine wp_skip ?_
 refine then_normal ?_
 refine wp_seq ?_
 refine sr ?_
 refine mv hs rfl rfl fun a hs => ?_
 obtain ⟨rv19, h18, hsh⟩ := bind_t hsh
 refine st_callR hs (response_in_ok h18 hw.bdom) (do_call Try.call39 rfl) trivial rfl rfl ?_
 intro v23 Sv20 w a h21 h22 hs
 subst h22
 have hw := hw.callB h21
 refine sv hs (y_not rfl) rfl fun a hs => ?_
 refine mv hs rfl rfl fun a hs => ?_
 obtain ⟨c33, hc33, hsh⟩ := bind_t hsh
 refine wpl_join 4 (fun a w => ∃ (Sv34 : Nat → Prop), Sl 59 [(1, .int .i64 num5), (2, .int .i64 den6), (3, .pointer (some ⟨b7, 0, none⟩)), (6, .pointer (some ⟨b8, 0, none⟩)), (25, .bool c33)] a ∧ Wd ⟨w0, S0, []⟩ Sv34 [.box b7 [.slice p2 r1.Stages.length k3] 37, .box b8 [.slice none ([] : List Int).length 0, .slice none ([] : List Int).length 0] 31] [SlA p2 r1.Stages.length k3 r1.Stages, SlA none ([] : List Int).length 0 ([] : List Int)] w) ?_ ?_
 ·rcases Bool.eq_false_or_eq_true (!rv19) with h32 | h32
  ·have hs := hs.fix 21 (.bool true) rfl (vb h32)
   have hsh := ite_t hc33 h32
   refine st_skip hs rfl rfl rfl rfl rfl fun a hs => ?_
   refine st_skip hs rfl rfl rfl rfl rfl fun a hs => ?_
   refine st_skip hs rfl rfl rfl rfl rfl fun a hs => ?_
   refine sv hs (y_pickT rfl rfl) rfl fun a hs => ?_
   refine wpList_nil ?_
   have hw := hw.addE (e := SlA (α := Int) none 0 0 []) nil_sl
   have hsh := oi hsh
   subst hsh
   refine then_normal ?_
   exact ⟨S0, (hs.wk rfl), (hw.ft [1, 0] [1, 0] (by decide) rfl rfl)⟩
  have hs := hs.fix 21 (.bool false) rfl (vb h32)
  have hsh := ite_f hc33 h32
  refine st_val hs (y_move rfl) ⟨_, rfl, rfl⟩ rfl rfl fun a hs => ?_
  obtain ⟨rv36, h35, hsh⟩ := bind_t hsh
  refine st_callR hs (response_in_ok h35 hw.bdom) (do_call Try.call39 rfl) ⟨_, rfl, rfl⟩ rfl rfl ?_
  intro v40 Sv37 w a h38 h39 hs
  subst h39
  have hw := hw.callB h38
  refine st_val hs (y_not rfl) ⟨_, rfl, rfl⟩ rfl rfl fun a hs => ?_
  refine sv hs (y_pickF rfl rfl) rfl fun a hs => ?_
  refine wpList_nil ?_
  have hw := hw.addE (e := SlA (α := Int) none 0 0 []) nil_sl
  have hsh := oi hsh
  subst hsh
  refine then_normal ?_
  exact ⟨S0, (hs.wk rfl), (hw.ft [1, 0] [1, 0] (by decide) rfl rfl)⟩
 rintro a w ⟨Sv34, hs, hw⟩
 refine nl ?_
 refine wp_cond_split (hs.ev rfl) (fun h43 => ?_) (fun h43 => ?_)
 ·have hsh := ite_t hsh h43
  refine sr ?_
  refine sv hs (y_build (vs := []) Bld31 rfl rfl) rfl fun a hs => ?_
  refine w_store (m := 2) (cs' := [.slice none ([] : List Int).length 0, .slice none ([] : List Int).length 0]) hs hw 1 rfl rfl rfl Try.sizeOf31 rfl rfl rfl rfl trivial ?_
  intro a w hs hw
  refine av hs rfl rfl fun a hs => ?_
  refine nl ?_
  have hsh := oi hsh
  subst hsh
  refine wp_ret ?_
  refine then_ret ?_
  exact ret2 hs rfl (rv_cell hw 1 rfl rfl Try.isAgg31 Try.sizeOf31 rfl) (rv_tmp rfl) (hw.ret ⟨none, 0, none, 0, rfl, (hw.envAt 1 rfl), (hw.envAt 1 rfl)⟩)
 have hsh := ite_f hsh h43
 refine wp_skip ?_
 refine then_normal ?_
 refine sr ?_
 refine w_litSlice (α := Int) (vs := [.int .i64 1]) (cs := [.int .i64 1]) (xs := ([1] : List Int)) hs hw El29 rfl rfl rfl rfl rfl rfl ⟨⟨_, rfl, rfl⟩, rfl⟩ rfl trivial rfl fun b45 a w hs hw => ?_
 refine w_litSlice (α := Int) (vs := [.int .i64 1]) (cs := [.int .i64 1]) (xs := ([1] : List Int)) hs hw El29 rfl rfl rfl rfl rfl rfl ⟨⟨_, rfl, rfl⟩, rfl⟩ rfl trivial rfl fun b47 a w hs hw => ?_
 refine sv hs (y_build (vs := [(0, .slice (some ⟨b45, 0, none⟩) ([1] : List Int).length ([1] : List Int).length), (1, .slice (some ⟨b47, 0, none⟩) ([1] : List Int).length ([1] : List Int).length)]) Bld31 rfl rfl) rfl fun a hs => ?_
 refine w_alloc (cs := [.slice none ([] : List Int).length 0, .slice none ([] : List Int).length 0]) hs hw Try.zeroValue31 rfl rfl trivial ?_
 intro b48 a w hs hw
 refine w_store (m := 2) (cs' := [.slice (some ⟨b45, 0, none⟩) ([1] : List Int).length ([1] : List Int).length, .slice (some ⟨b47, 0, none⟩) ([1] : List Int).length ([1] : List Int).length]) hs hw 0 rfl rfl rfl Try.sizeOf31 rfl rfl rfl rfl trivial ?_
 intro a w hs hw
 refine nl ?_
 refine wp_seq ?_
 refine sr ?_
 refine sv hs (y_fieldAddr (o' := 0) Try.runUnderlying37 rfl Try.sizeOf35 rfl rfl rfl) rfl fun a hs => ?_
 refine sv hs (y_loadB1 (hw.ownAt 3 rfl) rfl Try.isAgg35 rfl) rfl fun a hs => ?_
 refine sv hs (y_len Try.runUnderlying35 rfl) rfl fun a hs => ?_
 refine mv hs rfl rfl fun a hs => ?_
 refine nl ?_
 refine wp_block ?_
 obtain ⟨Sv369, hw⟩ := w_share (α := Int) hw 2 rfl 0 rfl
 obtain ⟨Sv370, hw⟩ := w_share (α := Int) hw 1 rfl 1 rfl
 refine wp_while (fun sv210 a w => ∃ (p314 : Option Addr) (k315 : Nat) (p316 : Option Addr) (k317 : Nat) (Sv318 : Nat → Prop), Sl 59 [(1, .int .i64 num5), (2, .int .i64 den6), (6, .pointer (some ⟨b8, 0, none⟩)), (8, .pointer (some ⟨b48, 0, none⟩)), (31, .slice p2 r1.Stages.length k3), (32, .int .i64 (r1.Stages.length : Int)), (33, .int .i64 sv210.2.2)] a ∧ Wd ⟨w0, S0, []⟩ Sv318 [.box b8 [.slice none ([] : List Int).length 0, .slice none ([] : List Int).length 0] 31, .box b48 [.slice p314 sv210.1.length k315, .slice p316 sv210.2.1.length k317] 31] [SlA p2 r1.Stages.length k3 r1.Stages, SlA none ([] : List Int).length 0 ([] : List Int), SlA p314 sv210.1.length k315 sv210.1, SlA p316 sv210.2.1.length k317 sv210.2.1] w) (([1] : List Int), ([1] : List Int), 0) hsh ⟨(some ⟨b45, 0, none⟩), ([1] : List Int).length, (some ⟨b47, 0, none⟩), ([1] : List Int).length, Sv370, (hs.wk rfl), (hw.ft [2, 0] [4, 5, 1, 0] (by decide) rfl rfl)⟩ ?_
 repeat clear hsh
 rintro sv210 a w tv368 ⟨p314, k315, p316, k317, Sv318, hs, hw⟩ hsh hd367
 delta response_Gain_l2 at hsh
 refine sr ?_
 refine sv hs (y_lss rfl rfl) rfl fun a hs => ?_
 refine nl ?_
 refine wp_seq ?_
 refine wp_cond_split (hs.ev rfl) (fun h374 => ?_) (fun h374 => ?_)
 ·have hsh := ite_t hsh h374
  refine wp_skip ?_
  refine then_normal ?_
  refine wp_seq ?_
  refine wp_block ?_
  refine sr ?_
  obtain ⟨x424, h422, hsh⟩ := bind_t hsh
  obtain ⟨b430, o431, q428, c429, h432, h425, h426, h427, h423⟩ := hw.elemV 0 rfl h422
  have hsv433 := hs
  have hwv434 := hw
  subst h432
  have hs := hsv433
  have hw := hwv434
  obtain ⟨_, _, _, _, _, _, _, _, _, _, rfl, rfl, rfl, rfl, rfl, rfl, rfl, rfl, ⟨p435, n436, k437, rfl, h438⟩, rfl, rfl⟩ := h423
  obtain rfl := h438.1
  have hw := hw.addE (e := SlA p435 _ k437 x424.Taps) h438
  have hw := hw.addE h427
  refine sv hs (y_indexAt Try.runUnderlying35 Try.sizeOf26 rfl rfl h425.1 h425.2 h426) rfl fun a hs => ?_
  refine sv hs (y_loadEA (j := 0) (hw.ceAt 0 rfl) rfl Try.isAgg26 Try.sizeOf26 rfl rfl) rfl fun a hs => ?_
  refine w_alloc (cs := [.int .i64 0, .int .i64 0, .int .i64 0, .int .i64 0, .int .i64 0, .int .i64 0, .int .i64 0, .slice none ([] : List Int).length 0, .int .i64 0, .int .i64 0]) hs hw Try.zeroValue26 rfl rfl trivial ?_
  intro b439 a w hs hw
  refine w_store (m := 10) (cs' := [.int .i64 x424.Kind, .int .i64 x424.Num.e0, .int .i64 x424.Num.e1, .int .i64 x424.Num.e2, .int .i64 x424.Den.e0, .int .i64 x424.Den.e1, .int .i64 x424.Den.e2, .slice p435 x424.Taps.length k437, .int .i64 x424.Factor, .int .i64 x424.Shift]) hs hw 0 rfl rfl rfl Try.sizeOf26 rfl rfl rfl rfl trivial ?_
  intro a w hs hw
  refine nl ?_
  refine sr ?_
  refine sv hs (y_loadBA (hw.ownAt 0 rfl) rfl Try.isAgg26 Try.sizeOf26 rfl rfl) rfl fun a hs => ?_
  refine mv hs rfl rfl fun a hs => ?_
  refine mv hs rfl rfl fun a hs => ?_
  obtain ⟨rv441, h440, hsh⟩ := bind_t hsh
  refine st_callR hs (response_gain_ok h440 hw.dom (hw.envAt 1 rfl)) (do_call Try.call42 rfl) trivial rfl rfl ?_
  intro v451 Sv448 w a h449 h450 hs
  obtain ⟨p442, k443, p445, k446, rfl, h444, h447⟩ := h450
  have hw := hw.call h449
  have hw := hw.addE (e := SlA p442 rv441.1.Num.length k443 rv441.1.Num) h444
  have hw := hw.addE (e := SlA p445 rv441.1.Den.length k446 rv441.1.Den) h447
  refine mv hs rfl rfl fun a hs => ?_
  refine sv hs (y_extract rfl rfl) rfl fun a hs => ?_
  refine sv hs (y_extract rfl rfl) rfl fun a hs => ?_
  refine w_alloc (cs := [.slice none ([] : List Int).length 0, .slice none ([] : List Int).length 0]) hs hw Try.zeroValue31 rfl rfl trivial ?_
  intro b453 a w hs hw
  refine w_store (m := 2) (cs' := [.slice p442 rv441.1.Num.length k443, .slice p445 rv441.1.Den.length k446]) hs hw 0 rfl rfl rfl Try.sizeOf31 rfl rfl rfl rfl trivial ?_
  intro a w hs hw
  refine av hs rfl rfl fun a hs => ?_
  refine nl ?_
  refine wp_seq ?_
  refine sr ?_
  refine mv hs rfl rfl fun a hs => ?_
  refine sv hs (y_not rfl) rfl fun a hs => ?_
  refine nl ?_
  refine wp_cond_split (hs.ev rfl) (fun h455 => ?_) (fun h455 => ?_)
  ·have hsh := ite_t hsh h455
   refine sr ?_
   refine sv hs (y_build (vs := []) Bld31 rfl rfl) rfl fun a hs => ?_
   refine w_store (m := 2) (cs' := [.slice none ([] : List Int).length 0, .slice none ([] : List Int).length 0]) hs hw 2 rfl rfl rfl Try.sizeOf31 rfl rfl rfl rfl trivial ?_
   intro a w hs hw
   refine av hs rfl rfl fun a hs => ?_
   refine nl ?_
   have hsh := oi hsh
   subst hsh
   have h456 := hd367 _ rfl
   subst h456
   refine wp_ret ?_
   refine then_ret ?_
   refine blk_ret ?_
   refine then_ret ?_
   refine then_ret ?_
   refine blk_ret ?_
   refine then_ret ?_
   exact ret2 hs rfl (rv_cell hw 2 rfl rfl Try.isAgg31 Try.sizeOf31 rfl) (rv_tmp rfl) (hw.ret ⟨none, 0, none, 0, rfl, (hw.envAt 5 rfl), (hw.envAt 5 rfl)⟩)
  have hsh := ite_f hsh h455
  refine wp_skip ?_
  refine then_normal ?_
  refine sr ?_
  refine av hs rfl rfl fun a hs => ?_
  refine nl ?_
  refine sr ?_
  refine sv hs (y_loadBA (hw.ownAt 3 rfl) rfl Try.isAgg31 Try.sizeOf31 rfl rfl) rfl fun a hs => ?_
  refine sv hs (y_loadBA (hw.ownAt 0 rfl) rfl Try.isAgg31 Try.sizeOf31 rfl rfl) rfl fun a hs => ?_
  obtain ⟨rv458, h457, hsh⟩ := bind_t hsh
  refine st_callR hs (nat_Times_ok h457 hw.dom (hw.envAt 6 rfl) (hw.envAt 7 rfl) (hw.envAt 1 rfl) (hw.envAt 0 rfl)) (do_call Try.call43 rfl) trivial rfl rfl ?_
  intro v468 Sv465 w a h466 h467 hs
  obtain ⟨p459, k460, p462, k463, rfl, h461, h464⟩ := h467
  have hw := hw.call h466
  have hw := hw.addE (e := SlA p459 rv458.1.Num.length k460 rv458.1.Num) h461
  have hw := hw.addE (e := SlA p462 rv458.1.Den.length k463 rv458.1.Den) h464
  refine mv hs rfl rfl fun a hs => ?_
  refine sv hs (y_extract rfl rfl) rfl fun a hs => ?_
  refine sv hs (y_extract rfl rfl) rfl fun a hs => ?_
  refine w_store (m := 2) (cs' := [.slice p459 rv458.1.Num.length k460, .slice p462 rv458.1.Den.length k463]) hs hw 3 rfl rfl rfl Try.sizeOf31 rfl rfl rfl rfl trivial ?_
  intro a w hs hw
  refine av hs rfl rfl fun a hs => ?_
  refine nl ?_
  refine sr ?_
  refine mv hs rfl rfl fun a hs => ?_
  refine sv hs (y_neq rfl rfl) rfl fun a hs => ?_
  refine nl ?_
  refine wp_cond_split (hs.ev rfl) (fun h471 => ?_) (fun h471 => ?_)
  ·have hsh := ite_t hsh h471
   refine sr ?_
   refine sv hs (y_build (vs := []) Bld31 rfl rfl) rfl fun a hs => ?_
   refine mv hs rfl rfl fun a hs => ?_
   refine w_store (m := 2) (cs' := [.slice none ([] : List Int).length 0, .slice none ([] : List Int).length 0]) hs hw 2 rfl rfl rfl Try.sizeOf31 rfl rfl rfl rfl trivial ?_
   intro a w hs hw
   refine av hs rfl rfl fun a hs => ?_
   refine nl ?_
   have hsh := oi hsh
   subst hsh
   have h472 := hd367 _ rfl
   subst h472
   refine wp_ret ?_
   refine blk_ret ?_
   refine then_ret ?_
   refine then_ret ?_
   refine blk_ret ?_
   refine then_ret ?_
   exact ret2 hs rfl (rv_cell hw 2 rfl rfl Try.isAgg31 Try.sizeOf31 rfl) (rv_tmp rfl) (hw.ret ⟨none, 0, none, 0, rfl, (hw.envAt 7 rfl), (hw.envAt 7 rfl)⟩)
  have hsh := ite_f hsh h471
  refine wp_skip ?_
  refine blk_normal ?_
  refine then_normal ?_
  refine wp_region_lit ?_
  refine sv hs (y_add rfl rfl) rfl fun a hs => ?_
  refine mv hs rfl rfl fun a hs => ?_
  refine nl ?_
  exact ⟨_, (Option.some.inj hsh).symm, p459, k460, p462, k463, Sv465, (hs.wk rfl), (hw.ft [2, 3] [6, 7, 1, 0] (by decide) rfl rfl)⟩
 have hsh := ite_f hsh h374
 obtain ⟨rv473, hsh, h474⟩ := map_t hsh
 have h474 := (hd367 _ h474.symm).symm
 subst h474
 refine wp_exit ?_
 refine then_exit ?_
 refine then_exit ?_
 refine blk_exit ?_
 refine then_normal ?_
 refine sr ?_
 refine sv hs (y_loadBA (hw.ownAt 1 rfl) rfl Try.isAgg31 Try.sizeOf31 rfl rfl) rfl fun a hs => ?_
 refine w_store (m := 2) (cs' := [.slice p314 sv210.1.length k315, .slice p316 sv210.2.1.length k317]) hs hw 0 rfl rfl rfl Try.sizeOf31 rfl rfl rfl rfl trivial ?_
 intro a w hs hw
 refine av hs rfl rfl fun a hs => ?_
 refine nl ?_
 have hsh := oi hsh
 subst hsh
 refine wp_ret ?_
 exact ret2 hs rfl (rv_cell hw 0 rfl rfl Try.isAgg31 Try.sizeOf31 rfl) (rv_tmp rfl) (hw.ret ⟨p314, k315, p316, k317, rfl, (hw.envAt 2 rfl), (hw.envAt 3 rfl)⟩)

abbrev ref01_In_rd (w0 : World) (X : List Nat) (r : Bool) : (Nat → Prop) → World → Value → Prop := fun S w v => v = .bool r
set_option maxHeartbeats 4000000 in
set_option maxRecDepth 100000 in
theorem ref01_In_ok {w0 : World} {S0 : Nat → Prop} {n1 : Int} {lo2 : Int} {hi3 : Int} {r : Bool} (hsh : ref01_In n1 lo2 hi3 = some r) (hS : ∀ b, S0 b → b < w0.heap.size) : Calls Try.prog 56 #[.int .i64 n1, .int .i64 lo2, .int .i64 hi3] w0 (Ret ([]) w0 S0 (ref01_In_rd w0 ([]) r)) := by
 refine calls_of_wp Try.func56 rfl ?_
 have hs := Sl.enter #[.int .i64 n1, .int .i64 lo2, .int .i64 hi3] 15 [(0, .int .i64 n1), (1, .int .i64 lo2), (2, .int .i64 hi3)] rfl ⟨rfl, rfl, rfl, trivial⟩
 have hw := Wd.enter (E := []) hS (fun _ h => (by cases h))
 delta ref01_In at hsh
 refine sr ?_
 refine av hs rfl rfl fun a hs => ?_
 refine nl ?_
 refine sr ?_
 refine mv hs rfl rfl fun a hs => ?_
 refine mv hs rfl rfl fun a hs => ?_
 refine sv hs (y_geq rfl rfl) rfl fun a hs => ?_
 refine mv hs rfl rfl fun a hs => ?_
 refine wpl_join 4 (fun a w1 => w0 = w1 ∧ Sl 15 [(14, .bool ((decide (lo2 ≤ n1)) && (decide (n1 ≤ hi3))))] a) ?_ ?_
 ·rcases Bool.eq_false_or_eq_true (decide (lo2 ≤ n1)) with h4 | h4
  ·have hs := hs.fix 10 (.bool true) rfl (vb h4)
   refine st_val hs (y_move rfl) ⟨_, rfl, rfl⟩ rfl rfl fun a hs => ?_
   refine st_val hs (y_move rfl) ⟨_, rfl, rfl⟩ rfl rfl fun a hs => ?_
   refine st_val hs (y_leq rfl rfl) ⟨_, rfl, rfl⟩ rfl rfl fun a hs => ?_
   refine sv hs (y_pickT rfl rfl) rfl fun a hs => ?_
   refine nl ?_
   exact ⟨rfl, (hs.fix 14 (.bool ((decide (lo2 ≤ n1)) && (decide (n1 ≤ hi3)))) rfl (and_t h4)).weaken _ ⟨rfl, trivial⟩⟩
  have hs := hs.fix 10 (.bool false) rfl (vb h4)
  refine st_skip hs rfl rfl rfl rfl rfl fun a hs => ?_
  refine st_skip hs rfl rfl rfl rfl rfl fun a hs => ?_
  refine st_skip hs rfl rfl rfl rfl rfl fun a hs => ?_
  refine sv hs (y_pickF rfl rfl) rfl fun a hs => ?_
  refine nl ?_
  exact ⟨rfl, (hs.fix 14 (.bool ((decide (lo2 ≤ n1)) && (decide (n1 ≤ hi3)))) rfl (and_f h4)).weaken _ ⟨rfl, trivial⟩⟩
 rintro a w1 ⟨h5, hs⟩
 subst h5
 refine av hs rfl rfl fun a hs => ?_
 refine nl ?_
 have hsh := oi hsh
 subst hsh
 refine wp_ret ?_
 exact ret1 hs rfl (rv_tmp rfl) (hw.ret rfl)

abbrev ref17_Valid_rd (w0 : World) (X : List Nat) (r : Bool) : (Nat → Prop) → World → Value → Prop := fun S w v => v = .bool r
set_option maxHeartbeats 4000000 in
set_option maxRecDepth 100000 in
theorem ref17_Valid_ok {w0 : World} {S0 : Nat → Prop} {p2 : Option Addr} {k3 : Nat} {n1 : (List Int)} {r : Bool} (hsh : ref17_Valid n1 = some r) (hS : ∀ b, S0 b → b < w0.heap.size) (h4 : (SlA p2 n1.length k3 n1).p S0 w0) : Calls Try.prog 78 #[.slice p2 n1.length k3] w0 (Ret ([]) w0 S0 (ref17_Valid_rd w0 ([]) r)) := by
 refine calls_of_wp Try.func78 rfl ?_
 have hs := Sl.enter #[.slice p2 n1.length k3] 33 [(0, .slice p2 n1.length k3)] rfl ⟨rfl, trivial⟩
 have hw := Wd.enter (E := []) hS (fun _ h => (by cases h))
 have hw := hw.addE h4
 delta ref17_Valid at hsh
 refine sr ?_
 refine av hs rfl rfl fun a hs => ?_
 refine nl ?_
 refine wp_seq ?_
 refine sr ?_
 refine av hs rfl rfl fun a hs => ?_
 refine nl ?_
 refine wp_block ?_
 refine wp_while (fun sv82 a w => ∃ (Sv132 : Nat → Prop), Sl 33 [(0, .slice p2 n1.length k3), (3, .int .i64 sv82)] a ∧ Wd ⟨w0, S0, []⟩ Sv132 [] [SlA p2 n1.length k3 n1] w) 0 hsh ⟨S0, (hs.wk rfl), (hw.ft [] [0] (by decide) rfl rfl)⟩ ?_
 repeat clear hsh
 rintro sv82 a w tv158 ⟨Sv132, hs, hw⟩ hsh hd157
 delta ref17_Valid_l2 at hsh
 refine wp_seq ?_
 refine sr ?_
 refine mv hs rfl rfl fun a hs => ?_
 refine mv hs rfl rfl fun a hs => ?_
 refine sv hs (y_len Try.runUnderlying29 rfl) rfl fun a hs => ?_
 refine sv hs (y_lss rfl rfl) rfl fun a hs => ?_
 refine nl ?_
 refine wp_cond_split (hs.ev rfl) (fun h162 => ?_) (fun h162 => ?_)
 ·have hsh := ite_t hsh h162
  refine wp_skip ?_
  refine then_normal ?_
  refine wp_seq ?_
  refine wp_block ?_
  refine sr ?_
  refine mv hs rfl rfl fun a hs => ?_
  refine mv hs rfl rfl fun a hs => ?_
  obtain ⟨x186, h184, hsh⟩ := bind_t hsh
  obtain ⟨b192, o193, q190, c191, h194, h187, h188, h189, h185⟩ := hw.elemV 0 rfl h184
  have hsv195 := hs
  have hwv196 := hw
  subst h194
  have hs := hsv195
  have hw := hwv196
  obtain ⟨_, rfl, rfl⟩ := h185
  have hw := hw.addE h189
  refine sv hs (y_indexAt Try.runUnderlying29 Try.sizeOf3 rfl rfl h187.1 h187.2 h188) rfl fun a hs => ?_
  refine sv hs (y_loadE1 (j := 0) (hw.ceAt 0 rfl) rfl Try.isAgg3 rfl) rfl fun a hs => ?_
  obtain ⟨rv198, h197, hsh⟩ := bind_t hsh
  refine st_callR hs (ref01_In_ok h197 hw.bdom) (do_call Try.call56 rfl) trivial rfl rfl ?_
  intro v202 Sv199 w a h200 h201 hs
  subst h201
  have hw := hw.callB h200
  refine sv hs (y_not rfl) rfl fun a hs => ?_
  refine nl ?_
  refine wp_cond_split (hs.ev rfl) (fun h205 => ?_) (fun h205 => ?_)
  ·have hsh := ite_t hsh h205
   refine sr ?_
   refine av hs rfl rfl fun a hs => ?_
   refine nl ?_
   have hsh := oi hsh
   subst hsh
   have h206 := hd157 _ rfl
   subst h206
   refine wp_ret ?_
   refine blk_ret ?_
   refine then_ret ?_
   refine then_ret ?_
   refine blk_ret ?_
   refine then_ret ?_
   exact ret1 hs rfl (rv_tmp rfl) (hw.ret rfl)
  have hsh := ite_f hsh h205
  refine wp_skip ?_
  refine blk_normal ?_
  refine then_normal ?_
  refine wp_region_lit ?_
  refine mv hs rfl rfl fun a hs => ?_
  refine sv hs (y_add rfl rfl) rfl fun a hs => ?_
  obtain ⟨i208, h207, hsh⟩ := bind_t hsh
  refine sv hs (y_assignI rfl h207) rfl fun a hs => ?_
  refine nl ?_
  exact ⟨_, (Option.some.inj hsh).symm, Sv132, (hs.wk rfl), (hw.ft [] [1] (by decide) rfl rfl)⟩
 have hsh := ite_f hsh h162
 obtain ⟨rv270, hsh, h271⟩ := map_t hsh
 have h271 := (hd157 _ h271.symm).symm
 subst h271
 refine wp_exit ?_
 refine then_exit ?_
 refine then_exit ?_
 refine blk_exit ?_
 refine then_normal ?_
 refine sr ?_
 refine mv hs rfl rfl fun a hs => ?_
 refine sv hs (y_len Try.runUnderlying29 rfl) rfl fun a hs => ?_
 refine sv hs (y_leq rfl rfl) rfl fun a hs => ?_
 refine mv hs rfl rfl fun a hs => ?_
 obtain ⟨c239, hc239, hsh⟩ := bind_t hsh
 refine wpl_join 13 (fun a w => ∃ (Sv240 : Nat → Prop), Sl 33 [(32, .bool c239)] a ∧ Wd ⟨w0, S0, []⟩ Sv240 [] [] w) ?_ ?_
 ·rcases Bool.eq_false_or_eq_true (decide ((n1.length : Int) ≤ 64)) with h238 | h238
  ·have hs := hs.fix 19 (.bool true) rfl (vb h238)
   have hsh := ite_t hc239 h238
   refine st_val hs (y_move rfl) ⟨_, rfl, rfl⟩ rfl rfl fun a hs => ?_
   refine st_val hs (y_len Try.runUnderlying29 rfl) ⟨_, rfl, rfl⟩ rfl rfl fun a hs => ?_
   refine st_val hs (y_eql rfl rfl) ⟨_, rfl, rfl⟩ rfl rfl fun a hs => ?_
   refine st_val hs (y_move rfl) ⟨_, rfl, rfl⟩ rfl rfl fun a hs => ?_
   obtain ⟨c255, hc255, hsh⟩ := bind_t hsh
   refine wpl_join 8 (fun a w => ∃ (Sv256 : Nat → Prop), Sl 33 [(19, .bool true), (31, .bool c255)] a ∧ Wd ⟨w0, S0, []⟩ Sv256 [] [] w) ?_ ?_
   ·rcases Bool.eq_false_or_eq_true ((n1.length : Int) == 0) with h254 | h254
    ·have hs := hs.fix 23 (.bool true) rfl (vb h254)
     have hsh := ite_t hc255 h254
     refine st_skip hs rfl rfl rfl rfl rfl fun a hs => ?_
     refine st_skip hs rfl rfl rfl rfl rfl fun a hs => ?_
     refine st_skip hs rfl rfl rfl rfl rfl fun a hs => ?_
     refine st_skip hs rfl rfl rfl rfl rfl fun a hs => ?_
     refine st_skip hs rfl rfl rfl rfl rfl fun a hs => ?_
     refine st_skip hs rfl rfl rfl rfl rfl fun a hs => ?_
     refine st_skip hs rfl rfl rfl rfl rfl fun a hs => ?_
     refine st_val hs (y_pickT rfl rfl) ⟨_, rfl, rfl⟩ rfl rfl fun a hs => ?_
     refine wpList_nil ?_
     have hsh := oi hsh
     subst hsh
     refine then_normal ?_
     exact ⟨Sv132, (hs.wk rfl), (hw.ft [] [] (by decide) rfl rfl)⟩
    have hs := hs.fix 23 (.bool false) rfl (vb h254)
    have hsh := ite_f hc255 h254
    refine st_val hs (y_move rfl) ⟨_, rfl, rfl⟩ rfl rfl fun a hs => ?_
    refine st_val hs (y_move rfl) ⟨_, rfl, rfl⟩ rfl rfl fun a hs => ?_
    refine st_val hs (y_len Try.runUnderlying29 rfl) ⟨_, rfl, rfl⟩ rfl rfl fun a hs => ?_
    refine st_val hs (y_sub rfl rfl) ⟨_, rfl, rfl⟩ rfl rfl fun a hs => ?_
    obtain ⟨x259, h257, hsh⟩ := bind_t hsh
    obtain ⟨b265, o266, q263, c264, h267, h260, h261, h262, h258⟩ := hw.elemV 0 rfl h257
    have hsv268 := hs
    have hwv269 := hw
    subst h267
    have hs := hsv268
    have hw := hwv269
    obtain ⟨_, rfl, rfl⟩ := h258
    have hw := hw.addE h262
    refine st_val hs (y_indexAt Try.runUnderlying29 Try.sizeOf3 rfl rfl h260.1 h260.2 h261) ⟨_, rfl, rfl⟩ rfl rfl fun a hs => ?_
    refine st_val hs (y_loadE1 (j := 0) (hw.ceAt 0 rfl) rfl Try.isAgg3 rfl) ⟨_, rfl, rfl⟩ rfl rfl fun a hs => ?_
    refine st_val hs (y_neq rfl rfl) ⟨_, rfl, rfl⟩ rfl rfl fun a hs => ?_
    refine st_val hs (y_pickF rfl rfl) ⟨_, rfl, rfl⟩ rfl rfl fun a hs => ?_
    refine wpList_nil ?_
    have hsh := oi hsh
    subst hsh
    refine then_normal ?_
    exact ⟨Sv132, (hs.wk rfl), (hw.ft [] [] (by decide) rfl rfl)⟩
   rintro a w ⟨Sv256, hs, hw⟩
   refine sv hs (y_pickT rfl rfl) rfl fun a hs => ?_
   refine wpList_nil ?_
   have hsh := oi hsh
   subst hsh
   refine then_normal ?_
   exact ⟨Sv256, (hs.wk rfl), (hw.ft [] [] (by decide) rfl rfl)⟩
  have hs := hs.fix 19 (.bool false) rfl (vb h238)
  have hsh := ite_f hc239 h238
  refine st_skip hs rfl rfl rfl rfl rfl fun a hs => ?_
  refine st_skip hs rfl rfl rfl rfl rfl fun a hs => ?_
  refine st_skip hs rfl rfl rfl rfl rfl fun a hs => ?_
  refine st_skip hs rfl rfl rfl rfl rfl fun a hs => ?_
  refine st_skipU hs rfl rfl rfl rfl rfl fun a hs => ?_
  refine st_skipU hs rfl rfl rfl rfl rfl fun a hs => ?_
  refine st_skipU hs rfl rfl rfl rfl rfl fun a hs => ?_
  refine st_skipU hs rfl rfl rfl rfl rfl fun a hs => ?_
  refine st_skipU hs rfl rfl rfl rfl rfl fun a hs => ?_
  refine st_skipU hs rfl rfl rfl rfl rfl fun a hs => ?_
  refine st_skipU hs rfl rfl rfl rfl rfl fun a hs => ?_
  refine st_skip hs rfl rfl rfl rfl rfl fun a hs => ?_
  refine sv hs (y_pickF rfl rfl) rfl fun a hs => ?_
  refine wpList_nil ?_
  have hsh := oi hsh
  subst hsh
  refine then_normal ?_
  exact ⟨Sv132, (hs.wk rfl), (hw.ft [] [] (by decide) rfl rfl)⟩
 rintro a w ⟨Sv240, hs, hw⟩
 refine av hs rfl rfl fun a hs => ?_
 refine nl ?_
 have hsh := oi hsh
 subst hsh
 refine wp_ret ?_
 exact ret1 hs rfl (rv_tmp rfl) (hw.ret rfl)

abbrev ref17_ValidFraction_rd (w0 : World) (X : List Nat) (r : Bool) : (Nat → Prop) → World → Value → Prop := fun S w v => v = .bool r
set_option maxHeartbeats 4000000 in
set_option maxRecDepth 100000 in
theorem ref17_ValidFraction_ok {w0 : World} {S0 : Nat → Prop} {p2 : Option Addr} {k3 : Nat} {p4 : Option Addr} {k5 : Nat} {f1 : Fraction} {r : Bool} (hsh : ref17_ValidFraction f1 = some r) (hS : ∀ b, S0 b → b < w0.heap.size) (h6 : (SlA p2 f1.Num.length k3 f1.Num).p S0 w0) (h7 : (SlA p4 f1.Den.length k5 f1.Den).p S0 w0) : Calls Try.prog 44 #[.agg #[.slice p2 f1.Num.length k3, .slice p4 f1.Den.length k5]] w0 (Ret ([]) w0 S0 (ref17_ValidFraction_rd w0 ([]) r)) := by
 refine calls_of_wp Try.func44 rfl ?_
 have hs := Sl.enter #[.agg #[.slice p2 f1.Num.length k3, .slice p4 f1.Den.length k5]] 17 [(0, .agg #[.slice p2 f1.Num.length k3, .slice p4 f1.Den.length k5])] rfl ⟨rfl, trivial⟩
 have hw := Wd.enter (E := []) hS (fun _ h => (by cases h))
 have hw := hw.addE h6
 have hw := hw.addE h7
 delta ref17_ValidFraction at hsh
 refine sr ?_
 refine w_box (cs := [.slice p2 f1.Num.length k3, .slice p4 f1.Den.length k5]) hs hw rfl rfl rfl trivial ?_
 intro b8 a w hs hw
 refine av hs rfl rfl fun a hs => ?_
 refine nl ?_
 refine sr ?_
 refine sv hs (y_fieldAddr (o' := 0) Try.runUnderlying31 rfl Try.sizeOf29 rfl rfl rfl) rfl fun a hs => ?_
 refine sv hs (y_loadB1 (hw.ownAt 0 rfl) rfl Try.isAgg29 rfl) rfl fun a hs => ?_
 obtain ⟨rv10, h9, hsh⟩ := bind_t hsh
 refine st_callR hs (ref17_Valid_ok h9 hw.bdom (hw.bE 1 rfl)) (do_call Try.call78 rfl) trivial rfl rfl ?_
 intro v14 Sv11 w a h12 h13 hs
 subst h13
 have hw := hw.callB h12
 refine mv hs rfl rfl fun a hs => ?_
 obtain ⟨c24, hc24, hsh⟩ := bind_t hsh
 refine wpl_join 4 (fun a w => ∃ (Sv25 : Nat → Prop), Sl 17 [(1, .pointer (some ⟨b8, 0, none⟩)), (10, .bool c24)] a ∧ Wd ⟨w0, S0, []⟩ Sv25 [.box b8 [.slice p2 f1.Num.length k3, .slice p4 f1.Den.length k5] 31] [SlA p2 f1.Num.length k3 f1.Num, SlA p4 f1.Den.length k5 f1.Den] w) ?_ ?_
 ·rcases Bool.eq_false_or_eq_true rv10 with h23 | h23
  ·have hs := hs.fix 6 (.bool true) rfl (vb h23)
   have hsh := ite_t hc24 h23
   refine st_val hs (y_fieldAddr (o' := 1) Try.runUnderlying31 rfl Try.sizeOf29 rfl rfl rfl) ⟨_, rfl, rfl⟩ rfl rfl fun a hs => ?_
   refine st_val hs (y_loadB1 (hw.ownAt 0 rfl) rfl Try.isAgg29 rfl) ⟨_, rfl, rfl⟩ rfl rfl fun a hs => ?_
   obtain ⟨rv27, h26, hsh⟩ := bind_t hsh
   refine st_callR hs (ref17_Valid_ok h26 hw.bdom (hw.bE 0 rfl)) (do_call Try.call78 rfl) ⟨_, rfl, rfl⟩ rfl rfl ?_
   intro v31 Sv28 w a h29 h30 hs
   subst h30
   have hw := hw.callB h29
   refine sv hs (y_pickT rfl rfl) rfl fun a hs => ?_
   refine wpList_nil ?_
   have hsh := oi hsh
   subst hsh
   refine then_normal ?_
   exact ⟨S0, (hs.wk rfl), (hw.ft [0] [1, 0] (by decide) rfl rfl)⟩
  have hs := hs.fix 6 (.bool false) rfl (vb h23)
  have hsh := ite_f hc24 h23
  refine st_skip hs rfl rfl rfl rfl rfl fun a hs => ?_
  refine st_skip hs rfl rfl rfl rfl rfl fun a hs => ?_
  refine st_skip hs rfl rfl rfl rfl rfl fun a hs => ?_
  refine sv hs (y_pickF rfl rfl) rfl fun a hs => ?_
  refine wpList_nil ?_
  have hsh := oi hsh
  subst hsh
  refine then_normal ?_
  exact ⟨S0, (hs.wk rfl), (hw.ft [0] [1, 0] (by decide) rfl rfl)⟩
 rintro a w ⟨Sv25, hs, hw⟩
 refine mv hs rfl rfl fun a hs => ?_
 refine wpl_join 5 (fun a w1 => w = w1 ∧ Sl 17 [(16, .bool (c24 && (decide (0 < (f1.Den.length : Int)))))] a) ?_ ?_
 ·rcases Bool.eq_false_or_eq_true c24 with h33 | h33
  ·have hs := hs.fix 11 (.bool true) rfl (vb h33)
   refine st_val hs (y_fieldAddr (o' := 1) Try.runUnderlying31 rfl Try.sizeOf29 rfl rfl rfl) ⟨_, rfl, rfl⟩ rfl rfl fun a hs => ?_
   refine st_val hs (y_loadB1 (hw.ownAt 0 rfl) rfl Try.isAgg29 rfl) ⟨_, rfl, rfl⟩ rfl rfl fun a hs => ?_
   refine st_val hs (y_len Try.runUnderlying29 rfl) ⟨_, rfl, rfl⟩ rfl rfl fun a hs => ?_
   refine st_val hs (y_gtr rfl rfl) ⟨_, rfl, rfl⟩ rfl rfl fun a hs => ?_
   refine sv hs (y_pickT rfl rfl) rfl fun a hs => ?_
   refine nl ?_
   exact ⟨rfl, (hs.fix 16 (.bool (c24 && (decide (0 < (f1.Den.length : Int))))) rfl (and_t h33)).weaken _ ⟨rfl, trivial⟩⟩
  have hs := hs.fix 11 (.bool false) rfl (vb h33)
  refine st_skip hs rfl rfl rfl rfl rfl fun a hs => ?_
  refine st_skip hs rfl rfl rfl rfl rfl fun a hs => ?_
  refine st_skip hs rfl rfl rfl rfl rfl fun a hs => ?_
  refine st_skip hs rfl rfl rfl rfl rfl fun a hs => ?_
  refine sv hs (y_pickF rfl rfl) rfl fun a hs => ?_
  refine nl ?_
  exact ⟨rfl, (hs.fix 16 (.bool (c24 && (decide (0 < (f1.Den.length : Int))))) rfl (and_f h33)).weaken _ ⟨rfl, trivial⟩⟩
 rintro a w1 ⟨h34, hs⟩
 subst h34
 refine av hs rfl rfl fun a hs => ?_
 refine nl ?_
 have hsh := oi hsh
 subst hsh
 refine wp_ret ?_
 exact ret1 hs rfl (rv_tmp rfl) (hw.ret rfl)

abbrev ref17_trim_rd (w0 : World) (X : List Nat) (r : (List Int)) : (Nat → Prop) → World → Value → Prop := fun S w v => ∃ (p0_0 : Option Addr) (k0_0 : Nat), v = .slice p0_0 r.length k0_0 ∧ (SlA p0_0 r.length k0_0 r).p S w
set_option maxHeartbeats 4000000 in
set_option maxRecDepth 100000 in
theorem ref17_trim_ok {w0 : World} {S0 : Nat → Prop} {p2 : Option Addr} {k3 : Nat} {n1 : (List Int)} {r : (List Int)} (hsh : ref17_trim n1 = some r) (hS : ∀ b, S0 b → b < w0.heap.size) (h4 : (SlA p2 n1.length k3 n1).p S0 w0) : Calls Try.prog 79 #[.slice p2 n1.length k3] w0 (Ret ([]) w0 S0 (ref17_trim_rd w0 ([]) r)) := by
 refine calls_of_wp Try.func79 rfl ?_
 have hs := Sl.enter #[.slice p2 n1.length k3] 21 [(0, .slice p2 n1.length k3)] rfl ⟨rfl, trivial⟩
 have hw := Wd.enter (E := []) hS (fun _ h => (by cases h))
 have hw := hw.addE h4
 delta ref17_trim at hsh
 refine sr ?_
 refine av hs rfl rfl fun a hs => ?_
 refine nl ?_
 refine wp_seq ?_
 obtain ⟨e123, h171, hsh⟩ := bind_t hsh
 refine wp_join (fun a w => ∃ (p124 : Option Addr) (k125 : Nat) (Sv126 : Nat → Prop), Sl 21 [(0, .slice p124 e123.length k125)] a ∧ Wd ⟨w0, S0, []⟩ Sv126 [] [SlA p124 e123.length k125 e123] w) ?_ ?_
 ·refine wp_block ?_
  refine wp_while (fun sv5 a w => ∃ (p81 : Option Addr) (k82 : Nat) (Sv83 : Nat → Prop), Sl 21 [(0, .slice p81 sv5.length k82)] a ∧ Wd ⟨w0, S0, []⟩ Sv83 [] [SlA p81 sv5.length k82 sv5] w) n1 h171 ⟨p2, k3, S0, (hs.wk rfl), (hw.ft [] [0] (by decide) rfl rfl)⟩ ?_
  clear h171
  repeat clear hsh
  rintro sv5 a w tv121 ⟨p81, k82, Sv83, hs, hw⟩ hsh hd120
  delta ref17_trim_l1 at hsh
  refine wp_seq ?_
  refine sr ?_
  refine mv hs rfl rfl fun a hs => ?_
  refine sv hs (y_len Try.runUnderlying29 rfl) rfl fun a hs => ?_
  refine sv hs (y_gtr rfl rfl) rfl fun a hs => ?_
  refine mv hs rfl rfl fun a hs => ?_
  obtain ⟨c141, hc141, hsh⟩ := bind_t hsh
  refine wpl_join 8 (fun a w => ∃ (Sv142 : Nat → Prop), Sl 21 [(0, .slice p81 sv5.length k82), (14, .bool c141)] a ∧ Wd ⟨w0, S0, []⟩ Sv142 [] [SlA p81 sv5.length k82 sv5] w) ?_ ?_
  ·rcases Bool.eq_false_or_eq_true (decide (0 < (sv5.length : Int))) with h140 | h140
   ·have hs := hs.fix 6 (.bool true) rfl (vb h140)
    have hsh := ite_t hc141 h140
    refine st_val hs (y_move rfl) ⟨_, rfl, rfl⟩ rfl rfl fun a hs => ?_
    refine st_val hs (y_move rfl) ⟨_, rfl, rfl⟩ rfl rfl fun a hs => ?_
    refine st_val hs (y_len Try.runUnderlying29 rfl) ⟨_, rfl, rfl⟩ rfl rfl fun a hs => ?_
    refine st_val hs (y_sub rfl rfl) ⟨_, rfl, rfl⟩ rfl rfl fun a hs => ?_
    obtain ⟨x145, h143, hsh⟩ := bind_t hsh
    obtain ⟨b151, o152, q149, c150, h153, h146, h147, h148, h144⟩ := hw.elemV 0 rfl h143
    have hsv154 := hs
    have hwv155 := hw
    subst h153
    have hs := hsv154
    have hw := hwv155
    obtain ⟨_, rfl, rfl⟩ := h144
    have hw := hw.addE h148
    refine st_val hs (y_indexAt Try.runUnderlying29 Try.sizeOf3 rfl rfl h146.1 h146.2 h147) ⟨_, rfl, rfl⟩ rfl rfl fun a hs => ?_
    refine st_val hs (y_loadE1 (j := 0) (hw.ceAt 0 rfl) rfl Try.isAgg3 rfl) ⟨_, rfl, rfl⟩ rfl rfl fun a hs => ?_
    refine st_val hs (y_eql rfl rfl) ⟨_, rfl, rfl⟩ rfl rfl fun a hs => ?_
    refine sv hs (y_pickT rfl rfl) rfl fun a hs => ?_
    refine wpList_nil ?_
    have hsh := oi hsh
    subst hsh
    refine then_normal ?_
    exact ⟨Sv83, (hs.wk rfl), (hw.ft [] [1] (by decide) rfl rfl)⟩
   have hs := hs.fix 6 (.bool false) rfl (vb h140)
   have hsh := ite_f hc141 h140
   refine st_skip hs rfl rfl rfl rfl rfl fun a hs => ?_
   refine st_skip hs rfl rfl rfl rfl rfl fun a hs => ?_
   refine st_skip hs rfl rfl rfl rfl rfl fun a hs => ?_
   refine st_skip hs rfl rfl rfl rfl rfl fun a hs => ?_
   refine st_skip hs rfl rfl rfl rfl rfl fun a hs => ?_
   refine st_skip hs rfl rfl rfl rfl rfl fun a hs => ?_
   refine st_skip hs rfl rfl rfl rfl rfl fun a hs => ?_
   refine sv hs (y_pickF rfl rfl) rfl fun a hs => ?_
   refine wpList_nil ?_
   have hsh := oi hsh
   subst hsh
   refine then_normal ?_
   exact ⟨Sv83, (hs.wk rfl), (hw.ft [] [0] (by decide) rfl rfl)⟩
  rintro a w ⟨Sv142, hs, hw⟩
  refine nl ?_
  refine wp_cond_split (hs.ev rfl) (fun h157 => ?_) (fun h157 => ?_)
  ·have hsh := ite_t hsh h157
   refine wp_skip ?_
   refine then_normal ?_
   refine wp_block ?_
   refine wp_region_lit ?_
   refine mv hs rfl rfl fun a hs => ?_
   refine mv hs rfl rfl fun a hs => ?_
   refine sv hs (y_len Try.runUnderlying29 rfl) rfl fun a hs => ?_
   refine sv hs (y_sub rfl rfl) rfl fun a hs => ?_
   obtain ⟨l169, h164, hsh⟩ := bind_t hsh
   obtain ⟨p167, k168, h165, h166⟩ := sub_env (hw.envAt 0 rfl) h164
   have hw := hw.addE h165
   refine sv hs (y_slc Try.runUnderlying29 Try.sizeOf3 rfl (by exact rfl) ⟨_, rfl⟩ h166) rfl fun a hs => ?_
   refine av hs rfl rfl fun a hs => ?_
   refine wpList_nil ?_
   refine blk_normal ?_
   refine then_normal ?_
   exact ⟨_, (Option.some.inj hsh).symm, p167, k168, Sv142, (hs.wk rfl), (hw.ft [] [0] (by decide) rfl rfl)⟩
  have hsh := ite_f hsh h157
  refine wp_exit ?_
  refine then_exit ?_
  refine then_exit ?_
  refine blk_exit ?_
  have hsh := oi hsh
  subst hsh
  have h170 := hd120 _ rfl
  subst h170
  refine then_normal ?_
  exact ⟨p81, k82, Sv142, (hs.wk rfl), (hw.ft [] [0] (by decide) rfl rfl)⟩
 rintro a w ⟨p124, k125, Sv126, hs, hw⟩
 refine then_normal ?_
 refine sr ?_
 refine mv hs rfl rfl fun a hs => ?_
 refine av hs rfl rfl fun a hs => ?_
 refine nl ?_
 have hsh := oi hsh
 subst hsh
 refine wp_ret ?_
 exact ret1 hs rfl (rv_tmp rfl) (hw.ret ⟨p124, k125, rfl, (hw.envAt 0 rfl)⟩)

abbrev ref17_mul_rd (w0 : World) (X : List Nat) (r : (List Int)) : (Nat → Prop) → World → Value → Prop := fun S w v => ∃ (p0_0 : Option Addr) (k0_0 : Nat), v = .slice p0_0 r.length k0_0 ∧ (SlA p0_0 r.length k0_0 r).p S w
set_option maxHeartbeats 4000000 in
set_option maxRecDepth 100000 in
theorem ref17_mul_ok {w0 : World} {S0 : Nat → Prop} {p2 : Option Addr} {k3 : Nat} {p6 : Option Addr} {k7 : Nat} {a1 : (List Int)} {b5 : (List Int)} {r : (List Int)} (hsh : ref17_mul a1 b5 = some r) (hS : ∀ b, S0 b → b < w0.heap.size) (h4 : (SlA p2 a1.length k3 a1).p S0 w0) (h8 : (SlA p6 b5.length k7 b5).p S0 w0) : Calls Try.prog 46 #[.slice p2 a1.length k3, .slice p6 b5.length k7] w0 (Ret ([]) w0 S0 (ref17_mul_rd w0 ([]) r)) := by
 refine calls_of_wp Try.func46 rfl ?_
 have hs := Sl.enter #[.slice p2 a1.length k3, .slice p6 b5.length k7] 65 [(0, .slice p2 a1.length k3), (1, .slice p6 b5.length k7)] rfl ⟨rfl, rfl, trivial⟩
 have hw := Wd.enter (E := []) hS (fun _ h => (by cases h))
 have hw := hw.addE h4
 have hw := hw.addE h8
 delta ref17_mul at hsh
 refine sr ?_
 refine av hs rfl rfl fun a hs => ?_
 refine nl ?_
 refine sr ?_
 refine mv hs rfl rfl fun a hs => ?_
 refine sv hs (y_len Try.runUnderlying29 rfl) rfl fun a hs => ?_
 refine mv hs rfl rfl fun a hs => ?_
 refine sv hs (y_len Try.runUnderlying29 rfl) rfl fun a hs => ?_
 refine sv hs (y_add rfl rfl) rfl fun a hs => ?_
 obtain ⟨l10, h9, hsh⟩ := bind_t hsh
 refine w_make (α := Int) hs hw El29 ⟨_, rfl, rfl⟩ rfl rfl h9 rfl trivial ?_
 intro p11 c12 a w hs hw
 refine av hs rfl rfl fun a hs => ?_
 refine nl ?_
 refine wp_seq ?_
 refine sr ?_
 refine av hs rfl rfl fun a hs => ?_
 refine nl ?_
 obtain ⟨e688, h1307, hsh⟩ := bind_t hsh
 refine wp_join (fun a w => ∃ (c689 : List Value) (p690 : Option Addr) (k691 : Nat) (Sv692 : Nat → Prop), Sl 65 [(5, .slice p690 e688.length k691)] a ∧ Wd ⟨w0, S0, []⟩ Sv692 [.row p690 e688.length k691 c689 3 1] [RowA c689 e688] w) ?_ ?_
 ·refine wp_block ?_
  refine wp_while (fun sv13 a w => ∃ (c460 : List Value) (p461 : Option Addr) (k462 : Nat) (Sv463 : Nat → Prop), Sl 65 [(0, .slice p2 a1.length k3), (1, .slice p6 b5.length k7), (5, .slice p461 sv13.1.length k462), (6, .int .i64 sv13.2)] a ∧ Wd ⟨w0, S0, []⟩ Sv463 [.row p461 sv13.1.length k462 c460 3 1] [SlA p2 a1.length k3 a1, SlA p6 b5.length k7 b5, RowA c460 sv13.1] w) (l10, 0) h1307 ⟨c12, p11, l10.length, S0, (hs.wk rfl), (hw.ft [0] [2, 1, 0] (by decide) rfl rfl)⟩ ?_
  clear h1307
  repeat clear hsh
  rintro sv13 a w tv686 ⟨c460, p461, k462, Sv463, hs, hw⟩ hsh hd685
  delta ref17_mul_l3 at hsh
  refine wp_seq ?_
  refine sr ?_
  refine mv hs rfl rfl fun a hs => ?_
  refine mv hs rfl rfl fun a hs => ?_
  refine sv hs (y_len Try.runUnderlying29 rfl) rfl fun a hs => ?_
  refine sv hs (y_lss rfl rfl) rfl fun a hs => ?_
  refine nl ?_
  refine wp_cond_split (hs.ev rfl) (fun h694 => ?_) (fun h694 => ?_)
  ·have hsh := ite_t hsh h694
   refine wp_skip ?_
   refine then_normal ?_
   refine wp_seq ?_
   refine wp_block ?_
   refine sr ?_
   refine av hs rfl rfl fun a hs => ?_
   refine nl ?_
   refine sr ?_
   refine av hs rfl rfl fun a hs => ?_
   refine nl ?_
   obtain ⟨e1126, h1294, hsh⟩ := bind_t hsh
   refine wp_join (fun a w => ∃ (c1127 : List Value) (p1128 : Option Addr) (k1129 : Nat) (Sv1130 : Nat → Prop), Sl 65 [(0, .slice p2 a1.length k3), (1, .slice p6 b5.length k7), (5, .slice p1128 e1126.length k1129), (6, .int .i64 sv13.2)] a ∧ Wd ⟨w0, S0, []⟩ Sv1130 [.row p1128 e1126.length k1129 c1127 3 1] [SlA p2 a1.length k3 a1, SlA p6 b5.length k7 b5, RowA c1127 e1126] w) ?_ ?_
   ·refine wp_block ?_
    refine wp_while (fun sv913 a w => ∃ (c1052 : List Value) (p1053 : Option Addr) (k1054 : Nat) (Sv1055 : Nat → Prop), Sl 65 [(0, .slice p2 a1.length k3), (1, .slice p6 b5.length k7), (5, .slice p1053 sv913.1.length k1054), (6, .int .i64 sv13.2), (7, .int .i64 sv913.2.1), (8, .int .i64 sv913.2.2)] a ∧ Wd ⟨w0, S0, []⟩ Sv1055 [.row p1053 sv913.1.length k1054 c1052 3 1] [SlA p2 a1.length k3 a1, SlA p6 b5.length k7 b5, RowA c1052 sv913.1] w) (sv13.1, 0, 0) h1294 ⟨c460, p461, k462, Sv463, (hs.wk rfl), (hw.ft [0] [0, 1, 2] (by decide) rfl rfl)⟩ ?_
    clear h1294
    repeat clear hsh
    rintro sv913 a w tv1124 ⟨c1052, p1053, k1054, Sv1055, hs, hw⟩ hsh hd1123
    delta ref17_mul_l6 at hsh
    refine wp_seq ?_
    refine sr ?_
    refine mv hs rfl rfl fun a hs => ?_
    refine mv hs rfl rfl fun a hs => ?_
    refine sv hs (y_len Try.runUnderlying29 rfl) rfl fun a hs => ?_
    refine sv hs (y_lss rfl rfl) rfl fun a hs => ?_
    refine mv hs rfl rfl fun a hs => ?_
    refine wpl_join 3 (fun a w1 => w = w1 ∧ Sl 65 [(0, .slice p2 a1.length k3), (1, .slice p6 b5.length k7), (5, .slice p1053 sv913.1.length k1054), (6, .int .i64 sv13.2), (7, .int .i64 sv913.2.1), (8, .int .i64 sv913.2.2), (28, .bool ((decide (sv913.2.2 < (b5.length : Int))) || (decide (0 < sv913.2.1))))] a) ?_ ?_
    ·rcases Bool.eq_false_or_eq_true (decide (sv913.2.2 < (b5.length : Int))) with h1131 | h1131
     ·have hs := hs.fix 25 (.bool true) rfl (vb h1131)
      refine st_skip hs rfl rfl rfl rfl rfl fun a hs => ?_
      refine st_skip hs rfl rfl rfl rfl rfl fun a hs => ?_
      refine sv hs (y_pickT rfl rfl) rfl fun a hs => ?_
      refine nl ?_
      exact ⟨rfl, (hs.fix 28 (.bool ((decide (sv913.2.2 < (b5.length : Int))) || (decide (0 < sv913.2.1)))) rfl (or_t h1131)).weaken _ ⟨rfl, rfl, rfl, rfl, rfl, rfl, rfl, trivial⟩⟩
     have hs := hs.fix 25 (.bool false) rfl (vb h1131)
     refine st_val hs (y_move rfl) ⟨_, rfl, rfl⟩ rfl rfl fun a hs => ?_
     refine st_val hs (y_gtr rfl rfl) ⟨_, rfl, rfl⟩ rfl rfl fun a hs => ?_
     refine sv hs (y_pickF rfl rfl) rfl fun a hs => ?_
     refine nl ?_
     exact ⟨rfl, (hs.fix 28 (.bool ((decide (sv913.2.2 < (b5.length : Int))) || (decide (0 < sv913.2.1)))) rfl (or_f h1131)).weaken _ ⟨rfl, rfl, rfl, rfl, rfl, rfl, rfl, trivial⟩⟩
    rintro a w1 ⟨h1291, hs⟩
    subst h1291
    refine nl ?_
    refine wp_cond_split (hs.ev rfl) (fun h1133 => ?_) (fun h1133 => ?_)
    ·have hsh := ite_t hsh h1133
     refine wp_skip ?_
     refine then_normal ?_
     refine wp_seq ?_
     refine wp_block ?_
     refine sr ?_
     refine mv hs rfl rfl fun a hs => ?_
     refine mv hs rfl rfl fun a hs => ?_
     refine mv hs rfl rfl fun a hs => ?_
     refine mv hs rfl rfl fun a hs => ?_
     refine sv hs (y_add rfl rfl) rfl fun a hs => ?_
     obtain ⟨x1198, h1196, hsh⟩ := bind_t hsh
     obtain ⟨b1205, q1202, c1203, h1206, h1199, h1200, h1204, h1197⟩ := hw.elemRV (α := Int) 0 rfl 2 rfl h1196
     have hsv1207 := hs
     have hwv1208 := hw
     subst h1206
     have hs := hsv1207
     have hw := hwv1208
     obtain ⟨_, rfl, rfl⟩ := h1197
     refine sv hs (y_indexAt Try.runUnderlying29 Try.sizeOf3 rfl rfl h1199.1 h1199.2 h1200) rfl fun a hs => ?_
     refine sv hs (y_loadQ1 (j := 0) (hw.ownAt 0 rfl) rfl Try.isAgg3 h1204 rfl) rfl fun a hs => ?_
     refine sv hs (y_add rfl rfl) rfl fun a hs => ?_
     obtain ⟨carry1210, h1209, hsh⟩ := bind_t hsh
     refine sv hs (y_assignI rfl h1209) rfl fun a hs => ?_
     refine nl ?_
     refine wp_seq ?_
     refine sr ?_
     refine mv hs rfl rfl fun a hs => ?_
     refine mv hs rfl rfl fun a hs => ?_
     refine sv hs (y_len Try.runUnderlying29 rfl) rfl fun a hs => ?_
     refine sv hs (y_lss rfl rfl) rfl fun a hs => ?_
     refine nl ?_
     refine wp_join (fun a w => ∃ (carry1242 : Int) (Sv1241 : Nat → Prop), ref17_mul_j1 sv13 sv913 carry1242 = some tv1124 ∧ Sl 65 [(0, .slice p2 a1.length k3), (1, .slice p6 b5.length k7), (5, .slice (some ⟨b1205, 0, none⟩) sv913.1.length k1054), (6, .int .i64 sv13.2), (7, .int .i64 carry1242), (8, .int .i64 sv913.2.2)] a ∧ Wd ⟨w0, S0, []⟩ Sv1241 [.row (some ⟨b1205, 0, none⟩) sv913.1.length k1054 c1052 3 1] [SlA p2 a1.length k3 a1, SlA p6 b5.length k7 b5, RowA c1052 sv913.1] w) ?_ ?_
     ·refine wp_cond_split (hs.ev rfl) (fun h1260 => ?_) (fun h1260 => ?_)
      ·have hsh := ite_t hsh h1260
       obtain ⟨x1263, h1261, hsh⟩ := bind_t hsh
       obtain ⟨b1269, o1270, q1267, c1268, h1271, h1264, h1265, h1266, h1262⟩ := hw.elemV 0 rfl h1261
       have hsv1272 := hs
       have hwv1273 := hw
       subst h1271
       have hs := hsv1272
       have hw := hwv1273
       obtain ⟨_, rfl, rfl⟩ := h1262
       have hw := hw.addE h1266
       obtain ⟨x1276, h1274, hsh⟩ := bind_t hsh
       obtain ⟨b1282, o1283, q1280, c1281, h1284, h1277, h1278, h1279, h1275⟩ := hw.elemV 2 rfl h1274
       have hsv1285 := hs
       have hwv1286 := hw
       subst h1284
       have hs := hsv1285
       have hw := hwv1286
       obtain ⟨_, rfl, rfl⟩ := h1275
       have hw := hw.addE h1279
       obtain ⟨carry1288, h1287, hsh⟩ := bind_t hsh
       refine wp_only (fun a w => ∃ (Sv1289 : Nat → Prop), Sl 65 [(0, .slice (some ⟨b1269, o1270, none⟩) a1.length k3), (1, .slice (some ⟨b1282, o1283, none⟩) b5.length k7), (5, .slice (some ⟨b1205, 0, none⟩) sv913.1.length k1054), (6, .int .i64 sv13.2), (7, .int .i64 carry1288), (8, .int .i64 sv913.2.2)] a ∧ Wd ⟨w0, S0, []⟩ Sv1289 [.row (some ⟨b1205, 0, none⟩) sv913.1.length k1054 c1052 3 1] [SlA (some ⟨b1269, o1270, none⟩) a1.length k3 a1, SlA (some ⟨b1282, o1283, none⟩) b5.length k7 b5, RowA c1052 sv913.1] w) ?_ ?_
       ·refine h_b (C := Cls [.row (some ⟨b1205, 0, none⟩) sv913.1.length k1054 c1052 3 1] [CeA b1282 q1280 [.int .i64 x1276], CeA b1269 q1267 [.int .i64 x1263]]) (by kernel_rfl) rfl (hw.drew.cs [0] [0, 1] rfl rfl) fun hC => ?_
        have hw := hw.drew
        refine gm hs 0 rfl rfl rfl hC fun a hs => ?_
        refine gm hs 1 rfl rfl rfl hC fun a hs => ?_
        refine gm hs 2 rfl rfl rfl hC fun a hs => ?_
        refine gv hs 3 rfl rfl hC (fun w hC => y_indexAt Try.runUnderlying29 Try.sizeOf3 rfl rfl h1264.1 h1264.2 h1265) fun a hs => ?_
        refine gv hs 4 rfl rfl hC (fun w hC => y_loadE1 (j := 0) (hC.ceAt 1 rfl) rfl Try.isAgg3 rfl) fun a hs => ?_
        refine gm hs 5 rfl rfl rfl hC fun a hs => ?_
        refine gm hs 6 rfl rfl rfl hC fun a hs => ?_
        refine gv hs 7 rfl rfl hC (fun w hC => y_indexAt Try.runUnderlying29 Try.sizeOf3 rfl rfl h1277.1 h1277.2 h1278) fun a hs => ?_
        refine gv hs 8 rfl rfl hC (fun w hC => y_loadE1 (j := 0) (hC.ceAt 0 rfl) rfl Try.isAgg3 rfl) fun a hs => ?_
        refine gv hs 9 rfl rfl hC (fun w hC => y_mul rfl rfl) fun a hs => ?_
        refine gv hs 10 rfl rfl hC (fun w hC => y_add rfl rfl) fun a hs => ?_
        refine gv hs 11 rfl rfl hC (fun w hC => y_assignI rfl h1287) fun a hs => ?_
        refine h_done (by kernel_rfl) ?_
        exact ⟨Sv1055, (hs.wk rfl), (hw.ft [0] [2, 3, 4] (by decide) rfl rfl)⟩
       rintro a w ⟨Sv1289, hs, hw⟩
       refine then_normal ?_
       exact ⟨carry1288, Sv1289, hsh, (hs.wk rfl), (hw.ft [0] [0, 1, 2] (by decide) rfl rfl)⟩
      have hsh := ite_f hsh h1260
      refine wp_skip ?_
      refine then_normal ?_
      exact ⟨carry1210, Sv1055, hsh, (hs.wk rfl), (hw.ft [0] [0, 1, 2] (by decide) rfl rfl)⟩
     rintro a w ⟨carry1242, Sv1241, hsh, hs, hw⟩
     delta ref17_mul_j1 at hsh
     refine then_normal ?_
     refine sr ?_
     refine mv hs rfl rfl fun a hs => ?_
     refine mv hs rfl rfl fun a hs => ?_
     refine mv hs rfl rfl fun a hs => ?_
     refine sv hs (y_add rfl rfl) rfl fun a hs => ?_
     refine mv hs rfl rfl fun a hs => ?_
     refine sv hs (y_rem rfl rfl (by decide)) rfl fun a hs => ?_
     obtain ⟨x1245, h1243, hsh⟩ := bind_t hsh
     obtain ⟨q1249, c1250, h1246, h1247, h1251, h1244⟩ := hw.elemRK (α := Int) 0 rfl 2 rfl h1243
     obtain ⟨_, rfl, rfl⟩ := h1244
     refine sv hs (y_indexAt Try.runUnderlying29 Try.sizeOf3 rfl rfl h1246.1 h1246.2 h1247) rfl fun a hs => ?_
     obtain ⟨l1253, h1252, hsh⟩ := bind_t hsh
     refine w_storeF (α := Int) hs hw 0 rfl 2 rfl h1247 rfl rfl Try.sizeOf3 rfl h1252 ⟨_, rfl, rfl⟩ trivial ?_
     intro c1254 a w hs hw
     have h1255 := setM_len h1252
     try have hs := hs.fl 5 rfl h1255
     try have hs := hs.fl 54 rfl h1255
     refine nl ?_
     refine wp_region_lit ?_
     refine mv hs rfl rfl fun a hs => ?_
     refine sv hs (y_quo rfl rfl (by decide)) rfl fun a hs => ?_
     obtain ⟨carry1257, h1256, hsh⟩ := bind_t hsh
     refine sv hs (y_assignI rfl h1256) rfl fun a hs => ?_
     refine wpList_nil ?_
     refine blk_normal ?_
     refine then_normal ?_
     refine wp_region_lit ?_
     refine mv hs rfl rfl fun a hs => ?_
     refine sv hs (y_add rfl rfl) rfl fun a hs => ?_
     obtain ⟨k1259, h1258, hsh⟩ := bind_t hsh
     refine sv hs (y_assignI rfl h1258) rfl fun a hs => ?_
     refine nl ?_
     exact ⟨_, (Option.some.inj hsh).symm, c1254, (some ⟨b1205, 0, none⟩), k1054, Sv1241, (hs.wk rfl), (hw.ft [0] [1, 2, 0] (by decide) rfl rfl)⟩
    have hsh := ite_f hsh h1133
    refine wp_exit ?_
    refine then_exit ?_
    refine then_exit ?_
    refine blk_exit ?_
    have hsh := oi hsh
    subst hsh
    have h1290 := hd1123 _ rfl
    subst h1290
    refine then_normal ?_
    exact ⟨c1052, p1053, k1054, Sv1055, (hs.wk rfl), (hw.ft [0] [0, 1, 2] (by decide) rfl rfl)⟩
   rintro a w ⟨c1127, p1128, k1129, Sv1130, hs, hw⟩
   refine blk_normal ?_
   refine then_normal ?_
   refine wp_region_lit ?_
   refine mv hs rfl rfl fun a hs => ?_
   refine sv hs (y_add rfl rfl) rfl fun a hs => ?_
   obtain ⟨i1293, h1292, hsh⟩ := bind_t hsh
   refine sv hs (y_assignI rfl h1292) rfl fun a hs => ?_
   refine nl ?_
   exact ⟨_, (Option.some.inj hsh).symm, c1127, p1128, k1129, Sv1130, (hs.wk rfl), (hw.ft [0] [0, 1, 2] (by decide) rfl rfl)⟩
  have hsh := ite_f hsh h694
  refine wp_exit ?_
  refine then_exit ?_
  refine then_exit ?_
  refine blk_exit ?_
  have hsh := oi hsh
  subst hsh
  have h1295 := hd685 _ rfl
  subst h1295
  refine then_normal ?_
  exact ⟨c460, p461, k462, Sv463, (hs.wk rfl), (hw.ft [0] [2] (by decide) rfl rfl)⟩
 rintro a w ⟨c689, p690, k691, Sv692, hs, hw⟩
 refine then_normal ?_
 refine sr ?_
 refine mv hs rfl rfl fun a hs => ?_
 obtain ⟨rv1297, h1296, hsh⟩ := bind_t hsh
 obtain ⟨Sv1301, hw⟩ := w_share (α := Int) hw 0 rfl 0 rfl
 refine st_callR hs (ref17_trim_ok h1296 hw.dom (hw.envAt 0 rfl)) (do_call Try.call79 rfl) trivial rfl rfl ?_
 intro v1305 Sv1302 w a h1303 h1304 hs
 obtain ⟨p1298, k1299, rfl, h1300⟩ := h1304
 have hw := hw.call h1303
 have hw := hw.addE (e := SlA p1298 rv1297.length k1299 rv1297) h1300
 refine av hs rfl rfl fun a hs => ?_
 refine nl ?_
 have hsh := oi hsh
 subst hsh
 refine wp_ret ?_
 exact ret1 hs rfl (rv_tmp rfl) (hw.ret ⟨p1298, k1299, rfl, (hw.envAt 0 rfl)⟩)

abbrev ref17_compare_rd (w0 : World) (X : List Nat) (r : Int) : (Nat → Prop) → World → Value → Prop := fun S w v => v = .int .i64 r
set_option maxHeartbeats 4000000 in
set_option maxRecDepth 100000 in
theorem ref17_compare_ok {w0 : World} {S0 : Nat → Prop} {p2 : Option Addr} {k3 : Nat} {p6 : Option Addr} {k7 : Nat} {a1 : (List Int)} {b5 : (List Int)} {r : Int} (hsh : ref17_compare a1 b5 = some r) (hS : ∀ b, S0 b → b < w0.heap.size) (h4 : (SlA p2 a1.length k3 a1).p S0 w0) (h8 : (SlA p6 b5.length k7 b5).p S0 w0) : Calls Try.prog 45 #[.slice p2 a1.length k3, .slice p6 b5.length k7] w0 (Ret ([]) w0 S0 (ref17_compare_rd w0 ([]) r)) := by
 refine calls_of_wp Try.func45 rfl ?_
 have hs := Sl.enter #[.slice p2 a1.length k3, .slice p6 b5.length k7] 41 [(0, .slice p2 a1.length k3), (1, .slice p6 b5.length k7)] rfl ⟨rfl, rfl, trivial⟩
 have hw := Wd.enter (E := []) hS (fun _ h => (by cases h))
 have hw := hw.addE h4
 have hw := hw.addE h8
 delta ref17_compare at hsh
 refine sr ?_
 refine av hs rfl rfl fun a hs => ?_
 refine nl ?_
 refine wp_seq ?_
 refine sr ?_
 refine mv hs rfl rfl fun a hs => ?_
 refine sv hs (y_len Try.runUnderlying29 rfl) rfl fun a hs => ?_
 refine mv hs rfl rfl fun a hs => ?_
 refine sv hs (y_len Try.runUnderlying29 rfl) rfl fun a hs => ?_
 refine sv hs (y_neq rfl rfl) rfl fun a hs => ?_
 refine nl ?_
 refine wp_cond_split (hs.ev rfl) (fun h11 => ?_) (fun h11 => ?_)
 ·have hsh := ite_t hsh h11
  refine wp_seq ?_
  refine sr ?_
  refine mv hs rfl rfl fun a hs => ?_
  refine sv hs (y_len Try.runUnderlying29 rfl) rfl fun a hs => ?_
  refine mv hs rfl rfl fun a hs => ?_
  refine sv hs (y_len Try.runUnderlying29 rfl) rfl fun a hs => ?_
  refine sv hs (y_lss rfl rfl) rfl fun a hs => ?_
  refine nl ?_
  refine wp_cond_split (hs.ev rfl) (fun h13 => ?_) (fun h13 => ?_)
  ·have hsh := ite_t hsh h13
   refine sr ?_
   refine av hs rfl rfl fun a hs => ?_
   refine nl ?_
   have hsh := oi hsh
   subst hsh
   refine wp_ret ?_
   refine then_ret ?_
   refine then_ret ?_
   exact ret1 hs rfl (rv_tmp rfl) (hw.ret rfl)
  have hsh := ite_f hsh h13
  refine wp_skip ?_
  refine then_normal ?_
  refine sr ?_
  refine av hs rfl rfl fun a hs => ?_
  refine nl ?_
  have hsh := oi hsh
  subst hsh
  refine wp_ret ?_
  refine then_ret ?_
  exact ret1 hs rfl (rv_tmp rfl) (hw.ret rfl)
 have hsh := ite_f hsh h11
 refine wp_skip ?_
 refine then_normal ?_
 refine wp_seq ?_
 refine sr ?_
 refine mv hs rfl rfl fun a hs => ?_
 refine sv hs (y_len Try.runUnderlying29 rfl) rfl fun a hs => ?_
 refine sv hs (y_sub rfl rfl) rfl fun a hs => ?_
 obtain ⟨i15, h14, hsh⟩ := bind_t hsh
 refine sv hs (y_assignI rfl h14) rfl fun a hs => ?_
 refine nl ?_
 refine wp_block ?_
 refine wp_while (fun sv168 a w => ∃ (Sv268 : Nat → Prop), Sl 41 [(0, .slice p2 a1.length k3), (1, .slice p6 b5.length k7), (5, .int .i64 sv168)] a ∧ Wd ⟨w0, S0, []⟩ Sv268 [] [SlA p2 a1.length k3 a1, SlA p6 b5.length k7 b5] w) i15 hsh ⟨S0, (hs.wk rfl), (hw.ft [] [1, 0] (by decide) rfl rfl)⟩ ?_
 repeat clear hsh
 rintro sv168 a w tv319 ⟨Sv268, hs, hw⟩ hsh hd318
 delta ref17_compare_l2 at hsh
 refine wp_seq ?_
 refine sr ?_
 refine mv hs rfl rfl fun a hs => ?_
 refine sv hs (y_geq rfl rfl) rfl fun a hs => ?_
 refine nl ?_
 refine wp_cond_split (hs.ev rfl) (fun h323 => ?_) (fun h323 => ?_)
 ·have hsh := ite_t hsh h323
  refine wp_skip ?_
  refine then_normal ?_
  refine wp_seq ?_
  refine wp_block ?_
  refine wp_seq ?_
  obtain ⟨x372, h370, hsh⟩ := bind_t hsh
  obtain ⟨b378, o379, q376, c377, h380, h373, h374, h375, h371⟩ := hw.elemV 0 rfl h370
  have hsv381 := hs
  have hwv382 := hw
  subst h380
  have hs := hsv381
  have hw := hwv382
  obtain ⟨_, rfl, rfl⟩ := h371
  have hw := hw.addE h375
  obtain ⟨x385, h383, hsh⟩ := bind_t hsh
  obtain ⟨b391, o392, q389, c390, h393, h386, h387, h388, h384⟩ := hw.elemV 2 rfl h383
  have hsv394 := hs
  have hwv395 := hw
  subst h393
  have hs := hsv394
  have hw := hwv395
  obtain ⟨_, rfl, rfl⟩ := h384
  have hw := hw.addE h388
  refine wp_only (fun a w => ∃ (Sv396 : Nat → Prop), Sl 41 [(0, .slice (some ⟨b378, o379, none⟩) a1.length k3), (1, .slice (some ⟨b391, o392, none⟩) b5.length k7), (5, .int .i64 sv168), (31, .bool (x372 != x385))] a ∧ Wd ⟨w0, S0, []⟩ Sv396 [] [SlA (some ⟨b378, o379, none⟩) a1.length k3 a1, SlA (some ⟨b391, o392, none⟩) b5.length k7 b5] w) ?_ ?_
  ·refine h_b (C := Cls [] [CeA b391 q389 [.int .i64 x385], CeA b378 q376 [.int .i64 x372]]) (by kernel_rfl) rfl (hw.drew.cs [] [0, 1] rfl rfl) fun hC => ?_
   have hw := hw.drew
   refine gm hs 0 rfl rfl rfl hC fun a hs => ?_
   refine gm hs 1 rfl rfl rfl hC fun a hs => ?_
   refine gv hs 2 rfl rfl hC (fun w hC => y_indexAt Try.runUnderlying29 Try.sizeOf3 rfl rfl h373.1 h373.2 h374) fun a hs => ?_
   refine gv hs 3 rfl rfl hC (fun w hC => y_loadE1 (j := 0) (hC.ceAt 1 rfl) rfl Try.isAgg3 rfl) fun a hs => ?_
   refine gm hs 4 rfl rfl rfl hC fun a hs => ?_
   refine gm hs 5 rfl rfl rfl hC fun a hs => ?_
   refine gv hs 6 rfl rfl hC (fun w hC => y_indexAt Try.runUnderlying29 Try.sizeOf3 rfl rfl h386.1 h386.2 h387) fun a hs => ?_
   refine gv hs 7 rfl rfl hC (fun w hC => y_loadE1 (j := 0) (hC.ceAt 0 rfl) rfl Try.isAgg3 rfl) fun a hs => ?_
   refine gv hs 8 rfl rfl hC (fun w hC => y_neq rfl rfl) fun a hs => ?_
   refine h_done (by kernel_rfl) ?_
   exact ⟨Sv268, (hs.wk rfl), (hw.ft [] [2, 3] (by decide) rfl rfl)⟩
  rintro a w ⟨Sv396, hs, hw⟩
  refine then_normal ?_
  refine wp_cond_split (hs.ev rfl) (fun h416 => ?_) (fun h416 => ?_)
  ·have hsh := ite_t hsh h416
   refine wp_seq ?_
   refine wp_seq ?_
   obtain ⟨x419, h417, hsh⟩ := bind_t hsh
   obtain ⟨q423, c424, h420, h421, h422, h418⟩ := hw.elemK 0 rfl h417
   obtain ⟨_, rfl, rfl⟩ := h418
   have hw := hw.addE h422
   obtain ⟨x427, h425, hsh⟩ := bind_t hsh
   obtain ⟨q431, c432, h428, h429, h430, h426⟩ := hw.elemK 2 rfl h425
   obtain ⟨_, rfl, rfl⟩ := h426
   have hw := hw.addE h430
   refine wp_only (fun a w => ∃ (Sv433 : Nat → Prop), Sl 41 [(40, .bool (decide (x419 < x427)))] a ∧ Wd ⟨w0, S0, []⟩ Sv433 [] [] w) ?_ ?_
   ·refine h_b (C := Cls [] [CeA b391 q431 [.int .i64 x427], CeA b378 q423 [.int .i64 x419]]) (by kernel_rfl) rfl (hw.drew.cs [] [0, 1] rfl rfl) fun hC => ?_
    have hw := hw.drew
    refine gm hs 0 rfl rfl rfl hC fun a hs => ?_
    refine gm hs 1 rfl rfl rfl hC fun a hs => ?_
    refine gv hs 2 rfl rfl hC (fun w hC => y_indexAt Try.runUnderlying29 Try.sizeOf3 rfl rfl h420.1 h420.2 h421) fun a hs => ?_
    refine gv hs 3 rfl rfl hC (fun w hC => y_loadE1 (j := 0) (hC.ceAt 1 rfl) rfl Try.isAgg3 rfl) fun a hs => ?_
    refine gm hs 4 rfl rfl rfl hC fun a hs => ?_
    refine gm hs 5 rfl rfl rfl hC fun a hs => ?_
    refine gv hs 6 rfl rfl hC (fun w hC => y_indexAt Try.runUnderlying29 Try.sizeOf3 rfl rfl h428.1 h428.2 h429) fun a hs => ?_
    refine gv hs 7 rfl rfl hC (fun w hC => y_loadE1 (j := 0) (hC.ceAt 0 rfl) rfl Try.isAgg3 rfl) fun a hs => ?_
    refine gv hs 8 rfl rfl hC (fun w hC => y_lss rfl rfl) fun a hs => ?_
    refine h_done (by kernel_rfl) ?_
    exact ⟨Sv396, (hs.wk rfl), (hw.ft [] [] (by decide) rfl rfl)⟩
   rintro a w ⟨Sv433, hs, hw⟩
   refine then_normal ?_
   refine wp_cond_split (hs.ev rfl) (fun h435 => ?_) (fun h435 => ?_)
   ·have hsh := ite_t hsh h435
    refine sr ?_
    refine av hs rfl rfl fun a hs => ?_
    refine nl ?_
    have hsh := oi hsh
    subst hsh
    have h436 := hd318 _ rfl
    subst h436
    refine wp_ret ?_
    refine then_ret ?_
    refine blk_ret ?_
    refine then_ret ?_
    refine then_ret ?_
    refine blk_ret ?_
    refine then_ret ?_
    exact ret1 hs rfl (rv_tmp rfl) (hw.ret rfl)
   have hsh := ite_f hsh h435
   refine wp_skip ?_
   refine then_normal ?_
   refine sr ?_
   refine av hs rfl rfl fun a hs => ?_
   refine nl ?_
   have hsh := oi hsh
   subst hsh
   have h437 := hd318 _ rfl
   subst h437
   refine wp_ret ?_
   refine blk_ret ?_
   refine then_ret ?_
   refine then_ret ?_
   refine blk_ret ?_
   refine then_ret ?_
   exact ret1 hs rfl (rv_tmp rfl) (hw.ret rfl)
  have hsh := ite_f hsh h416
  refine wp_skip ?_
  refine blk_normal ?_
  refine then_normal ?_
  refine wp_region_lit ?_
  refine mv hs rfl rfl fun a hs => ?_
  refine sv hs (y_sub rfl rfl) rfl fun a hs => ?_
  obtain ⟨i439, h438, hsh⟩ := bind_t hsh
  refine sv hs (y_assignI rfl h438) rfl fun a hs => ?_
  refine nl ?_
  exact ⟨_, (Option.some.inj hsh).symm, Sv396, (hs.wk rfl), (hw.ft [] [0, 1] (by decide) rfl rfl)⟩
 have hsh := ite_f hsh h323
 obtain ⟨rv440, hsh, h441⟩ := map_t hsh
 have h441 := (hd318 _ h441.symm).symm
 subst h441
 refine wp_exit ?_
 refine then_exit ?_
 refine then_exit ?_
 refine blk_exit ?_
 refine then_normal ?_
 refine sr ?_
 refine av hs rfl rfl fun a hs => ?_
 refine nl ?_
 have hsh := oi hsh
 subst hsh
 refine wp_ret ?_
 exact ret1 hs rfl (rv_tmp rfl) (hw.ret rfl)

end Go.Proofs.Ytoendkojgjobbaa.Wk

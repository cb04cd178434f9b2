/- The walks of ResponseSections, part 2: each Go function computes what its plain program computes. Printed by a program of ours. -/
import Derived.Test.YtoendkojgjobbaaProg
import Derived.Test.YtoendkojgjobbaaDat
import Derived.Test.YtoendkojgjobbaaSh
import Derived.Test.YtoendkojgjobbaaLibL
import Derived.KernelRfl
import Derived.Test.YtoendkojgjobbaaWResponseSections1
namespace Go.Proofs.Ytoendkojgjobbaa.Wk
open Go Go.RowKit Go.Proofs Go.Proofs.Ytoendkojgjobbaa.Sh
set_option linter.unusedVariables false
set_option linter.unusedSimpArgs false

abbrev ref17_trim_rd (w0 : World) (X : List Nat) (r : (List Int)) : (Nat → Prop) → World → Value → Prop := fun S w v => ∃ (p0_0 : Option Addr) (k0_0 : Nat), v = .slice p0_0 r.length k0_0 ∧ (SlA p0_0 r.length k0_0 r).p S w
set_option maxHeartbeats 4000000 in
set_option maxRecDepth 100000 in
theorem ref17_trim_ok {w0 : World} {S0 : Nat → Prop} {p2 : Option Addr} {k3 : Nat} {n1 : (List Int)} {r : (List Int)} (hsh : ref17_trim n1 = some r) (hS : ∀ b, S0 b → b < w0.heap.size) (h4 : (SlA p2 n1.length k3 n1).p S0 w0) : Calls Try.prog 79 #[.slice p2 n1.length k3] w0 (Ret ([]) w0 S0 (ref17_trim_rd w0 ([]) r)) := by
 refine calls_of_wp Try.func79 rfl ?_
 have hs := Sl.enter #[.slice p2 n1.length k3] 21 [(0, .slice p2 n1.length k3)] rfl ⟨rfl, trivial⟩
 have hw := Wd.enter (E := []) hS (fun _ h => (by cases h))
 have hw := hw.addE h4
 delta ref17_trim at hsh
 refine wp_seq ?_
 refine wp_region_lit ?_
 refine st_val hs (y_assign rfl) trivial rfl rfl fun a hs => ?_
 refine wpList_nil ?_
 refine then_normal ?_
 refine wp_seq ?_
 obtain ⟨e123, h171, hsh⟩ := bind_t hsh
 refine wp_join (fun a w => ∃ (p124 : Option Addr) (k125 : Nat) (Sv126 : Nat → Prop), Sl 21 [(0, .slice p124 e123.length k125)] a ∧ Wd ⟨w0, S0, []⟩ Sv126 [] [SlA p124 e123.length k125 e123] w) ?_ ?_
 ·refine wp_block ?_
  refine wp_while (fun sv5 a w => ∃ (p81 : Option Addr) (k82 : Nat) (Sv83 : Nat → Prop), Sl 21 [(0, .slice p81 sv5.length k82)] a ∧ Wd ⟨w0, S0, []⟩ Sv83 [] [SlA p81 sv5.length k82 sv5] w) n1 h171 ⟨p2, k3, S0, (hs.wk rfl), (hw.ft [] [0] (by decide) rfl rfl)⟩ ?_
  clear h171
  repeat clear hsh
  rintro sv5 a w tv121 ⟨p81, k82, Sv83, hs, hw⟩ hsh hd120
  delta ref17_trim_l1 at hsh
  refine wp_seq ?_
  refine wp_seq ?_
  refine wp_region_lit ?_
  refine st_val hs (y_move rfl) trivial rfl rfl fun a hs => ?_
  refine st_val hs (y_len Try.runUnderlying29 rfl) trivial rfl rfl fun a hs => ?_
  refine st_val hs (y_gtr rfl rfl) trivial rfl rfl fun a hs => ?_
  refine st_val hs (y_move rfl) trivial rfl rfl fun a hs => ?_
  obtain ⟨c141, hc141, hsh⟩ := bind_t hsh
  refine wpl_join 8 (fun a w => ∃ (Sv142 : Nat → Prop), Sl 21 [(0, .slice p81 sv5.length k82), (14, .bool c141)] a ∧ Wd ⟨w0, S0, []⟩ Sv142 [] [SlA p81 sv5.length k82 sv5] w) ?_ ?_
  ·rcases Bool.eq_false_or_eq_true (decide (0 < (sv5.length : Int))) with h140 | h140
   ·have hs := hs.fix 6 (.bool true) rfl (vb h140)
    have hsh := ite_t hc141 h140
    refine st_val hs (y_move rfl) ⟨_, rfl, rfl⟩ rfl rfl fun a hs => ?_
    refine st_val hs (y_move rfl) ⟨_, rfl, rfl⟩ rfl rfl fun a hs => ?_
    refine st_val hs (y_len Try.runUnderlying29 rfl) ⟨_, rfl, rfl⟩ rfl rfl fun a hs => ?_
    refine st_val hs (y_sub rfl rfl) ⟨_, rfl, rfl⟩ rfl rfl fun a hs => ?_
    obtain ⟨x145, h143, hsh⟩ := bind_t hsh
    obtain ⟨b151, o152, q149, c150, h153, h146, h147, h148, h144⟩ := hw.elemV 0 rfl h143
    have hsv154 := hs
    have hwv155 := hw
    subst h153
    have hs := hsv154
    have hw := hwv155
    obtain ⟨_, rfl, rfl⟩ := h144
    have hw := hw.addE h148
    refine st_val hs (y_indexAt Try.runUnderlying29 Try.sizeOf3 rfl rfl h146.1 h146.2 h147) ⟨_, rfl, rfl⟩ rfl rfl fun a hs => ?_
    refine st_val hs (y_loadE1 (j := 0) (hw.ceAt 0 rfl) rfl Try.isAgg3 rfl) ⟨_, rfl, rfl⟩ rfl rfl fun a hs => ?_
    refine st_val hs (y_eql rfl rfl) ⟨_, rfl, rfl⟩ rfl rfl fun a hs => ?_
    refine st_val hs (y_pickT rfl rfl) trivial rfl rfl fun a hs => ?_
    refine wpList_nil ?_
    have hsh := Option.some.inj hsh
    subst hsh
    refine then_normal ?_
    exact ⟨Sv83, (hs.wk rfl), (hw.ft [] [1] (by decide) rfl rfl)⟩
   ·have hs := hs.fix 6 (.bool false) rfl (vb h140)
    have hsh := ite_f hc141 h140
    refine st_skip hs rfl rfl rfl rfl rfl fun a hs => ?_
    refine st_skip hs rfl rfl rfl rfl rfl fun a hs => ?_
    refine st_skip hs rfl rfl rfl rfl rfl fun a hs => ?_
    refine st_skip hs rfl rfl rfl rfl rfl fun a hs => ?_
    refine st_skip hs rfl rfl rfl rfl rfl fun a hs => ?_
    refine st_skip hs rfl rfl rfl rfl rfl fun a hs => ?_
    refine st_skip hs rfl rfl rfl rfl rfl fun a hs => ?_
    refine st_val hs (y_pickF rfl rfl) trivial rfl rfl fun a hs => ?_
    refine wpList_nil ?_
    have hsh := Option.some.inj hsh
    subst hsh
    refine then_normal ?_
    exact ⟨Sv83, (hs.wk rfl), (hw.ft [] [0] (by decide) rfl rfl)⟩
  ·rintro a w ⟨Sv142, hs, hw⟩
   refine wpList_nil ?_
   refine then_normal ?_
   refine wp_cond_split (hs.ev rfl) (fun h157 => ?_) (fun h157 => ?_)
   ·have hsh := ite_t hsh h157
    refine wp_skip ?_
    refine then_normal ?_
    refine wp_block ?_
    refine wp_region_lit ?_
    refine st_val hs (y_move rfl) trivial rfl rfl fun a hs => ?_
    refine st_val hs (y_move rfl) trivial rfl rfl fun a hs => ?_
    refine st_val hs (y_len Try.runUnderlying29 rfl) trivial rfl rfl fun a hs => ?_
    refine st_val hs (y_sub rfl rfl) trivial rfl rfl fun a hs => ?_
    obtain ⟨l169, h164, hsh⟩ := bind_t hsh
    obtain ⟨p167, k168, h165, h166⟩ := sub_env (hw.envAt 0 rfl) h164
    have hw := hw.addE h165
    refine st_val hs (y_slc Try.runUnderlying29 Try.sizeOf3 rfl (by exact rfl) ⟨_, rfl⟩ h166) trivial rfl rfl fun a hs => ?_
    refine st_val hs (y_assign rfl) trivial rfl rfl fun a hs => ?_
    refine wpList_nil ?_
    refine blk_normal ?_
    refine then_normal ?_
    exact ⟨_, (Option.some.inj hsh).symm, p167, k168, Sv142, (hs.wk rfl), (hw.ft [] [0] (by decide) rfl rfl)⟩
   ·have hsh := ite_f hsh h157
    refine wp_exit ?_
    refine then_exit ?_
    refine then_exit ?_
    refine blk_exit ?_
    have hsh := Option.some.inj hsh
    subst hsh
    have h170 := hd120 _ rfl
    subst h170
    refine then_normal ?_
    exact ⟨p81, k82, Sv142, (hs.wk rfl), (hw.ft [] [0] (by decide) rfl rfl)⟩
 ·rintro a w ⟨p124, k125, Sv126, hs, hw⟩
  refine then_normal ?_
  refine wp_seq ?_
  refine wp_region_lit ?_
  refine st_val hs (y_move rfl) trivial rfl rfl fun a hs => ?_
  refine st_val hs (y_assign rfl) trivial rfl rfl fun a hs => ?_
  refine wpList_nil ?_
  refine then_normal ?_
  have hsh := Option.some.inj hsh
  subst hsh
  refine wp_ret ?_
  exact ret1 hs rfl (rv_tmp rfl) (hw.ret ⟨p124, k125, rfl, (hw.envAt 0 rfl)⟩)

abbrev ref17_mul_rd (w0 : World) (X : List Nat) (r : (List Int)) : (Nat → Prop) → World → Value → Prop := fun S w v => ∃ (p0_0 : Option Addr) (k0_0 : Nat), v = .slice p0_0 r.length k0_0 ∧ (SlA p0_0 r.length k0_0 r).p S w
set_option maxHeartbeats 4000000 in
set_option maxRecDepth 100000 in
theorem ref17_mul_ok {w0 : World} {S0 : Nat → Prop} {p2 : Option Addr} {k3 : Nat} {p6 : Option Addr} {k7 : Nat} {a1 : (List Int)} {b5 : (List Int)} {r : (List Int)} (hsh : ref17_mul a1 b5 = some r) (hS : ∀ b, S0 b → b < w0.heap.size) (h4 : (SlA p2 a1.length k3 a1).p S0 w0) (h8 : (SlA p6 b5.length k7 b5).p S0 w0) : Calls Try.prog 46 #[.slice p2 a1.length k3, .slice p6 b5.length k7] w0 (Ret ([]) w0 S0 (ref17_mul_rd w0 ([]) r)) := by
 refine calls_of_wp Try.func46 rfl ?_
 have hs := Sl.enter #[.slice p2 a1.length k3, .slice p6 b5.length k7] 65 [(0, .slice p2 a1.length k3), (1, .slice p6 b5.length k7)] rfl ⟨rfl, rfl, trivial⟩
 have hw := Wd.enter (E := []) hS (fun _ h => (by cases h))
 have hw := hw.addE h4
 have hw := hw.addE h8
 delta ref17_mul at hsh
 refine wp_seq ?_
 refine wp_region_lit ?_
 refine st_val hs (y_assign rfl) trivial rfl rfl fun a hs => ?_
 refine wpList_nil ?_
 refine then_normal ?_
 refine wp_seq ?_
 refine wp_region_lit ?_
 refine st_val hs (y_move rfl) trivial rfl rfl fun a hs => ?_
 refine st_val hs (y_len Try.runUnderlying29 rfl) trivial rfl rfl fun a hs => ?_
 refine st_val hs (y_move rfl) trivial rfl rfl fun a hs => ?_
 refine st_val hs (y_len Try.runUnderlying29 rfl) trivial rfl rfl fun a hs => ?_
 refine st_val hs (y_add rfl rfl) trivial rfl rfl fun a hs => ?_
 obtain ⟨l10, h9, hsh⟩ := bind_t hsh
 refine w_make (α := Int) hs hw El29 ⟨_, rfl, rfl⟩ rfl rfl h9 rfl trivial ?_
 intro p11 c12 a w hs hw
 refine st_val hs (y_assign rfl) trivial rfl rfl fun a hs => ?_
 refine wpList_nil ?_
 refine then_normal ?_
 refine wp_seq ?_
 refine wp_seq ?_
 refine wp_region_lit ?_
 refine st_val hs (y_assign rfl) trivial rfl rfl fun a hs => ?_
 refine wpList_nil ?_
 refine then_normal ?_
 obtain ⟨e688, h1307, hsh⟩ := bind_t hsh
 refine wp_join (fun a w => ∃ (c689 : List Value) (p690 : Option Addr) (k691 : Nat) (Sv692 : Nat → Prop), Sl 65 [(5, .slice p690 e688.length k691)] a ∧ Wd ⟨w0, S0, []⟩ Sv692 [.row p690 e688.length k691 c689 3 1] [RowA c689 e688] w) ?_ ?_
 ·refine wp_block ?_
  refine wp_while (fun sv13 a w => ∃ (c460 : List Value) (p461 : Option Addr) (k462 : Nat) (Sv463 : Nat → Prop), Sl 65 [(0, .slice p2 a1.length k3), (1, .slice p6 b5.length k7), (5, .slice p461 sv13.1.length k462), (6, .int .i64 sv13.2)] a ∧ Wd ⟨w0, S0, []⟩ Sv463 [.row p461 sv13.1.length k462 c460 3 1] [SlA p2 a1.length k3 a1, SlA p6 b5.length k7 b5, RowA c460 sv13.1] w) (l10, 0) h1307 ⟨c12, p11, l10.length, S0, (hs.wk rfl), (hw.ft [0] [2, 1, 0] (by decide) rfl rfl)⟩ ?_
  clear h1307
  repeat clear hsh
  rintro sv13 a w tv686 ⟨c460, p461, k462, Sv463, hs, hw⟩ hsh hd685
  delta ref17_mul_l3 at hsh
  refine wp_seq ?_
  refine wp_seq ?_
  refine wp_region_lit ?_
  refine st_val hs (y_move rfl) trivial rfl rfl fun a hs => ?_
  refine st_val hs (y_move rfl) trivial rfl rfl fun a hs => ?_
  refine st_val hs (y_len Try.runUnderlying29 rfl) trivial rfl rfl fun a hs => ?_
  refine st_val hs (y_lss rfl rfl) trivial rfl rfl fun a hs => ?_
  refine wpList_nil ?_
  refine then_normal ?_
  refine wp_cond_split (hs.ev rfl) (fun h694 => ?_) (fun h694 => ?_)
  ·have hsh := ite_t hsh h694
   refine wp_skip ?_
   refine then_normal ?_
   refine wp_seq ?_
   refine wp_block ?_
   refine wp_seq ?_
   refine wp_region_lit ?_
   refine st_val hs (y_assign rfl) trivial rfl rfl fun a hs => ?_
   refine wpList_nil ?_
   refine then_normal ?_
   refine wp_seq ?_
   refine wp_region_lit ?_
   refine st_val hs (y_assign rfl) trivial rfl rfl fun a hs => ?_
   refine wpList_nil ?_
   refine then_normal ?_
   obtain ⟨e1126, h1294, hsh⟩ := bind_t hsh
   refine wp_join (fun a w => ∃ (c1127 : List Value) (p1128 : Option Addr) (k1129 : Nat) (Sv1130 : Nat → Prop), Sl 65 [(0, .slice p2 a1.length k3), (1, .slice p6 b5.length k7), (5, .slice p1128 e1126.length k1129), (6, .int .i64 sv13.2)] a ∧ Wd ⟨w0, S0, []⟩ Sv1130 [.row p1128 e1126.length k1129 c1127 3 1] [SlA p2 a1.length k3 a1, SlA p6 b5.length k7 b5, RowA c1127 e1126] w) ?_ ?_
   ·refine wp_block ?_
    refine wp_while (fun sv913 a w => ∃ (c1052 : List Value) (p1053 : Option Addr) (k1054 : Nat) (Sv1055 : Nat → Prop), Sl 65 [(0, .slice p2 a1.length k3), (1, .slice p6 b5.length k7), (5, .slice p1053 sv913.1.length k1054), (6, .int .i64 sv13.2), (7, .int .i64 sv913.2.1), (8, .int .i64 sv913.2.2)] a ∧ Wd ⟨w0, S0, []⟩ Sv1055 [.row p1053 sv913.1.length k1054 c1052 3 1] [SlA p2 a1.length k3 a1, SlA p6 b5.length k7 b5, RowA c1052 sv913.1] w) (sv13.1, 0, 0) h1294 ⟨c460, p461, k462, Sv463, (hs.wk rfl), (hw.ft [0] [0, 1, 2] (by decide) rfl rfl)⟩ ?_
    clear h1294
    repeat clear hsh
    rintro sv913 a w tv1124 ⟨c1052, p1053, k1054, Sv1055, hs, hw⟩ hsh hd1123
    delta ref17_mul_l6 at hsh
    refine wp_seq ?_
    refine wp_seq ?_
    refine wp_region_lit ?_
    refine st_val hs (y_move rfl) trivial rfl rfl fun a hs => ?_
    refine st_val hs (y_move rfl) trivial rfl rfl fun a hs => ?_
    refine st_val hs (y_len Try.runUnderlying29 rfl) trivial rfl rfl fun a hs => ?_
    refine st_val hs (y_lss rfl rfl) trivial rfl rfl fun a hs => ?_
    refine st_val hs (y_move rfl) trivial rfl rfl fun a hs => ?_
    refine wpl_join 3 (fun a w1 => w = w1 ∧ Sl 65 [(0, .slice p2 a1.length k3), (1, .slice p6 b5.length k7), (5, .slice p1053 sv913.1.length k1054), (6, .int .i64 sv13.2), (7, .int .i64 sv913.2.1), (8, .int .i64 sv913.2.2), (28, .bool ((decide (sv913.2.2 < (b5.length : Int))) || (decide (0 < sv913.2.1))))] a) ?_ ?_
    ·rcases Bool.eq_false_or_eq_true (decide (sv913.2.2 < (b5.length : Int))) with h1131 | h1131
     ·have hs := hs.fix 25 (.bool true) rfl (vb h1131)
      refine st_skip hs rfl rfl rfl rfl rfl fun a hs => ?_
      refine st_skip hs rfl rfl rfl rfl rfl fun a hs => ?_
      refine st_val hs (y_pickT rfl rfl) trivial rfl rfl fun a hs => ?_
      refine wpList_nil ?_
      refine then_normal ?_
      exact ⟨rfl, (hs.fix 28 (.bool ((decide (sv913.2.2 < (b5.length : Int))) || (decide (0 < sv913.2.1)))) rfl (or_t h1131)).weaken _ ⟨rfl, rfl, rfl, rfl, rfl, rfl, rfl, trivial⟩⟩
     ·have hs := hs.fix 25 (.bool false) rfl (vb h1131)
      refine st_val hs (y_move rfl) ⟨_, rfl, rfl⟩ rfl rfl fun a hs => ?_
      refine st_val hs (y_gtr rfl rfl) ⟨_, rfl, rfl⟩ rfl rfl fun a hs => ?_
      refine st_val hs (y_pickF rfl rfl) trivial rfl rfl fun a hs => ?_
      refine wpList_nil ?_
      refine then_normal ?_
      exact ⟨rfl, (hs.fix 28 (.bool ((decide (sv913.2.2 < (b5.length : Int))) || (decide (0 < sv913.2.1)))) rfl (or_f h1131)).weaken _ ⟨rfl, rfl, rfl, rfl, rfl, rfl, rfl, trivial⟩⟩
    ·rintro a w1 ⟨h1291, hs⟩
     subst h1291
     refine wpList_nil ?_
     refine then_normal ?_
     refine wp_cond_split (hs.ev rfl) (fun h1133 => ?_) (fun h1133 => ?_)
     ·have hsh := ite_t hsh h1133
      refine wp_skip ?_
      refine then_normal ?_
      refine wp_seq ?_
      refine wp_block ?_
      refine wp_seq ?_
      refine wp_region_lit ?_
      refine st_val hs (y_move rfl) trivial rfl rfl fun a hs => ?_
      refine st_val hs (y_move rfl) trivial rfl rfl fun a hs => ?_
      refine st_val hs (y_move rfl) trivial rfl rfl fun a hs => ?_
      refine st_val hs (y_move rfl) trivial rfl rfl fun a hs => ?_
      refine st_val hs (y_add rfl rfl) trivial rfl rfl fun a hs => ?_
      obtain ⟨x1198, h1196, hsh⟩ := bind_t hsh
      obtain ⟨b1205, q1202, c1203, h1206, h1199, h1200, h1204, h1197⟩ := hw.elemRV (α := Int) 0 rfl 2 rfl h1196
      have hsv1207 := hs
      have hwv1208 := hw
      subst h1206
      have hs := hsv1207
      have hw := hwv1208
      obtain ⟨_, rfl, rfl⟩ := h1197
      refine st_val hs (y_indexAt Try.runUnderlying29 Try.sizeOf3 rfl rfl h1199.1 h1199.2 h1200) trivial rfl rfl fun a hs => ?_
      refine st_val hs (y_loadQ1 (j := 0) (hw.ownAt 0 rfl) rfl Try.isAgg3 h1204 rfl) trivial rfl rfl fun a hs => ?_
      refine st_val hs (y_add rfl rfl) trivial rfl rfl fun a hs => ?_
      obtain ⟨carry1210, h1209, hsh⟩ := bind_t hsh
      refine st_val hs (y_assignI rfl h1209) trivial rfl rfl fun a hs => ?_
      refine wpList_nil ?_
      refine then_normal ?_
      refine wp_seq ?_
      refine wp_seq ?_
      refine wp_region_lit ?_
      refine st_val hs (y_move rfl) trivial rfl rfl fun a hs => ?_
      refine st_val hs (y_move rfl) trivial rfl rfl fun a hs => ?_
      refine st_val hs (y_len Try.runUnderlying29 rfl) trivial rfl rfl fun a hs => ?_
      refine st_val hs (y_lss rfl rfl) trivial rfl rfl fun a hs => ?_
      refine wpList_nil ?_
      refine then_normal ?_
      refine wp_join (fun a w => ∃ (carry1242 : Int) (Sv1241 : Nat → Prop), ref17_mul_j1 sv13 sv913 carry1242 = some tv1124 ∧ Sl 65 [(0, .slice p2 a1.length k3), (1, .slice p6 b5.length k7), (5, .slice (some ⟨b1205, 0, none⟩) sv913.1.length k1054), (6, .int .i64 sv13.2), (7, .int .i64 carry1242), (8, .int .i64 sv913.2.2)] a ∧ Wd ⟨w0, S0, []⟩ Sv1241 [.row (some ⟨b1205, 0, none⟩) sv913.1.length k1054 c1052 3 1] [SlA p2 a1.length k3 a1, SlA p6 b5.length k7 b5, RowA c1052 sv913.1] w) ?_ ?_
      ·refine wp_cond_split (hs.ev rfl) (fun h1260 => ?_) (fun h1260 => ?_)
       ·have hsh := ite_t hsh h1260
        obtain ⟨x1263, h1261, hsh⟩ := bind_t hsh
        obtain ⟨b1269, o1270, q1267, c1268, h1271, h1264, h1265, h1266, h1262⟩ := hw.elemV 0 rfl h1261
        have hsv1272 := hs
        have hwv1273 := hw
        subst h1271
        have hs := hsv1272
        have hw := hwv1273
        obtain ⟨_, rfl, rfl⟩ := h1262
        have hw := hw.addE h1266
        obtain ⟨x1276, h1274, hsh⟩ := bind_t hsh
        obtain ⟨b1282, o1283, q1280, c1281, h1284, h1277, h1278, h1279, h1275⟩ := hw.elemV 2 rfl h1274
        have hsv1285 := hs
        have hwv1286 := hw
        subst h1284
        have hs := hsv1285
        have hw := hwv1286
        obtain ⟨_, rfl, rfl⟩ := h1275
        have hw := hw.addE h1279
        obtain ⟨carry1288, h1287, hsh⟩ := bind_t hsh
        refine wp_only (fun a w => ∃ (Sv1289 : Nat → Prop), Sl 65 [(0, .slice (some ⟨b1269, o1270, none⟩) a1.length k3), (1, .slice (some ⟨b1282, o1283, none⟩) b5.length k7), (5, .slice (some ⟨b1205, 0, none⟩) sv913.1.length k1054), (6, .int .i64 sv13.2), (7, .int .i64 carry1288), (8, .int .i64 sv913.2.2)] a ∧ Wd ⟨w0, S0, []⟩ Sv1289 [.row (some ⟨b1205, 0, none⟩) sv913.1.length k1054 c1052 3 1] [SlA (some ⟨b1269, o1270, none⟩) a1.length k3 a1, SlA (some ⟨b1282, o1283, none⟩) b5.length k7 b5, RowA c1052 sv913.1] w) ?_ ?_
        ·refine h_b (C := Cls [.row (some ⟨b1205, 0, none⟩) sv913.1.length k1054 c1052 3 1] [CeA b1282 q1280 [.int .i64 x1276], CeA b1269 q1267 [.int .i64 x1263]]) (by kernel_rfl) rfl (hw.drew.cs [0] [0, 1] rfl rfl) fun hC => ?_
         have hw := hw.drew
         refine h_g hs 0 rfl (by kernel_rfl) rfl rfl hC rfl (fun w hC => y_move rfl) fun a hs => ?_
         refine h_g hs 1 rfl (by kernel_rfl) rfl rfl hC rfl (fun w hC => y_move rfl) fun a hs => ?_
         refine h_g hs 2 rfl (by kernel_rfl) rfl rfl hC rfl (fun w hC => y_move rfl) fun a hs => ?_
         refine h_g hs 3 rfl (by kernel_rfl) rfl rfl hC rfl (fun w hC => y_indexAt Try.runUnderlying29 Try.sizeOf3 rfl rfl h1264.1 h1264.2 h1265) fun a hs => ?_
         refine h_g hs 4 rfl (by kernel_rfl) rfl rfl hC rfl (fun w hC => y_loadE1 (j := 0) (hC.ceAt 1 rfl) rfl Try.isAgg3 rfl) fun a hs => ?_
         refine h_g hs 5 rfl (by kernel_rfl) rfl rfl hC rfl (fun w hC => y_move rfl) fun a hs => ?_
         refine h_g hs 6 rfl (by kernel_rfl) rfl rfl hC rfl (fun w hC => y_move rfl) fun a hs => ?_
         refine h_g hs 7 rfl (by kernel_rfl) rfl rfl hC rfl (fun w hC => y_indexAt Try.runUnderlying29 Try.sizeOf3 rfl rfl h1277.1 h1277.2 h1278) fun a hs => ?_
         refine h_g hs 8 rfl (by kernel_rfl) rfl rfl hC rfl (fun w hC => y_loadE1 (j := 0) (hC.ceAt 0 rfl) rfl Try.isAgg3 rfl) fun a hs => ?_
         refine h_g hs 9 rfl (by kernel_rfl) rfl rfl hC rfl (fun w hC => y_mul rfl rfl) fun a hs => ?_
         refine h_g hs 10 rfl (by kernel_rfl) rfl rfl hC rfl (fun w hC => y_add rfl rfl) fun a hs => ?_
         refine h_g hs 11 rfl (by kernel_rfl) rfl rfl hC rfl (fun w hC => y_assignI rfl h1287) fun a hs => ?_
         refine h_done (by kernel_rfl) ?_
         exact ⟨Sv1055, (hs.wk rfl), (hw.ft [0] [2, 3, 4] (by decide) rfl rfl)⟩
        ·rintro a w ⟨Sv1289, hs, hw⟩
         refine then_normal ?_
         exact ⟨carry1288, Sv1289, hsh, (hs.wk rfl), (hw.ft [0] [0, 1, 2] (by decide) rfl rfl)⟩
       ·have hsh := ite_f hsh h1260
        refine wp_skip ?_
        refine then_normal ?_
        exact ⟨carry1210, Sv1055, hsh, (hs.wk rfl), (hw.ft [0] [0, 1, 2] (by decide) rfl rfl)⟩
      ·rintro a w ⟨carry1242, Sv1241, hsh, hs, hw⟩
       delta ref17_mul_j1 at hsh
       refine then_normal ?_
       refine wp_seq ?_
       refine wp_region_lit ?_
       refine st_val hs (y_move rfl) trivial rfl rfl fun a hs => ?_
       refine st_val hs (y_move rfl) trivial rfl rfl fun a hs => ?_
       refine st_val hs (y_move rfl) trivial rfl rfl fun a hs => ?_
       refine st_val hs (y_add rfl rfl) trivial rfl rfl fun a hs => ?_
       refine st_val hs (y_move rfl) trivial rfl rfl fun a hs => ?_
       refine st_val hs (y_rem rfl rfl (by decide)) trivial rfl rfl fun a hs => ?_
       obtain ⟨x1245, h1243, hsh⟩ := bind_t hsh
       obtain ⟨q1249, c1250, h1246, h1247, h1251, h1244⟩ := hw.elemRK (α := Int) 0 rfl 2 rfl h1243
       obtain ⟨_, rfl, rfl⟩ := h1244
       refine st_val hs (y_indexAt Try.runUnderlying29 Try.sizeOf3 rfl rfl h1246.1 h1246.2 h1247) trivial rfl rfl fun a hs => ?_
       obtain ⟨l1253, h1252, hsh⟩ := bind_t hsh
       refine w_storeF (α := Int) hs hw 0 rfl 2 rfl h1247 rfl rfl Try.sizeOf3 rfl h1252 ⟨_, rfl, rfl⟩ trivial ?_
       intro c1254 a w hs hw
       have h1255 := setM_len h1252
       try have hs := hs.fix 5 (.slice (some ⟨b1205, 0, none⟩) l1253.length k1054) rfl (by rw [h1255])
       try have hs := hs.fix 54 (.slice (some ⟨b1205, 0, none⟩) l1253.length k1054) rfl (by rw [h1255])
       refine wpList_nil ?_
       refine then_normal ?_
       refine wp_region_lit ?_
       refine st_val hs (y_move rfl) trivial rfl rfl fun a hs => ?_
       refine st_val hs (y_quo rfl rfl (by decide)) trivial rfl rfl fun a hs => ?_
       obtain ⟨carry1257, h1256, hsh⟩ := bind_t hsh
       refine st_val hs (y_assignI rfl h1256) trivial rfl rfl fun a hs => ?_
       refine wpList_nil ?_
       refine blk_normal ?_
       refine then_normal ?_
       refine wp_region_lit ?_
       refine st_val hs (y_move rfl) trivial rfl rfl fun a hs => ?_
       refine st_val hs (y_add rfl rfl) trivial rfl rfl fun a hs => ?_
       obtain ⟨k1259, h1258, hsh⟩ := bind_t hsh
       refine st_val hs (y_assignI rfl h1258) trivial rfl rfl fun a hs => ?_
       refine wpList_nil ?_
       refine then_normal ?_
       exact ⟨_, (Option.some.inj hsh).symm, c1254, (some ⟨b1205, 0, none⟩), k1054, Sv1241, (hs.wk rfl), (hw.ft [0] [1, 2, 0] (by decide) rfl rfl)⟩
     ·have hsh := ite_f hsh h1133
      refine wp_exit ?_
      refine then_exit ?_
      refine then_exit ?_
      refine blk_exit ?_
      have hsh := Option.some.inj hsh
      subst hsh
      have h1290 := hd1123 _ rfl
      subst h1290
      refine then_normal ?_
      exact ⟨c1052, p1053, k1054, Sv1055, (hs.wk rfl), (hw.ft [0] [0, 1, 2] (by decide) rfl rfl)⟩
   ·rintro a w ⟨c1127, p1128, k1129, Sv1130, hs, hw⟩
    refine blk_normal ?_
    refine then_normal ?_
    refine wp_region_lit ?_
    refine st_val hs (y_move rfl) trivial rfl rfl fun a hs => ?_
    refine st_val hs (y_add rfl rfl) trivial rfl rfl fun a hs => ?_
    obtain ⟨i1293, h1292, hsh⟩ := bind_t hsh
    refine st_val hs (y_assignI rfl h1292) trivial rfl rfl fun a hs => ?_
    refine wpList_nil ?_
    refine then_normal ?_
    exact ⟨_, (Option.some.inj hsh).symm, c1127, p1128, k1129, Sv1130, (hs.wk rfl), (hw.ft [0] [0, 1, 2] (by decide) rfl rfl)⟩
  ·have hsh := ite_f hsh h694
   refine wp_exit ?_
   refine then_exit ?_
   refine then_exit ?_
   refine blk_exit ?_
   have hsh := Option.some.inj hsh
   subst hsh
   have h1295 := hd685 _ rfl
   subst h1295
   refine then_normal ?_
   exact ⟨c460, p461, k462, Sv463, (hs.wk rfl), (hw.ft [0] [2] (by decide) rfl rfl)⟩
 ·rintro a w ⟨c689, p690, k691, Sv692, hs, hw⟩
  refine then_normal ?_
  refine wp_seq ?_
  refine wp_region_lit ?_
  refine st_val hs (y_move rfl) trivial rfl rfl fun a hs => ?_
  obtain ⟨rv1297, h1296, hsh⟩ := bind_t hsh
  obtain ⟨Sv1301, hw⟩ := w_share (α := Int) hw 0 rfl 0 rfl
  refine st_callR hs (ref17_trim_ok h1296 hw.dom (hw.envAt 0 rfl)) (do_call Try.call79 rfl) trivial rfl rfl ?_
  intro v1305 Sv1302 w a h1303 h1304 hs
  obtain ⟨p1298, k1299, rfl, h1300⟩ := h1304
  have hw := hw.call h1303
  have hw := hw.addE (e := SlA p1298 rv1297.length k1299 rv1297) h1300
  refine st_val hs (y_assign rfl) trivial rfl rfl fun a hs => ?_
  refine wpList_nil ?_
  refine then_normal ?_
  have hsh := Option.some.inj hsh
  subst hsh
  refine wp_ret ?_
  exact ret1 hs rfl (rv_tmp rfl) (hw.ret ⟨p1298, k1299, rfl, (hw.envAt 0 rfl)⟩)

abbrev ref17_compare_rd (w0 : World) (X : List Nat) (r : Int) : (Nat → Prop) → World → Value → Prop := fun S w v => v = .int .i64 r
set_option maxHeartbeats 4000000 in
set_option maxRecDepth 100000 in
theorem ref17_compare_ok {w0 : World} {S0 : Nat → Prop} {p2 : Option Addr} {k3 : Nat} {p6 : Option Addr} {k7 : Nat} {a1 : (List Int)} {b5 : (List Int)} {r : Int} (hsh : ref17_compare a1 b5 = some r) (hS : ∀ b, S0 b → b < w0.heap.size) (h4 : (SlA p2 a1.length k3 a1).p S0 w0) (h8 : (SlA p6 b5.length k7 b5).p S0 w0) : Calls Try.prog 45 #[.slice p2 a1.length k3, .slice p6 b5.length k7] w0 (Ret ([]) w0 S0 (ref17_compare_rd w0 ([]) r)) := by
 refine calls_of_wp Try.func45 rfl ?_
 have hs := Sl.enter #[.slice p2 a1.length k3, .slice p6 b5.length k7] 41 [(0, .slice p2 a1.length k3), (1, .slice p6 b5.length k7)] rfl ⟨rfl, rfl, trivial⟩
 have hw := Wd.enter (E := []) hS (fun _ h => (by cases h))
 have hw := hw.addE h4
 have hw := hw.addE h8
 delta ref17_compare at hsh
 refine wp_seq ?_
 refine wp_region_lit ?_
 refine st_val hs (y_assign rfl) trivial rfl rfl fun a hs => ?_
 refine wpList_nil ?_
 refine then_normal ?_
 refine wp_seq ?_
 refine wp_seq ?_
 refine wp_region_lit ?_
 refine st_val hs (y_move rfl) trivial rfl rfl fun a hs => ?_
 refine st_val hs (y_len Try.runUnderlying29 rfl) trivial rfl rfl fun a hs => ?_
 refine st_val hs (y_move rfl) trivial rfl rfl fun a hs => ?_
 refine st_val hs (y_len Try.runUnderlying29 rfl) trivial rfl rfl fun a hs => ?_
 refine st_val hs (y_neq rfl rfl) trivial rfl rfl fun a hs => ?_
 refine wpList_nil ?_
 refine then_normal ?_
 refine wp_cond_split (hs.ev rfl) (fun h11 => ?_) (fun h11 => ?_)
 ·have hsh := ite_t hsh h11
  refine wp_seq ?_
  refine wp_seq ?_
  refine wp_region_lit ?_
  refine st_val hs (y_move rfl) trivial rfl rfl fun a hs => ?_
  refine st_val hs (y_len Try.runUnderlying29 rfl) trivial rfl rfl fun a hs => ?_
  refine st_val hs (y_move rfl) trivial rfl rfl fun a hs => ?_
  refine st_val hs (y_len Try.runUnderlying29 rfl) trivial rfl rfl fun a hs => ?_
  refine st_val hs (y_lss rfl rfl) trivial rfl rfl fun a hs => ?_
  refine wpList_nil ?_
  refine then_normal ?_
  refine wp_cond_split (hs.ev rfl) (fun h13 => ?_) (fun h13 => ?_)
  ·have hsh := ite_t hsh h13
   refine wp_seq ?_
   refine wp_region_lit ?_
   refine st_val hs (y_assign rfl) trivial rfl rfl fun a hs => ?_
   refine wpList_nil ?_
   refine then_normal ?_
   have hsh := Option.some.inj hsh
   subst hsh
   refine wp_ret ?_
   refine then_ret ?_
   refine then_ret ?_
   exact ret1 hs rfl (rv_tmp rfl) (hw.ret rfl)
  ·have hsh := ite_f hsh h13
   refine wp_skip ?_
   refine then_normal ?_
   refine wp_seq ?_
   refine wp_region_lit ?_
   refine st_val hs (y_assign rfl) trivial rfl rfl fun a hs => ?_
   refine wpList_nil ?_
   refine then_normal ?_
   have hsh := Option.some.inj hsh
   subst hsh
   refine wp_ret ?_
   refine then_ret ?_
   exact ret1 hs rfl (rv_tmp rfl) (hw.ret rfl)
 ·have hsh := ite_f hsh h11
  refine wp_skip ?_
  refine then_normal ?_
  refine wp_seq ?_
  refine wp_seq ?_
  refine wp_region_lit ?_
  refine st_val hs (y_move rfl) trivial rfl rfl fun a hs => ?_
  refine st_val hs (y_len Try.runUnderlying29 rfl) trivial rfl rfl fun a hs => ?_
  refine st_val hs (y_sub rfl rfl) trivial rfl rfl fun a hs => ?_
  obtain ⟨i15, h14, hsh⟩ := bind_t hsh
  refine st_val hs (y_assignI rfl h14) trivial rfl rfl fun a hs => ?_
  refine wpList_nil ?_
  refine then_normal ?_
  refine wp_block ?_
  refine wp_while (fun sv168 a w => ∃ (Sv268 : Nat → Prop), Sl 41 [(0, .slice p2 a1.length k3), (1, .slice p6 b5.length k7), (5, .int .i64 sv168)] a ∧ Wd ⟨w0, S0, []⟩ Sv268 [] [SlA p2 a1.length k3 a1, SlA p6 b5.length k7 b5] w) i15 hsh ⟨S0, (hs.wk rfl), (hw.ft [] [1, 0] (by decide) rfl rfl)⟩ ?_
  repeat clear hsh
  rintro sv168 a w tv319 ⟨Sv268, hs, hw⟩ hsh hd318
  delta ref17_compare_l2 at hsh
  refine wp_seq ?_
  refine wp_seq ?_
  refine wp_region_lit ?_
  refine st_val hs (y_move rfl) trivial rfl rfl fun a hs => ?_
  refine st_val hs (y_geq rfl rfl) trivial rfl rfl fun a hs => ?_
  refine wpList_nil ?_
  refine then_normal ?_
  refine wp_cond_split (hs.ev rfl) (fun h323 => ?_) (fun h323 => ?_)
  ·have hsh := ite_t hsh h323
   refine wp_skip ?_
   refine then_normal ?_
   refine wp_seq ?_
   refine wp_block ?_
   refine wp_seq ?_
   obtain ⟨x372, h370, hsh⟩ := bind_t hsh
   obtain ⟨b378, o379, q376, c377, h380, h373, h374, h375, h371⟩ := hw.elemV 0 rfl h370
   have hsv381 := hs
   have hwv382 := hw
   subst h380
   have hs := hsv381
   have hw := hwv382
   obtain ⟨_, rfl, rfl⟩ := h371
   have hw := hw.addE h375
   obtain ⟨x385, h383, hsh⟩ := bind_t hsh
   obtain ⟨b391, o392, q389, c390, h393, h386, h387, h388, h384⟩ := hw.elemV 2 rfl h383
   have hsv394 := hs
   have hwv395 := hw
   subst h393
   have hs := hsv394
   have hw := hwv395
   obtain ⟨_, rfl, rfl⟩ := h384
   have hw := hw.addE h388
   refine wp_only (fun a w => ∃ (Sv396 : Nat → Prop), Sl 41 [(0, .slice (some ⟨b378, o379, none⟩) a1.length k3), (1, .slice (some ⟨b391, o392, none⟩) b5.length k7), (5, .int .i64 sv168), (31, .bool (x372 != x385))] a ∧ Wd ⟨w0, S0, []⟩ Sv396 [] [SlA (some ⟨b378, o379, none⟩) a1.length k3 a1, SlA (some ⟨b391, o392, none⟩) b5.length k7 b5] w) ?_ ?_
   ·refine h_b (C := Cls [] [CeA b391 q389 [.int .i64 x385], CeA b378 q376 [.int .i64 x372]]) (by kernel_rfl) rfl (hw.drew.cs [] [0, 1] rfl rfl) fun hC => ?_
    have hw := hw.drew
    refine h_g hs 0 rfl (by kernel_rfl) rfl rfl hC rfl (fun w hC => y_move rfl) fun a hs => ?_
    refine h_g hs 1 rfl (by kernel_rfl) rfl rfl hC rfl (fun w hC => y_move rfl) fun a hs => ?_
    refine h_g hs 2 rfl (by kernel_rfl) rfl rfl hC rfl (fun w hC => y_indexAt Try.runUnderlying29 Try.sizeOf3 rfl rfl h373.1 h373.2 h374) fun a hs => ?_
    refine h_g hs 3 rfl (by kernel_rfl) rfl rfl hC rfl (fun w hC => y_loadE1 (j := 0) (hC.ceAt 1 rfl) rfl Try.isAgg3 rfl) fun a hs => ?_
    refine h_g hs 4 rfl (by kernel_rfl) rfl rfl hC rfl (fun w hC => y_move rfl) fun a hs => ?_
    refine h_g hs 5 rfl (by kernel_rfl) rfl rfl hC rfl (fun w hC => y_move rfl) fun a hs => ?_
    refine h_g hs 6 rfl (by kernel_rfl) rfl rfl hC rfl (fun w hC => y_indexAt Try.runUnderlying29 Try.sizeOf3 rfl rfl h386.1 h386.2 h387) fun a hs => ?_
    refine h_g hs 7 rfl (by kernel_rfl) rfl rfl hC rfl (fun w hC => y_loadE1 (j := 0) (hC.ceAt 0 rfl) rfl Try.isAgg3 rfl) fun a hs => ?_
    refine h_g hs 8 rfl (by kernel_rfl) rfl rfl hC rfl (fun w hC => y_neq rfl rfl) fun a hs => ?_
    refine h_done (by kernel_rfl) ?_
    exact ⟨Sv268, (hs.wk rfl), (hw.ft [] [2, 3] (by decide) rfl rfl)⟩
   ·rintro a w ⟨Sv396, hs, hw⟩
    refine then_normal ?_
    refine wp_cond_split (hs.ev rfl) (fun h416 => ?_) (fun h416 => ?_)
    ·have hsh := ite_t hsh h416
     refine wp_seq ?_
     refine wp_seq ?_
     obtain ⟨x419, h417, hsh⟩ := bind_t hsh
     obtain ⟨q423, c424, h420, h421, h422, h418⟩ := hw.elemK 0 rfl h417
     obtain ⟨_, rfl, rfl⟩ := h418
     have hw := hw.addE h422
     obtain ⟨x427, h425, hsh⟩ := bind_t hsh
     obtain ⟨q431, c432, h428, h429, h430, h426⟩ := hw.elemK 2 rfl h425
     obtain ⟨_, rfl, rfl⟩ := h426
     have hw := hw.addE h430
     refine wp_only (fun a w => ∃ (Sv433 : Nat → Prop), Sl 41 [(40, .bool (decide (x419 < x427)))] a ∧ Wd ⟨w0, S0, []⟩ Sv433 [] [] w) ?_ ?_
     ·refine h_b (C := Cls [] [CeA b391 q431 [.int .i64 x427], CeA b378 q423 [.int .i64 x419]]) (by kernel_rfl) rfl (hw.drew.cs [] [0, 1] rfl rfl) fun hC => ?_
      have hw := hw.drew
      refine h_g hs 0 rfl (by kernel_rfl) rfl rfl hC rfl (fun w hC => y_move rfl) fun a hs => ?_
      refine h_g hs 1 rfl (by kernel_rfl) rfl rfl hC rfl (fun w hC => y_move rfl) fun a hs => ?_
      refine h_g hs 2 rfl (by kernel_rfl) rfl rfl hC rfl (fun w hC => y_indexAt Try.runUnderlying29 Try.sizeOf3 rfl rfl h420.1 h420.2 h421) fun a hs => ?_
      refine h_g hs 3 rfl (by kernel_rfl) rfl rfl hC rfl (fun w hC => y_loadE1 (j := 0) (hC.ceAt 1 rfl) rfl Try.isAgg3 rfl) fun a hs => ?_
      refine h_g hs 4 rfl (by kernel_rfl) rfl rfl hC rfl (fun w hC => y_move rfl) fun a hs => ?_
      refine h_g hs 5 rfl (by kernel_rfl) rfl rfl hC rfl (fun w hC => y_move rfl) fun a hs => ?_
      refine h_g hs 6 rfl (by kernel_rfl) rfl rfl hC rfl (fun w hC => y_indexAt Try.runUnderlying29 Try.sizeOf3 rfl rfl h428.1 h428.2 h429) fun a hs => ?_
      refine h_g hs 7 rfl (by kernel_rfl) rfl rfl hC rfl (fun w hC => y_loadE1 (j := 0) (hC.ceAt 0 rfl) rfl Try.isAgg3 rfl) fun a hs => ?_
      refine h_g hs 8 rfl (by kernel_rfl) rfl rfl hC rfl (fun w hC => y_lss rfl rfl) fun a hs => ?_
      refine h_done (by kernel_rfl) ?_
      exact ⟨Sv396, (hs.wk rfl), (hw.ft [] [] (by decide) rfl rfl)⟩
     ·rintro a w ⟨Sv433, hs, hw⟩
      refine then_normal ?_
      refine wp_cond_split (hs.ev rfl) (fun h435 => ?_) (fun h435 => ?_)
      ·have hsh := ite_t hsh h435
       refine wp_seq ?_
       refine wp_region_lit ?_
       refine st_val hs (y_assign rfl) trivial rfl rfl fun a hs => ?_
       refine wpList_nil ?_
       refine then_normal ?_
       have hsh := Option.some.inj hsh
       subst hsh
       have h436 := hd318 _ rfl
       subst h436
       refine wp_ret ?_
       refine then_ret ?_
       refine blk_ret ?_
       refine then_ret ?_
       refine then_ret ?_
       refine blk_ret ?_
       refine then_ret ?_
       exact ret1 hs rfl (rv_tmp rfl) (hw.ret rfl)
      ·have hsh := ite_f hsh h435
       refine wp_skip ?_
       refine then_normal ?_
       refine wp_seq ?_
       refine wp_region_lit ?_
       refine st_val hs (y_assign rfl) trivial rfl rfl fun a hs => ?_
       refine wpList_nil ?_
       refine then_normal ?_
       have hsh := Option.some.inj hsh
       subst hsh
       have h437 := hd318 _ rfl
       subst h437
       refine wp_ret ?_
       refine blk_ret ?_
       refine then_ret ?_
       refine then_ret ?_
       refine blk_ret ?_
       refine then_ret ?_
       exact ret1 hs rfl (rv_tmp rfl) (hw.ret rfl)
    ·have hsh := ite_f hsh h416
     refine wp_skip ?_
     refine blk_normal ?_
     refine then_normal ?_
     refine wp_region_lit ?_
     refine st_val hs (y_move rfl) trivial rfl rfl fun a hs => ?_
     refine st_val hs (y_sub rfl rfl) trivial rfl rfl fun a hs => ?_
     obtain ⟨i439, h438, hsh⟩ := bind_t hsh
     refine st_val hs (y_assignI rfl h438) trivial rfl rfl fun a hs => ?_
     refine wpList_nil ?_
     refine then_normal ?_
     exact ⟨_, (Option.some.inj hsh).symm, Sv396, (hs.wk rfl), (hw.ft [] [0, 1] (by decide) rfl rfl)⟩
  ·have hsh := ite_f hsh h323
   obtain ⟨rv440, hsh, h441⟩ := map_t hsh
   have h441 := (hd318 _ h441.symm).symm
   subst h441
   refine wp_exit ?_
   refine then_exit ?_
   refine then_exit ?_
   refine blk_exit ?_
   refine then_normal ?_
   refine wp_seq ?_
   refine wp_region_lit ?_
   refine st_val hs (y_assign rfl) trivial rfl rfl fun a hs => ?_
   refine wpList_nil ?_
   refine then_normal ?_
   have hsh := Option.some.inj hsh
   subst hsh
   refine wp_ret ?_
   exact ret1 hs rfl (rv_tmp rfl) (hw.ret rfl)

abbrev ref17_Equal_rd (w0 : World) (X : List Nat) (r : (Bool × Int)) : (Nat → Prop) → World → Value → Prop := fun S w v => v = .tuple #[.bool r.1, .int .i64 r.2]
set_option maxHeartbeats 4000000 in
set_option maxRecDepth 100000 in
theorem ref17_Equal_ok {w0 : World} {S0 : Nat → Prop} {p2 : Option Addr} {k3 : Nat} {p4 : Option Addr} {k5 : Nat} {p9 : Option Addr} {k10 : Nat} {p11 : Option Addr} {k12 : Nat} {a1 : Fraction} {b8 : Fraction} {r : (Bool × Int)} (hsh : ref17_Equal a1 b8 = some r) (hS : ∀ b, S0 b → b < w0.heap.size) (h6 : (SlA p2 a1.Num.length k3 a1.Num).p S0 w0) (h7 : (SlA p4 a1.Den.length k5 a1.Den).p S0 w0) (h13 : (SlA p9 b8.Num.length k10 b8.Num).p S0 w0) (h14 : (SlA p11 b8.Den.length k12 b8.Den).p S0 w0) : Calls Try.prog 11 #[.agg #[.slice p2 a1.Num.length k3, .slice p4 a1.Den.length k5], .agg #[.slice p9 b8.Num.length k10, .slice p11 b8.Den.length k12]] w0 (Ret ([]) w0 S0 (ref17_Equal_rd w0 ([]) r)) := by
 refine calls_of_wp Try.func11 rfl ?_
 have hs := Sl.enter #[.agg #[.slice p2 a1.Num.length k3, .slice p4 a1.Den.length k5], .agg #[.slice p9 b8.Num.length k10, .slice p11 b8.Den.length k12]] 26 [(0, .agg #[.slice p2 a1.Num.length k3, .slice p4 a1.Den.length k5]), (1, .agg #[.slice p9 b8.Num.length k10, .slice p11 b8.Den.length k12])] rfl ⟨rfl, rfl, trivial⟩
 have hw := Wd.enter (E := []) hS (fun _ h => (by cases h))
 have hw := hw.addE h6
 have hw := hw.addE h7
 have hw := hw.addE h13
 have hw := hw.addE h14
 delta ref17_Equal at hsh
 refine wp_seq ?_
 refine wp_region_lit ?_
 refine w_box (cs := [.slice p2 a1.Num.length k3, .slice p4 a1.Den.length k5]) hs hw rfl rfl rfl trivial ?_
 intro b15 a w hs hw
 refine w_box (cs := [.slice p9 b8.Num.length k10, .slice p11 b8.Den.length k12]) hs hw rfl rfl rfl trivial ?_
 intro b16 a w hs hw
 refine st_val hs (y_assign rfl) trivial rfl rfl fun a hs => ?_
 refine st_val hs (y_assign rfl) trivial rfl rfl fun a hs => ?_
 refine wpList_nil ?_
 refine then_normal ?_
 refine wp_seq ?_
 refine wp_seq ?_
 refine wp_region_lit ?_
 refine st_val hs (y_loadBA (hw.ownAt 1 rfl) rfl Try.isAgg31 Try.sizeOf31 rfl rfl) trivial rfl rfl fun a hs => ?_
 obtain ⟨rv18, h17, hsh⟩ := bind_t hsh
 refine st_callR hs (ref17_ValidFraction_ok h17 hw.bdom (hw.bE 3 rfl) (hw.bE 2 rfl)) (do_call Try.call44 rfl) trivial rfl rfl ?_
 intro v22 Sv19 w a h20 h21 hs
 subst h21
 have hw := hw.callB h20
 refine st_val hs (y_not rfl) trivial rfl rfl fun a hs => ?_
 refine st_val hs (y_move rfl) trivial rfl rfl fun a hs => ?_
 obtain ⟨c32, hc32, hsh⟩ := bind_t hsh
 refine wpl_join 4 (fun a w => ∃ (Sv33 : Nat → Prop), Sl 26 [(2, .pointer (some ⟨b15, 0, none⟩)), (3, .pointer (some ⟨b16, 0, none⟩)), (13, .bool c32)] a ∧ Wd ⟨w0, S0, []⟩ Sv33 [.box b15 [.slice p2 a1.Num.length k3, .slice p4 a1.Den.length k5] 31, .box b16 [.slice p9 b8.Num.length k10, .slice p11 b8.Den.length k12] 31] [SlA p2 a1.Num.length k3 a1.Num, SlA p4 a1.Den.length k5 a1.Den, SlA p9 b8.Num.length k10 b8.Num, SlA p11 b8.Den.length k12 b8.Den] w) ?_ ?_
 ·rcases Bool.eq_false_or_eq_true (!rv18) with h31 | h31
  ·have hs := hs.fix 9 (.bool true) rfl (vb h31)
   have hsh := ite_t hc32 h31
   refine st_skip hs rfl rfl rfl rfl rfl fun a hs => ?_
   refine st_skip hs rfl rfl rfl rfl rfl fun a hs => ?_
   refine st_skip hs rfl rfl rfl rfl rfl fun a hs => ?_
   refine st_val hs (y_pickT rfl rfl) trivial rfl rfl fun a hs => ?_
   refine wpList_nil ?_
   have hsh := Option.some.inj hsh
   subst hsh
   refine then_normal ?_
   exact ⟨S0, (hs.wk rfl), (hw.ft [1, 0] [3, 2, 1, 0] (by decide) rfl rfl)⟩
  ·have hs := hs.fix 9 (.bool false) rfl (vb h31)
   have hsh := ite_f hc32 h31
   refine st_val hs (y_loadBA (hw.ownAt 0 rfl) rfl Try.isAgg31 Try.sizeOf31 rfl rfl) ⟨_, rfl, rfl⟩ rfl rfl fun a hs => ?_
   obtain ⟨rv35, h34, hsh⟩ := bind_t hsh
   refine st_callR hs (ref17_ValidFraction_ok h34 hw.bdom (hw.bE 1 rfl) (hw.bE 0 rfl)) (do_call Try.call44 rfl) ⟨_, rfl, rfl⟩ rfl rfl ?_
   intro v39 Sv36 w a h37 h38 hs
   subst h38
   have hw := hw.callB h37
   refine st_val hs (y_not rfl) ⟨_, rfl, rfl⟩ rfl rfl fun a hs => ?_
   refine st_val hs (y_pickF rfl rfl) trivial rfl rfl fun a hs => ?_
   refine wpList_nil ?_
   have hsh := Option.some.inj hsh
   subst hsh
   refine then_normal ?_
   exact ⟨S0, (hs.wk rfl), (hw.ft [1, 0] [3, 2, 1, 0] (by decide) rfl rfl)⟩
 ·rintro a w ⟨Sv33, hs, hw⟩
  refine wpList_nil ?_
  refine then_normal ?_
  refine wp_cond_split (hs.ev rfl) (fun h42 => ?_) (fun h42 => ?_)
  ·have hsh := ite_t hsh h42
   refine wp_seq ?_
   refine wp_region_lit ?_
   refine st_val hs (y_assign rfl) trivial rfl rfl fun a hs => ?_
   refine st_val hs (y_assign rfl) trivial rfl rfl fun a hs => ?_
   refine wpList_nil ?_
   refine then_normal ?_
   have hsh := Option.some.inj hsh
   subst hsh
   refine wp_ret ?_
   refine then_ret ?_
   exact ret2 hs rfl (rv_tmp rfl) (rv_tmp rfl) (hw.ret rfl)
  ·have hsh := ite_f hsh h42
   refine wp_skip ?_
   refine then_normal ?_
   refine wp_seq ?_
   obtain ⟨rv44, h43, hsh⟩ := bind_t hsh
   obtain ⟨rv49, h48, hsh⟩ := bind_t hsh
   obtain ⟨rv54, h53, hsh⟩ := bind_t hsh
   refine wp_only (fun a w => ∃ (Sv55 : Nat → Prop), Sl 26 [(4, .bool (rv54 == 0)), (5, .int .i64 0)] a ∧ Wd ⟨w0, S0, []⟩ Sv55 [] [] w) ?_ ?_
   ·refine h_b (C := Cls [.box b15 [.slice p2 a1.Num.length k3, .slice p4 a1.Den.length k5] 31, .box b16 [.slice p9 b8.Num.length k10, .slice p11 b8.Den.length k12] 31] []) (by kernel_rfl) rfl (hw.drew.cs [0, 1] [] rfl rfl) fun hC => ?_
    have hw := hw.drew
    refine h_g hs 0 rfl (by kernel_rfl) rfl rfl hC rfl (fun w hC => y_fieldAddr (o' := 0) Try.runUnderlying31 rfl Try.sizeOf29 rfl rfl rfl) fun a hs => ?_
    refine h_g hs 1 rfl (by kernel_rfl) rfl rfl hC rfl (fun w hC => y_loadB1 (hC.ownAt 0 rfl) rfl Try.isAgg29 rfl) fun a hs => ?_
    refine h_g hs 2 rfl (by kernel_rfl) rfl rfl hC rfl (fun w hC => y_fieldAddr (o' := 1) Try.runUnderlying31 rfl Try.sizeOf29 rfl rfl rfl) fun a hs => ?_
    refine h_g hs 3 rfl (by kernel_rfl) rfl rfl hC rfl (fun w hC => y_loadB1 (hC.ownAt 1 rfl) rfl Try.isAgg29 rfl) fun a hs => ?_
    refine h_g hs 5 rfl (by kernel_rfl) rfl rfl hC rfl (fun w hC => y_fieldAddr (o' := 0) Try.runUnderlying31 rfl Try.sizeOf29 rfl rfl rfl) fun a hs => ?_
    refine h_g hs 6 rfl (by kernel_rfl) rfl rfl hC rfl (fun w hC => y_loadB1 (hC.ownAt 1 rfl) rfl Try.isAgg29 rfl) fun a hs => ?_
    refine h_g hs 7 rfl (by kernel_rfl) rfl rfl hC rfl (fun w hC => y_fieldAddr (o' := 1) Try.runUnderlying31 rfl Try.sizeOf29 rfl rfl rfl) fun a hs => ?_
    refine h_g hs 8 rfl (by kernel_rfl) rfl rfl hC rfl (fun w hC => y_loadB1 (hC.ownAt 0 rfl) rfl Try.isAgg29 rfl) fun a hs => ?_
    refine h_one (i := 4) (by kernel_rfl) rfl ?_
    refine st_callR hs (ref17_mul_ok h43 hw.dom (hw.envAt 0 rfl) (hw.envAt 3 rfl)) (do_call Try.call46 rfl) trivial rfl rfl ?_
    intro v59 Sv56 w a h57 h58 hs
    obtain ⟨p45, k46, rfl, h47⟩ := h58
    have hw := hw.call h57
    have hw := hw.addE (e := SlA p45 rv44.length k46 rv44) h47
    refine h_nx (hw.cs [0, 1] [] rfl rfl) fun hC => ?_
    refine h_one (i := 9) (by kernel_rfl) rfl ?_
    refine st_callR hs (ref17_mul_ok h48 hw.dom (hw.envAt 3 rfl) (hw.envAt 2 rfl)) (do_call Try.call46 rfl) trivial rfl rfl ?_
    intro v64 Sv61 w a h62 h63 hs
    obtain ⟨p50, k51, rfl, h52⟩ := h63
    have hw := hw.call h62
    have hw := hw.addE (e := SlA p50 rv49.length k51 rv49) h52
    refine h_nx (hw.cs [0, 1] [] rfl rfl) fun hC => ?_
    refine h_one (i := 10) (by kernel_rfl) rfl ?_
    refine st_callR hs (ref17_compare_ok h53 hw.bdom (hw.bE 1 rfl) (hw.bE 0 rfl)) (do_call Try.call45 rfl) trivial rfl rfl ?_
    intro v69 Sv66 w a h67 h68 hs
    subst h68
    have hw := hw.callB h67
    refine h_nx (hw.cs [0, 1] [] rfl rfl) fun hC => ?_
    refine h_g hs 11 rfl (by kernel_rfl) rfl rfl hC rfl (fun w hC => y_eql rfl rfl) fun a hs => ?_
    refine h_g hs 12 rfl (by kernel_rfl) rfl rfl hC rfl (fun w hC => y_assign rfl) fun a hs => ?_
    refine h_g hs 13 rfl (by kernel_rfl) rfl rfl hC rfl (fun w hC => y_assign rfl) fun a hs => ?_
    refine h_done (by kernel_rfl) ?_
    exact ⟨Sv61, (hs.wk rfl), (hw.ft [] [] (by decide) rfl rfl)⟩
   ·rintro a w ⟨Sv55, hs, hw⟩
    refine then_normal ?_
    have hsh := Option.some.inj hsh
    subst hsh
    refine wp_ret ?_
    exact ret2 hs rfl (rv_tmp rfl) (rv_tmp rfl) (hw.ret rfl)

abbrev rate_in_rd (w0 : World) (X : List Nat) (r : Bool) : (Nat → Prop) → World → Value → Prop := fun S w v => v = .bool r
set_option maxHeartbeats 4000000 in
set_option maxRecDepth 100000 in
theorem rate_in_ok {w0 : World} {S0 : Nat → Prop} {n1 : Int} {low2 : Int} {high3 : Int} {r : Bool} (hsh : rate_in n1 low2 high3 = some r) (hS : ∀ b, S0 b → b < w0.heap.size) : Calls Try.prog 85 #[.int .i64 n1, .int .i64 low2, .int .i64 high3] w0 (Ret ([]) w0 S0 (rate_in_rd w0 ([]) r)) := by
 refine calls_of_wp Try.func85 rfl ?_
 have hs := Sl.enter #[.int .i64 n1, .int .i64 low2, .int .i64 high3] 15 [(0, .int .i64 n1), (1, .int .i64 low2), (2, .int .i64 high3)] rfl ⟨rfl, rfl, rfl, trivial⟩
 have hw := Wd.enter (E := []) hS (fun _ h => (by cases h))
 delta rate_in at hsh
 refine wp_seq ?_
 refine wp_region_lit ?_
 refine st_val hs (y_assign rfl) trivial rfl rfl fun a hs => ?_
 refine wpList_nil ?_
 refine then_normal ?_
 refine wp_seq ?_
 refine wp_region_lit ?_
 refine st_val hs (y_move rfl) trivial rfl rfl fun a hs => ?_
 refine st_val hs (y_move rfl) trivial rfl rfl fun a hs => ?_
 refine st_val hs (y_geq rfl rfl) trivial rfl rfl fun a hs => ?_
 refine st_val hs (y_move rfl) trivial rfl rfl fun a hs => ?_
 refine wpl_join 4 (fun a w1 => w0 = w1 ∧ Sl 15 [(14, .bool ((decide (low2 ≤ n1)) && (decide (n1 ≤ high3))))] a) ?_ ?_
 ·rcases Bool.eq_false_or_eq_true (decide (low2 ≤ n1)) with h4 | h4
  ·have hs := hs.fix 10 (.bool true) rfl (vb h4)
   refine st_val hs (y_move rfl) ⟨_, rfl, rfl⟩ rfl rfl fun a hs => ?_
   refine st_val hs (y_move rfl) ⟨_, rfl, rfl⟩ rfl rfl fun a hs => ?_
   refine st_val hs (y_leq rfl rfl) ⟨_, rfl, rfl⟩ rfl rfl fun a hs => ?_
   refine st_val hs (y_pickT rfl rfl) trivial rfl rfl fun a hs => ?_
   refine wpList_nil ?_
   refine then_normal ?_
   exact ⟨rfl, (hs.fix 14 (.bool ((decide (low2 ≤ n1)) && (decide (n1 ≤ high3)))) rfl (and_t h4)).weaken _ ⟨rfl, trivial⟩⟩
  ·have hs := hs.fix 10 (.bool false) rfl (vb h4)
   refine st_skip hs rfl rfl rfl rfl rfl fun a hs => ?_
   refine st_skip hs rfl rfl rfl rfl rfl fun a hs => ?_
   refine st_skip hs rfl rfl rfl rfl rfl fun a hs => ?_
   refine st_val hs (y_pickF rfl rfl) trivial rfl rfl fun a hs => ?_
   refine wpList_nil ?_
   refine then_normal ?_
   exact ⟨rfl, (hs.fix 14 (.bool ((decide (low2 ≤ n1)) && (decide (n1 ≤ high3)))) rfl (and_f h4)).weaken _ ⟨rfl, trivial⟩⟩
 ·rintro a w1 ⟨h5, hs⟩
  subst h5
  refine st_val hs (y_assign rfl) trivial rfl rfl fun a hs => ?_
  refine wpList_nil ?_
  refine then_normal ?_
  have hsh := Option.some.inj hsh
  subst hsh
  refine wp_ret ?_
  exact ret1 hs rfl (rv_tmp rfl) (hw.ret rfl)

abbrev rate_gcd_rd (w0 : World) (X : List Nat) (r : Int) : (Nat → Prop) → World → Value → Prop := fun S w v => v = .int .i64 r
set_option maxHeartbeats 4000000 in
set_option maxRecDepth 100000 in
theorem rate_gcd_ok {w0 : World} {S0 : Nat → Prop} {a1 : Int} {b2 : Int} {r : Int} (hsh : rate_gcd a1 b2 = some r) (hS : ∀ b, S0 b → b < w0.heap.size) : Calls Try.prog 86 #[.int .i64 a1, .int .i64 b2] w0 (Ret ([]) w0 S0 (rate_gcd_rd w0 ([]) r)) := by
 refine calls_of_wp Try.func86 rfl ?_
 have hs := Sl.enter #[.int .i64 a1, .int .i64 b2] 12 [(0, .int .i64 a1), (1, .int .i64 b2)] rfl ⟨rfl, rfl, trivial⟩
 have hw := Wd.enter (E := []) hS (fun _ h => (by cases h))
 delta rate_gcd at hsh
 refine wp_seq ?_
 refine wp_region_lit ?_
 refine st_val hs (y_assign rfl) trivial rfl rfl fun a hs => ?_
 refine wpList_nil ?_
 refine then_normal ?_
 refine wp_seq ?_
 obtain ⟨e21, h32, hsh⟩ := bind_t hsh
 refine wp_join (fun a w => ∃ (Sv22 : Nat → Prop), Sl 12 [(0, .int .i64 e21)] a ∧ Wd ⟨w0, S0, []⟩ Sv22 [] [] w) ?_ ?_
 ·refine wp_block ?_
  refine wp_while (fun sv3 a w => ∃ (Sv13 : Nat → Prop), Sl 12 [(0, .int .i64 sv3.1), (1, .int .i64 sv3.2)] a ∧ Wd ⟨w0, S0, []⟩ Sv13 [] [] w) (a1, b2) h32 ⟨S0, (hs.wk rfl), (hw.ft [] [] (by decide) rfl rfl)⟩ ?_
  clear h32
  repeat clear hsh
  rintro sv3 a w tv19 ⟨Sv13, hs, hw⟩ hsh hd18
  delta rate_gcd_l1 at hsh
  refine wp_seq ?_
  refine wp_seq ?_
  refine wp_region_lit ?_
  refine st_val hs (y_move rfl) trivial rfl rfl fun a hs => ?_
  refine st_val hs (y_neq rfl rfl) trivial rfl rfl fun a hs => ?_
  refine wpList_nil ?_
  refine then_normal ?_
  refine wp_cond_split (hs.ev rfl) (fun h24 => ?_) (fun h24 => ?_)
  ·have hsh := ite_t hsh h24
   refine wp_skip ?_
   refine then_normal ?_
   refine wp_block ?_
   obtain ⟨rem29, h28, hsh⟩ := bind_t hsh
   refine wp_only (fun a w => ∃ (Sv30 : Nat → Prop), Sl 12 [(0, .int .i64 sv3.2), (1, .int .i64 rem29)] a ∧ Wd ⟨w0, S0, []⟩ Sv30 [] [] w) ?_ ?_
   ·refine h_b (C := Cls [] []) (by kernel_rfl) rfl (hw.drew.cs [] [] rfl rfl) fun hC => ?_
    have hw := hw.drew
    refine h_g hs 0 rfl (by kernel_rfl) rfl rfl hC rfl (fun w hC => y_move rfl) fun a hs => ?_
    refine h_g hs 1 rfl (by kernel_rfl) rfl rfl hC rfl (fun w hC => y_move rfl) fun a hs => ?_
    refine h_g hs 2 rfl (by kernel_rfl) rfl rfl hC rfl (fun w hC => y_move rfl) fun a hs => ?_
    refine h_g hs 3 rfl (by kernel_rfl) rfl rfl hC rfl (fun w hC => y_remM rfl rfl h28) fun a hs => ?_
    refine h_g hs 4 rfl (by kernel_rfl) rfl rfl hC rfl (fun w hC => y_assign rfl) fun a hs => ?_
    refine h_g hs 5 rfl (by kernel_rfl) rfl rfl hC rfl (fun w hC => y_assign rfl) fun a hs => ?_
    refine h_done (by kernel_rfl) ?_
    exact ⟨Sv13, (hs.wk rfl), (hw.ft [] [] (by decide) rfl rfl)⟩
   ·rintro a w ⟨Sv30, hs, hw⟩
    refine blk_normal ?_
    refine then_normal ?_
    exact ⟨_, (Option.some.inj hsh).symm, Sv30, (hs.wk rfl), (hw.ft [] [] (by decide) rfl rfl)⟩
  ·have hsh := ite_f hsh h24
   refine wp_exit ?_
   refine then_exit ?_
   refine then_exit ?_
   refine blk_exit ?_
   have hsh := Option.some.inj hsh
   subst hsh
   have h31 := hd18 _ rfl
   subst h31
   refine then_normal ?_
   exact ⟨Sv13, (hs.wk rfl), (hw.ft [] [] (by decide) rfl rfl)⟩
 ·rintro a w ⟨Sv22, hs, hw⟩
  refine then_normal ?_
  refine wp_seq ?_
  refine wp_region_lit ?_
  refine st_val hs (y_move rfl) trivial rfl rfl fun a hs => ?_
  refine st_val hs (y_assign rfl) trivial rfl rfl fun a hs => ?_
  refine wpList_nil ?_
  refine then_normal ?_
  have hsh := Option.some.inj hsh
  subst hsh
  refine wp_ret ?_
  exact ret1 hs rfl (rv_tmp rfl) (hw.ret rfl)

abbrev rate_Valid_rd (w0 : World) (X : List Nat) (r : Bool) : (Nat → Prop) → World → Value → Prop := fun S w v => v = .bool r
set_option maxHeartbeats 4000000 in
set_option maxRecDepth 100000 in
theorem rate_Valid_ok {w0 : World} {S0 : Nat → Prop} {r1 : Rate} {r : Bool} (hsh : rate_Valid r1 = some r) (hS : ∀ b, S0 b → b < w0.heap.size) : Calls Try.prog 52 #[.agg #[.int .i64 r1.Num, .int .i64 r1.Den]] w0 (Ret ([]) w0 S0 (rate_Valid_rd w0 ([]) r)) := by
 refine calls_of_wp Try.func52 rfl ?_
 have hs := Sl.enter #[.agg #[.int .i64 r1.Num, .int .i64 r1.Den]] 19 [(0, .agg #[.int .i64 r1.Num, .int .i64 r1.Den])] rfl ⟨rfl, trivial⟩
 have hw := Wd.enter (E := []) hS (fun _ h => (by cases h))
 delta rate_Valid at hsh
 refine wp_seq ?_
 refine wp_region_lit ?_
 refine w_box (cs := [.int .i64 r1.Num, .int .i64 r1.Den]) hs hw rfl rfl rfl trivial ?_
 intro b2 a w hs hw
 refine st_val hs (y_assign rfl) trivial rfl rfl fun a hs => ?_
 refine wpList_nil ?_
 refine then_normal ?_
 refine wp_seq ?_
 refine wp_region_lit ?_
 refine st_val hs (y_fieldAddr (o' := 0) Try.runUnderlying51 rfl Try.sizeOf3 rfl rfl rfl) trivial rfl rfl fun a hs => ?_
 refine st_val hs (y_loadB1 (hw.ownAt 0 rfl) rfl Try.isAgg3 rfl) trivial rfl rfl fun a hs => ?_
 obtain ⟨rv4, h3, hsh⟩ := bind_t hsh
 refine st_callR hs (rate_in_ok h3 hw.bdom) (do_call Try.call85 rfl) trivial rfl rfl ?_
 intro v8 Sv5 w a h6 h7 hs
 subst h7
 have hw := hw.callB h6
 refine st_val hs (y_move rfl) trivial rfl rfl fun a hs => ?_
 obtain ⟨c18, hc18, hsh⟩ := bind_t hsh
 refine wpl_join 4 (fun a w => ∃ (Sv19 : Nat → Prop), Sl 19 [(1, .pointer (some ⟨b2, 0, none⟩)), (10, .bool c18)] a ∧ Wd ⟨w0, S0, []⟩ Sv19 [.box b2 [.int .i64 r1.Num, .int .i64 r1.Den] 51] [] w) ?_ ?_
 ·rcases Bool.eq_false_or_eq_true rv4 with h17 | h17
  ·have hs := hs.fix 6 (.bool true) rfl (vb h17)
   have hsh := ite_t hc18 h17
   refine st_val hs (y_fieldAddr (o' := 1) Try.runUnderlying51 rfl Try.sizeOf3 rfl rfl rfl) ⟨_, rfl, rfl⟩ rfl rfl fun a hs => ?_
   refine st_val hs (y_loadB1 (hw.ownAt 0 rfl) rfl Try.isAgg3 rfl) ⟨_, rfl, rfl⟩ rfl rfl fun a hs => ?_
   obtain ⟨rv21, h20, hsh⟩ := bind_t hsh
   refine st_callR hs (rate_in_ok h20 hw.bdom) (do_call Try.call85 rfl) ⟨_, rfl, rfl⟩ rfl rfl ?_
   intro v25 Sv22 w a h23 h24 hs
   subst h24
   have hw := hw.callB h23
   refine st_val hs (y_pickT rfl rfl) trivial rfl rfl fun a hs => ?_
   refine wpList_nil ?_
   have hsh := Option.some.inj hsh
   subst hsh
   refine then_normal ?_
   exact ⟨S0, (hs.wk rfl), (hw.ft [0] [] (by decide) rfl rfl)⟩
  ·have hs := hs.fix 6 (.bool false) rfl (vb h17)
   have hsh := ite_f hc18 h17
   refine st_skip hs rfl rfl rfl rfl rfl fun a hs => ?_
   refine st_skip hs rfl rfl rfl rfl rfl fun a hs => ?_
   refine st_skip hs rfl rfl rfl rfl rfl fun a hs => ?_
   refine st_val hs (y_pickF rfl rfl) trivial rfl rfl fun a hs => ?_
   refine wpList_nil ?_
   have hsh := Option.some.inj hsh
   subst hsh
   refine then_normal ?_
   exact ⟨S0, (hs.wk rfl), (hw.ft [0] [] (by decide) rfl rfl)⟩
 ·rintro a w ⟨Sv19, hs, hw⟩
  refine st_val hs (y_move rfl) trivial rfl rfl fun a hs => ?_
  obtain ⟨c35, hc35, hsh⟩ := bind_t hsh
  refine wpl_join 7 (fun a w => ∃ (Sv36 : Nat → Prop), Sl 19 [(18, .bool c35)] a ∧ Wd ⟨w0, S0, []⟩ Sv36 [] [] w) ?_ ?_
  ·rcases Bool.eq_false_or_eq_true c18 with h34 | h34
   ·have hs := hs.fix 11 (.bool true) rfl (vb h34)
    have hsh := ite_t hc35 h34
    refine st_val hs (y_fieldAddr (o' := 0) Try.runUnderlying51 rfl Try.sizeOf3 rfl rfl rfl) ⟨_, rfl, rfl⟩ rfl rfl fun a hs => ?_
    refine st_val hs (y_loadB1 (hw.ownAt 0 rfl) rfl Try.isAgg3 rfl) ⟨_, rfl, rfl⟩ rfl rfl fun a hs => ?_
    refine st_val hs (y_fieldAddr (o' := 1) Try.runUnderlying51 rfl Try.sizeOf3 rfl rfl rfl) ⟨_, rfl, rfl⟩ rfl rfl fun a hs => ?_
    refine st_val hs (y_loadB1 (hw.ownAt 0 rfl) rfl Try.isAgg3 rfl) ⟨_, rfl, rfl⟩ rfl rfl fun a hs => ?_
    obtain ⟨rv38, h37, hsh⟩ := bind_t hsh
    refine st_callR hs (rate_gcd_ok h37 hw.bdom) (do_call Try.call86 rfl) ⟨_, rfl, rfl⟩ rfl rfl ?_
    intro v42 Sv39 w a h40 h41 hs
    subst h41
    have hw := hw.callB h40
    refine st_val hs (y_eql rfl rfl) ⟨_, rfl, rfl⟩ rfl rfl fun a hs => ?_
    refine st_val hs (y_pickT rfl rfl) trivial rfl rfl fun a hs => ?_
    refine wpList_nil ?_
    have hsh := Option.some.inj hsh
    subst hsh
    refine then_normal ?_
    exact ⟨Sv19, (hs.wk rfl), (hw.ft [] [] (by decide) rfl rfl)⟩
   ·have hs := hs.fix 11 (.bool false) rfl (vb h34)
    have hsh := ite_f hc35 h34
    refine st_skip hs rfl rfl rfl rfl rfl fun a hs => ?_
    refine st_skip hs rfl rfl rfl rfl rfl fun a hs => ?_
    refine st_skip hs rfl rfl rfl rfl rfl fun a hs => ?_
    refine st_skip hs rfl rfl rfl rfl rfl fun a hs => ?_
    refine st_skip hs rfl rfl rfl rfl rfl fun a hs => ?_
    refine st_skip hs rfl rfl rfl rfl rfl fun a hs => ?_
    refine st_val hs (y_pickF rfl rfl) trivial rfl rfl fun a hs => ?_
    refine wpList_nil ?_
    have hsh := Option.some.inj hsh
    subst hsh
    refine then_normal ?_
    exact ⟨Sv19, (hs.wk rfl), (hw.ft [] [] (by decide) rfl rfl)⟩
  ·rintro a w ⟨Sv36, hs, hw⟩
   refine st_val hs (y_assign rfl) trivial rfl rfl fun a hs => ?_
   refine wpList_nil ?_
   refine then_normal ?_
   have hsh := Option.some.inj hsh
   subst hsh
   refine wp_ret ?_
   exact ret1 hs rfl (rv_tmp rfl) (hw.ret rfl)

abbrev response_symmetric_rd (w0 : World) (X : List Nat) (r : Bool) : (Nat → Prop) → World → Value → Prop := fun S w v => v = .bool r
set_option maxHeartbeats 4000000 in
set_option maxRecDepth 100000 in
theorem response_symmetric_ok {w0 : World} {S0 : Nat → Prop} {p2 : Option Addr} {k3 : Nat} {l1 : (List Int)} {r : Bool} (hsh : response_symmetric l1 = some r) (hS : ∀ b, S0 b → b < w0.heap.size) (h4 : (SlA p2 l1.length k3 l1).p S0 w0) : Calls Try.prog 54 #[.slice p2 l1.length k3] w0 (Ret ([]) w0 S0 (response_symmetric_rd w0 ([]) r)) := by
 refine calls_of_wp Try.func54 rfl ?_
 have hs := Sl.enter #[.slice p2 l1.length k3] 23 [(0, .slice p2 l1.length k3)] rfl ⟨rfl, trivial⟩
 have hw := Wd.enter (E := []) hS (fun _ h => (by cases h))
 have hw := hw.addE h4
 delta response_symmetric at hsh
 refine wp_seq ?_
 refine wp_region_lit ?_
 refine st_val hs (y_assign rfl) trivial rfl rfl fun a hs => ?_
 refine wpList_nil ?_
 refine then_normal ?_
 refine wp_seq ?_
 refine wp_seq ?_
 refine wp_region_lit ?_
 refine st_val hs (y_move rfl) trivial rfl rfl fun a hs => ?_
 refine st_val hs (y_len Try.runUnderlying24 rfl) trivial rfl rfl fun a hs => ?_
 refine st_val hs (y_move rfl) trivial rfl rfl fun a hs => ?_
 refine wpList_nil ?_
 refine then_normal ?_
 refine wp_block ?_
 refine wp_while (fun sv82 a w => ∃ (Sv132 : Nat → Prop), Sl 23 [(0, .slice p2 l1.length k3), (5, .int .i64 (l1.length : Int)), (6, .int .i64 sv82)] a ∧ Wd ⟨w0, S0, []⟩ Sv132 [] [SlA p2 l1.length k3 l1] w) 0 hsh ⟨S0, (hs.wk rfl), (hw.ft [] [0] (by decide) rfl rfl)⟩ ?_
 repeat clear hsh
 rintro sv82 a w tv158 ⟨Sv132, hs, hw⟩ hsh hd157
 delta response_symmetric_l2 at hsh
 refine wp_seq ?_
 refine wp_region_lit ?_
 refine st_val hs (y_lss rfl rfl) trivial rfl rfl fun a hs => ?_
 refine wpList_nil ?_
 refine then_normal ?_
 refine wp_seq ?_
 refine wp_cond_split (hs.ev rfl) (fun h162 => ?_) (fun h162 => ?_)
 ·have hsh := ite_t hsh h162
  refine wp_skip ?_
  refine then_normal ?_
  refine wp_seq ?_
  refine wp_block ?_
  refine wp_seq ?_
  refine wp_region_lit ?_
  refine st_val hs (y_move rfl) trivial rfl rfl fun a hs => ?_
  refine st_val hs (y_assign rfl) trivial rfl rfl fun a hs => ?_
  refine wpList_nil ?_
  refine then_normal ?_
  refine wp_seq ?_
  obtain ⟨x188, h186, hsh⟩ := bind_t hsh
  obtain ⟨b194, o195, q192, c193, h196, h189, h190, h191, h187⟩ := hw.elemV 0 rfl h186
  have hsv197 := hs
  have hwv198 := hw
  subst h196
  have hs := hsv197
  have hw := hwv198
  obtain ⟨_, rfl, rfl⟩ := h187
  have hw := hw.addE h191
  obtain ⟨x201, h199, hsh⟩ := bind_t hsh
  obtain ⟨q205, c206, h202, h203, h204, h200⟩ := hw.elemK 1 rfl h199
  obtain ⟨_, rfl, rfl⟩ := h200
  have hw := hw.addE h204
  refine wp_only (fun a w => ∃ (Sv207 : Nat → Prop), Sl 23 [(0, .slice (some ⟨b194, o195, none⟩) l1.length k3), (5, .int .i64 (l1.length : Int)), (6, .int .i64 sv82), (21, .bool (x188 != x201))] a ∧ Wd ⟨w0, S0, []⟩ Sv207 [] [SlA (some ⟨b194, o195, none⟩) l1.length k3 l1] w) ?_ ?_
  ·refine h_b (C := Cls [] [CeA b194 q205 [.int .i64 x201], CeA b194 q192 [.int .i64 x188]]) (by kernel_rfl) rfl (hw.drew.cs [] [0, 1] rfl rfl) fun hC => ?_
   have hw := hw.drew
   refine h_g hs 0 rfl (by kernel_rfl) rfl rfl hC rfl (fun w hC => y_move rfl) fun a hs => ?_
   refine h_g hs 1 rfl (by kernel_rfl) rfl rfl hC rfl (fun w hC => y_move rfl) fun a hs => ?_
   refine h_g hs 2 rfl (by kernel_rfl) rfl rfl hC rfl (fun w hC => y_indexAt Try.runUnderlying24 Try.sizeOf3 rfl rfl h189.1 h189.2 h190) fun a hs => ?_
   refine h_g hs 3 rfl (by kernel_rfl) rfl rfl hC rfl (fun w hC => y_loadE1 (j := 0) (hC.ceAt 1 rfl) rfl Try.isAgg3 rfl) fun a hs => ?_
   refine h_g hs 4 rfl (by kernel_rfl) rfl rfl hC rfl (fun w hC => y_move rfl) fun a hs => ?_
   refine h_g hs 5 rfl (by kernel_rfl) rfl rfl hC rfl (fun w hC => y_move rfl) fun a hs => ?_
   refine h_g hs 6 rfl (by kernel_rfl) rfl rfl hC rfl (fun w hC => y_len Try.runUnderlying24 rfl) fun a hs => ?_
   refine h_g hs 7 rfl (by kernel_rfl) rfl rfl hC rfl (fun w hC => y_sub rfl rfl) fun a hs => ?_
   refine h_g hs 8 rfl (by kernel_rfl) rfl rfl hC rfl (fun w hC => y_move rfl) fun a hs => ?_
   refine h_g hs 9 rfl (by kernel_rfl) rfl rfl hC rfl (fun w hC => y_sub rfl rfl) fun a hs => ?_
   refine h_g hs 10 rfl (by kernel_rfl) rfl rfl hC rfl (fun w hC => y_indexAt Try.runUnderlying24 Try.sizeOf3 rfl rfl h202.1 h202.2 h203) fun a hs => ?_
   refine h_g hs 11 rfl (by kernel_rfl) rfl rfl hC rfl (fun w hC => y_loadE1 (j := 0) (hC.ceAt 0 rfl) rfl Try.isAgg3 rfl) fun a hs => ?_
   refine h_g hs 12 rfl (by kernel_rfl) rfl rfl hC rfl (fun w hC => y_neq rfl rfl) fun a hs => ?_
   refine h_done (by kernel_rfl) ?_
   exact ⟨Sv132, (hs.wk rfl), (hw.ft [] [2] (by decide) rfl rfl)⟩
  ·rintro a w ⟨Sv207, hs, hw⟩
   refine then_normal ?_
   refine wp_cond_split (hs.ev rfl) (fun h209 => ?_) (fun h209 => ?_)
   ·have hsh := ite_t hsh h209
    refine wp_seq ?_
    refine wp_region_lit ?_
    refine st_val hs (y_assign rfl) trivial rfl rfl fun a hs => ?_
    refine wpList_nil ?_
    refine then_normal ?_
    have hsh := Option.some.inj hsh
    subst hsh
    have h210 := hd157 _ rfl
    subst h210
    refine wp_ret ?_
    refine blk_ret ?_
    refine then_ret ?_
    refine then_ret ?_
    refine blk_ret ?_
    refine then_ret ?_
    exact ret1 hs rfl (rv_tmp rfl) (hw.ret rfl)
   ·have hsh := ite_f hsh h209
    refine wp_skip ?_
    refine blk_normal ?_
    refine then_normal ?_
    refine wp_region_lit ?_
    refine st_val hs (y_add rfl rfl) trivial rfl rfl fun a hs => ?_
    refine st_val hs (y_move rfl) trivial rfl rfl fun a hs => ?_
    refine wpList_nil ?_
    refine then_normal ?_
    exact ⟨_, (Option.some.inj hsh).symm, Sv207, (hs.wk rfl), (hw.ft [] [0] (by decide) rfl rfl)⟩
 ·have hsh := ite_f hsh h162
  obtain ⟨rv211, hsh, h212⟩ := map_t hsh
  have h212 := (hd157 _ h212.symm).symm
  subst h212
  refine wp_exit ?_
  refine then_exit ?_
  refine then_exit ?_
  refine blk_exit ?_
  refine then_normal ?_
  refine wp_seq ?_
  refine wp_region_lit ?_
  refine st_val hs (y_assign rfl) trivial rfl rfl fun a hs => ?_
  refine wpList_nil ?_
  refine then_normal ?_
  have hsh := Option.some.inj hsh
  subst hsh
  refine wp_ret ?_
  exact ret1 hs rfl (rv_tmp rfl) (hw.ret rfl)

abbrev response_gcd_rd (w0 : World) (X : List Nat) (r : Int) : (Nat → Prop) → World → Value → Prop := fun S w v => v = .int .i64 r
set_option maxHeartbeats 4000000 in
set_option maxRecDepth 100000 in
theorem response_gcd_ok {w0 : World} {S0 : Nat → Prop} {a1 : Int} {b2 : Int} {r : Int} (hsh : response_gcd a1 b2 = some r) (hS : ∀ b, S0 b → b < w0.heap.size) : Calls Try.prog 87 #[.int .i64 a1, .int .i64 b2] w0 (Ret ([]) w0 S0 (response_gcd_rd w0 ([]) r)) := by
 refine calls_of_wp Try.func87 rfl ?_
 have hs := Sl.enter #[.int .i64 a1, .int .i64 b2] 12 [(0, .int .i64 a1), (1, .int .i64 b2)] rfl ⟨rfl, rfl, trivial⟩
 have hw := Wd.enter (E := []) hS (fun _ h => (by cases h))
 delta response_gcd at hsh
 refine wp_seq ?_
 refine wp_region_lit ?_
 refine st_val hs (y_assign rfl) trivial rfl rfl fun a hs => ?_
 refine wpList_nil ?_
 refine then_normal ?_
 refine wp_seq ?_
 obtain ⟨e21, h32, hsh⟩ := bind_t hsh
 refine wp_join (fun a w => ∃ (Sv22 : Nat → Prop), Sl 12 [(0, .int .i64 e21)] a ∧ Wd ⟨w0, S0, []⟩ Sv22 [] [] w) ?_ ?_
 ·refine wp_block ?_
  refine wp_while (fun sv3 a w => ∃ (Sv13 : Nat → Prop), Sl 12 [(0, .int .i64 sv3.1), (1, .int .i64 sv3.2)] a ∧ Wd ⟨w0, S0, []⟩ Sv13 [] [] w) (a1, b2) h32 ⟨S0, (hs.wk rfl), (hw.ft [] [] (by decide) rfl rfl)⟩ ?_
  clear h32
  repeat clear hsh
  rintro sv3 a w tv19 ⟨Sv13, hs, hw⟩ hsh hd18
  delta response_gcd_l1 at hsh
  refine wp_seq ?_
  refine wp_seq ?_
  refine wp_region_lit ?_
  refine st_val hs (y_move rfl) trivial rfl rfl fun a hs => ?_
  refine st_val hs (y_neq rfl rfl) trivial rfl rfl fun a hs => ?_
  refine wpList_nil ?_
  refine then_normal ?_
  refine wp_cond_split (hs.ev rfl) (fun h24 => ?_) (fun h24 => ?_)
  ·have hsh := ite_t hsh h24
   refine wp_skip ?_
   refine then_normal ?_
   refine wp_block ?_
   obtain ⟨rem29, h28, hsh⟩ := bind_t hsh
   refine wp_only (fun a w => ∃ (Sv30 : Nat → Prop), Sl 12 [(0, .int .i64 sv3.2), (1, .int .i64 rem29)] a ∧ Wd ⟨w0, S0, []⟩ Sv30 [] [] w) ?_ ?_
   ·refine h_b (C := Cls [] []) (by kernel_rfl) rfl (hw.drew.cs [] [] rfl rfl) fun hC => ?_
    have hw := hw.drew
    refine h_g hs 0 rfl (by kernel_rfl) rfl rfl hC rfl (fun w hC => y_move rfl) fun a hs => ?_
    refine h_g hs 1 rfl (by kernel_rfl) rfl rfl hC rfl (fun w hC => y_move rfl) fun a hs => ?_
    refine h_g hs 2 rfl (by kernel_rfl) rfl rfl hC rfl (fun w hC => y_move rfl) fun a hs => ?_
    refine h_g hs 3 rfl (by kernel_rfl) rfl rfl hC rfl (fun w hC => y_remM rfl rfl h28) fun a hs => ?_
    refine h_g hs 4 rfl (by kernel_rfl) rfl rfl hC rfl (fun w hC => y_assign rfl) fun a hs => ?_
    refine h_g hs 5 rfl (by kernel_rfl) rfl rfl hC rfl (fun w hC => y_assign rfl) fun a hs => ?_
    refine h_done (by kernel_rfl) ?_
    exact ⟨Sv13, (hs.wk rfl), (hw.ft [] [] (by decide) rfl rfl)⟩
   ·rintro a w ⟨Sv30, hs, hw⟩
    refine blk_normal ?_
    refine then_normal ?_
    exact ⟨_, (Option.some.inj hsh).symm, Sv30, (hs.wk rfl), (hw.ft [] [] (by decide) rfl rfl)⟩
  ·have hsh := ite_f hsh h24
   refine wp_exit ?_
   refine then_exit ?_
   refine then_exit ?_
   refine blk_exit ?_
   have hsh := Option.some.inj hsh
   subst hsh
   have h31 := hd18 _ rfl
   subst h31
   refine then_normal ?_
   exact ⟨Sv13, (hs.wk rfl), (hw.ft [] [] (by decide) rfl rfl)⟩
 ·rintro a w ⟨Sv22, hs, hw⟩
  refine then_normal ?_
  refine wp_seq ?_
  refine wp_region_lit ?_
  refine st_val hs (y_move rfl) trivial rfl rfl fun a hs => ?_
  refine st_val hs (y_assign rfl) trivial rfl rfl fun a hs => ?_
  refine wpList_nil ?_
  refine then_normal ?_
  have hsh := Option.some.inj hsh
  subst hsh
  refine wp_ret ?_
  exact ret1 hs rfl (rv_tmp rfl) (hw.ret rfl)

abbrev response_faster_rd (w0 : World) (X : List Nat) (r : (Rate × Bool)) : (Nat → Prop) → World → Value → Prop := fun S w v => v = .tuple #[.agg #[.int .i64 r.1.Num, .int .i64 r.1.Den], .bool r.2]
set_option maxHeartbeats 4000000 in
set_option maxRecDepth 100000 in
theorem response_faster_ok {w0 : World} {S0 : Nat → Prop} {r1 : Rate} {n2 : Int} {r : (Rate × Bool)} (hsh : response_faster r1 n2 = some r) (hS : ∀ b, S0 b → b < w0.heap.size) : Calls Try.prog 53 #[.agg #[.int .i64 r1.Num, .int .i64 r1.Den], .int .i64 n2] w0 (Ret ([]) w0 S0 (response_faster_rd w0 ([]) r)) := by
 refine calls_of_wp Try.func53 rfl ?_
 have hs := Sl.enter #[.agg #[.int .i64 r1.Num, .int .i64 r1.Den], .int .i64 n2] 26 [(0, .agg #[.int .i64 r1.Num, .int .i64 r1.Den]), (1, .int .i64 n2)] rfl ⟨rfl, rfl, trivial⟩
 have hw := Wd.enter (E := []) hS (fun _ h => (by cases h))
 delta response_faster at hsh
 refine wp_seq ?_
 refine wp_region_lit ?_
 refine w_box (cs := [.int .i64 r1.Num, .int .i64 r1.Den]) hs hw rfl rfl rfl trivial ?_
 intro b3 a w hs hw
 refine w_alloc (cs := [.int .i64 0, .int .i64 0]) hs hw Try.zeroValue51 rfl rfl trivial ?_
 intro b4 a w hs hw
 refine st_val hs (y_assign rfl) trivial rfl rfl fun a hs => ?_
 refine wpList_nil ?_
 refine then_normal ?_
 refine wp_seq ?_
 refine wp_region_lit ?_
 refine st_val hs (y_fieldAddr (o' := 1) Try.runUnderlying51 rfl Try.sizeOf3 rfl rfl rfl) trivial rfl rfl fun a hs => ?_
 refine st_val hs (y_loadB1 (hw.ownAt 1 rfl) rfl Try.isAgg3 rfl) trivial rfl rfl fun a hs => ?_
 refine st_val hs (y_move rfl) trivial rfl rfl fun a hs => ?_
 obtain ⟨rv6, h5, hsh⟩ := bind_t hsh
 refine st_callR hs (response_gcd_ok h5 hw.bdom) (do_call Try.call87 rfl) trivial rfl rfl ?_
 intro v10 Sv7 w a h8 h9 hs
 subst h9
 have hw := hw.callB h8
 refine st_val hs (y_assign rfl) trivial rfl rfl fun a hs => ?_
 refine wpList_nil ?_
 refine then_normal ?_
 refine wp_seq ?_
 obtain ⟨quo13, h12, hsh⟩ := bind_t hsh
 obtain ⟨quo15, h14, hsh⟩ := bind_t hsh
 refine wp_only (fun a w => ∃ (Sv17 : Nat → Prop) (b16 : Nat), Sl 26 [(4, .pointer (some ⟨b4, 0, none⟩)), (7, .pointer (some ⟨b16, 0, none⟩))] a ∧ Wd ⟨w0, S0, []⟩ Sv17 [.box b4 [.int .i64 0, .int .i64 0] 51, .box b16 [.int .i64 (w64 (r1.Num * quo13)), .int .i64 quo15] 51] [] w) ?_ ?_
 ·refine h_b (C := Cls [.box b4 [.int .i64 0, .int .i64 0] 51, .box b3 [.int .i64 r1.Num, .int .i64 r1.Den] 51] []) (by kernel_rfl) rfl (hw.drew.cs [0, 1] [] rfl rfl) fun hC => ?_
  have hw := hw.drew
  refine h_g hs 0 rfl (by kernel_rfl) rfl rfl hC rfl (fun w hC => y_fieldAddr (o' := 0) Try.runUnderlying51 rfl Try.sizeOf3 rfl rfl rfl) fun a hs => ?_
  refine h_g hs 1 rfl (by kernel_rfl) rfl rfl hC rfl (fun w hC => y_loadB1 (hC.ownAt 1 rfl) rfl Try.isAgg3 rfl) fun a hs => ?_
  refine h_g hs 2 rfl (by kernel_rfl) rfl rfl hC rfl (fun w hC => y_move rfl) fun a hs => ?_
  refine h_g hs 3 rfl (by kernel_rfl) rfl rfl hC rfl (fun w hC => y_move rfl) fun a hs => ?_
  refine h_g hs 4 rfl (by kernel_rfl) rfl rfl hC rfl (fun w hC => y_quoM rfl rfl h12) fun a hs => ?_
  refine h_g hs 5 rfl (by kernel_rfl) rfl rfl hC rfl (fun w hC => y_mul rfl rfl) fun a hs => ?_
  refine h_g hs 6 rfl (by kernel_rfl) rfl rfl hC rfl (fun w hC => y_fieldAddr (o' := 1) Try.runUnderlying51 rfl Try.sizeOf3 rfl rfl rfl) fun a hs => ?_
  refine h_g hs 7 rfl (by kernel_rfl) rfl rfl hC rfl (fun w hC => y_loadB1 (hC.ownAt 1 rfl) rfl Try.isAgg3 rfl) fun a hs => ?_
  refine h_g hs 8 rfl (by kernel_rfl) rfl rfl hC rfl (fun w hC => y_move rfl) fun a hs => ?_
  refine h_g hs 9 rfl (by kernel_rfl) rfl rfl hC rfl (fun w hC => y_quoM rfl rfl h14) fun a hs => ?_
  refine h_g hs 10 rfl (by kernel_rfl) rfl rfl hC rfl (fun w hC => y_build (vs := [(0, .int .i64 (w64 (r1.Num * quo13))), (1, .int .i64 quo15)]) Bld51 rfl rfl) fun a hs => ?_
  refine h_one (i := 11) (by kernel_rfl) rfl ?_
  refine w_alloc (cs := [.int .i64 0, .int .i64 0]) hs hw Try.zeroValue51 rfl rfl trivial ?_
  intro b16 a w hs hw
  refine h_nx (hw.cs [1, 2] [] rfl rfl) fun hC => ?_
  refine h_one (i := 12) (by kernel_rfl) rfl ?_
  refine w_store (m := 2) (cs' := [.int .i64 (w64 (r1.Num * quo13)), .int .i64 quo15]) hs hw 0 rfl rfl rfl Try.sizeOf51 rfl rfl rfl rfl trivial ?_
  intro a w hs hw
  refine h_nx (hw.cs [1, 2] [] rfl rfl) fun hC => ?_
  refine h_done (by kernel_rfl) ?_
  exact ⟨S0, b16, (hs.wk rfl), (hw.ft [1, 0] [] (by decide) rfl rfl)⟩
 ·rintro a w ⟨Sv17, b16, hs, hw⟩
  refine then_normal ?_
  refine wp_seq ?_
  obtain ⟨rv19, h18, hsh⟩ := bind_t hsh
  refine wp_only (fun a w => ∃ (Sv20 : Nat → Prop), Sl 26 [(4, .pointer (some ⟨b4, 0, none⟩)), (5, .bool rv19)] a ∧ Wd ⟨w0, S0, []⟩ Sv20 [.box b4 [.int .i64 (w64 (r1.Num * quo13)), .int .i64 quo15] 51] [] w) ?_ ?_
  ·refine h_b (C := Cls [.box b16 [.int .i64 (w64 (r1.Num * quo13)), .int .i64 quo15] 51] []) (by kernel_rfl) rfl (hw.drew.cs [1] [] rfl rfl) fun hC => ?_
   have hw := hw.drew
   refine h_g hs 0 rfl (by kernel_rfl) rfl rfl hC rfl (fun w hC => y_loadBA (hC.ownAt 0 rfl) rfl Try.isAgg51 Try.sizeOf51 rfl rfl) fun a hs => ?_
   refine h_g hs 1 rfl (by kernel_rfl) rfl rfl hC rfl (fun w hC => y_loadBA (hC.ownAt 0 rfl) rfl Try.isAgg51 Try.sizeOf51 rfl rfl) fun a hs => ?_
   refine h_one (i := 2) (by kernel_rfl) rfl ?_
   refine st_callR hs (rate_Valid_ok h18 hw.bdom) (do_call Try.call52 rfl) trivial rfl rfl ?_
   intro v24 Sv21 w a h22 h23 hs
   subst h23
   have hw := hw.callB h22
   refine h_nx (hw.cs [1] [] rfl rfl) fun hC => ?_
   refine h_one (i := 3) (by kernel_rfl) rfl ?_
   refine w_store (m := 2) (cs' := [.int .i64 (w64 (r1.Num * quo13)), .int .i64 quo15]) hs hw 0 rfl rfl rfl Try.sizeOf51 rfl rfl rfl rfl trivial ?_
   intro a w hs hw
   refine h_nx (hw.cs [1] [] rfl rfl) fun hC => ?_
   refine h_g hs 4 rfl (by kernel_rfl) rfl rfl hC rfl (fun w hC => y_assign rfl) fun a hs => ?_
   refine h_done (by kernel_rfl) ?_
   exact ⟨Sv17, (hs.wk rfl), (hw.ft [0] [] (by decide) rfl rfl)⟩
  ·rintro a w ⟨Sv20, hs, hw⟩
   refine then_normal ?_
   have hsh := Option.some.inj hsh
   subst hsh
   refine wp_ret ?_
   exact ret2 hs rfl (rv_cell hw 0 rfl rfl Try.isAgg51 Try.sizeOf51 rfl) (rv_tmp rfl) (hw.ret rfl)

abbrev response_plus_rd (w0 : World) (X : List Nat) (r : Ratio) : (Nat → Prop) → World → Value → Prop := fun S w v => v = .agg #[.int .i64 r.Num, .int .i64 r.Den]
set_option maxHeartbeats 4000000 in
set_option maxRecDepth 100000 in
theorem response_plus_ok {w0 : World} {S0 : Nat → Prop} {a1 : Ratio} {b2 : Ratio} {r : Ratio} (hsh : response_plus a1 b2 = some r) (hS : ∀ b, S0 b → b < w0.heap.size) : Calls Try.prog 55 #[.agg #[.int .i64 a1.Num, .int .i64 a1.Den], .agg #[.int .i64 b2.Num, .int .i64 b2.Den]] w0 (Ret ([]) w0 S0 (response_plus_rd w0 ([]) r)) := by
 refine calls_of_wp Try.func55 rfl ?_
 have hs := Sl.enter #[.agg #[.int .i64 a1.Num, .int .i64 a1.Den], .agg #[.int .i64 b2.Num, .int .i64 b2.Den]] 34 [(0, .agg #[.int .i64 a1.Num, .int .i64 a1.Den]), (1, .agg #[.int .i64 b2.Num, .int .i64 b2.Den])] rfl ⟨rfl, rfl, trivial⟩
 have hw := Wd.enter (E := []) hS (fun _ h => (by cases h))
 delta response_plus at hsh
 refine wp_seq ?_
 refine wp_region_lit ?_
 refine w_box (cs := [.int .i64 a1.Num, .int .i64 a1.Den]) hs hw rfl rfl rfl trivial ?_
 intro b3 a w hs hw
 refine w_box (cs := [.int .i64 b2.Num, .int .i64 b2.Den]) hs hw rfl rfl rfl trivial ?_
 intro b4 a w hs hw
 refine w_alloc (cs := [.int .i64 0, .int .i64 0]) hs hw Try.zeroValue57 rfl rfl trivial ?_
 intro b5 a w hs hw
 refine wpList_nil ?_
 refine then_normal ?_
 refine wp_seq ?_
 obtain ⟨num7, h6, hsh⟩ := bind_t hsh
 obtain ⟨den9, h8, hsh⟩ := bind_t hsh
 refine wp_only (fun a w => ∃ (Sv10 : Nat → Prop), Sl 34 [(4, .pointer (some ⟨b5, 0, none⟩)), (5, .int .i64 num7), (6, .int .i64 den9)] a ∧ Wd ⟨w0, S0, []⟩ Sv10 [.box b5 [.int .i64 0, .int .i64 0] 57] [] w) ?_ ?_
 ·refine h_b (C := Cls [.box b5 [.int .i64 0, .int .i64 0] 57, .box b4 [.int .i64 b2.Num, .int .i64 b2.Den] 57, .box b3 [.int .i64 a1.Num, .int .i64 a1.Den] 57] []) (by kernel_rfl) rfl (hw.drew.cs [0, 1, 2] [] rfl rfl) fun hC => ?_
  have hw := hw.drew
  refine h_g hs 0 rfl (by kernel_rfl) rfl rfl hC rfl (fun w hC => y_fieldAddr (o' := 0) Try.runUnderlying57 rfl Try.sizeOf3 rfl rfl rfl) fun a hs => ?_
  refine h_g hs 1 rfl (by kernel_rfl) rfl rfl hC rfl (fun w hC => y_loadB1 (hC.ownAt 2 rfl) rfl Try.isAgg3 rfl) fun a hs => ?_
  refine h_g hs 2 rfl (by kernel_rfl) rfl rfl hC rfl (fun w hC => y_fieldAddr (o' := 1) Try.runUnderlying57 rfl Try.sizeOf3 rfl rfl rfl) fun a hs => ?_
  refine h_g hs 3 rfl (by kernel_rfl) rfl rfl hC rfl (fun w hC => y_loadB1 (hC.ownAt 1 rfl) rfl Try.isAgg3 rfl) fun a hs => ?_
  refine h_g hs 4 rfl (by kernel_rfl) rfl rfl hC rfl (fun w hC => y_mul rfl rfl) fun a hs => ?_
  refine h_g hs 5 rfl (by kernel_rfl) rfl rfl hC rfl (fun w hC => y_fieldAddr (o' := 0) Try.runUnderlying57 rfl Try.sizeOf3 rfl rfl rfl) fun a hs => ?_
  refine h_g hs 6 rfl (by kernel_rfl) rfl rfl hC rfl (fun w hC => y_loadB1 (hC.ownAt 1 rfl) rfl Try.isAgg3 rfl) fun a hs => ?_
  refine h_g hs 7 rfl (by kernel_rfl) rfl rfl hC rfl (fun w hC => y_fieldAddr (o' := 1) Try.runUnderlying57 rfl Try.sizeOf3 rfl rfl rfl) fun a hs => ?_
  refine h_g hs 8 rfl (by kernel_rfl) rfl rfl hC rfl (fun w hC => y_loadB1 (hC.ownAt 2 rfl) rfl Try.isAgg3 rfl) fun a hs => ?_
  refine h_g hs 9 rfl (by kernel_rfl) rfl rfl hC rfl (fun w hC => y_mul rfl rfl) fun a hs => ?_
  refine h_g hs 10 rfl (by kernel_rfl) rfl rfl hC rfl (fun w hC => y_add rfl rfl) fun a hs => ?_
  refine h_g hs 11 rfl (by kernel_rfl) rfl rfl hC rfl (fun w hC => y_fieldAddr (o' := 1) Try.runUnderlying57 rfl Try.sizeOf3 rfl rfl rfl) fun a hs => ?_
  refine h_g hs 12 rfl (by kernel_rfl) rfl rfl hC rfl (fun w hC => y_loadB1 (hC.ownAt 2 rfl) rfl Try.isAgg3 rfl) fun a hs => ?_
  refine h_g hs 13 rfl (by kernel_rfl) rfl rfl hC rfl (fun w hC => y_fieldAddr (o' := 1) Try.runUnderlying57 rfl Try.sizeOf3 rfl rfl rfl) fun a hs => ?_
  refine h_g hs 14 rfl (by kernel_rfl) rfl rfl hC rfl (fun w hC => y_loadB1 (hC.ownAt 1 rfl) rfl Try.isAgg3 rfl) fun a hs => ?_
  refine h_g hs 15 rfl (by kernel_rfl) rfl rfl hC rfl (fun w hC => y_mul rfl rfl) fun a hs => ?_
  refine h_g hs 16 rfl (by kernel_rfl) rfl rfl hC rfl (fun w hC => y_assignI rfl h6) fun a hs => ?_
  refine h_g hs 17 rfl (by kernel_rfl) rfl rfl hC rfl (fun w hC => y_assignI rfl h8) fun a hs => ?_
  refine h_done (by kernel_rfl) ?_
  exact ⟨S0, (hs.wk rfl), (hw.ft [0] [] (by decide) rfl rfl)⟩
 ·rintro a w ⟨Sv10, hs, hw⟩
  refine then_normal ?_
  refine wp_seq ?_
  refine wp_region_lit ?_
  refine st_val hs (y_move rfl) trivial rfl rfl fun a hs => ?_
  refine st_val hs (y_move rfl) trivial rfl rfl fun a hs => ?_
  obtain ⟨rv12, h11, hsh⟩ := bind_t hsh
  refine st_callR hs (response_gcd_ok h11 hw.bdom) (do_call Try.call87 rfl) trivial rfl rfl ?_
  intro v16 Sv13 w a h14 h15 hs
  subst h15
  have hw := hw.callB h14
  refine st_val hs (y_assign rfl) trivial rfl rfl fun a hs => ?_
  refine wpList_nil ?_
  refine then_normal ?_
  refine wp_seq ?_
  obtain ⟨quo19, h18, hsh⟩ := bind_t hsh
  obtain ⟨quo21, h20, hsh⟩ := bind_t hsh
  refine wp_only (fun a w => ∃ (Sv22 : Nat → Prop), Sl 34 [(4, .pointer (some ⟨b5, 0, none⟩))] a ∧ Wd ⟨w0, S0, []⟩ Sv22 [.box b5 [.int .i64 quo19, .int .i64 quo21] 57] [] w) ?_ ?_
  ·refine h_b (C := Cls [] []) (by kernel_rfl) rfl (hw.drew.cs [] [] rfl rfl) fun hC => ?_
   have hw := hw.drew
   refine h_g hs 0 rfl (by kernel_rfl) rfl rfl hC rfl (fun w hC => y_move rfl) fun a hs => ?_
   refine h_g hs 1 rfl (by kernel_rfl) rfl rfl hC rfl (fun w hC => y_move rfl) fun a hs => ?_
   refine h_g hs 2 rfl (by kernel_rfl) rfl rfl hC rfl (fun w hC => y_quoM rfl rfl h18) fun a hs => ?_
   refine h_g hs 3 rfl (by kernel_rfl) rfl rfl hC rfl (fun w hC => y_move rfl) fun a hs => ?_
   refine h_g hs 4 rfl (by kernel_rfl) rfl rfl hC rfl (fun w hC => y_move rfl) fun a hs => ?_
   refine h_g hs 5 rfl (by kernel_rfl) rfl rfl hC rfl (fun w hC => y_quoM rfl rfl h20) fun a hs => ?_
   refine h_g hs 6 rfl (by kernel_rfl) rfl rfl hC rfl (fun w hC => y_build (vs := [(0, .int .i64 quo19), (1, .int .i64 quo21)]) Bld57 rfl rfl) fun a hs => ?_
   refine h_one (i := 7) (by kernel_rfl) rfl ?_
   refine w_store (m := 2) (cs' := [.int .i64 quo19, .int .i64 quo21]) hs hw 0 rfl rfl rfl Try.sizeOf57 rfl rfl rfl rfl trivial ?_
   intro a w hs hw
   refine h_nx (hw.cs [] [] rfl rfl) fun hC => ?_
   refine h_done (by kernel_rfl) ?_
   exact ⟨Sv10, (hs.wk rfl), (hw.ft [0] [] (by decide) rfl rfl)⟩
  ·rintro a w ⟨Sv22, hs, hw⟩
   refine then_normal ?_
   have hsh := Option.some.inj hsh
   subst hsh
   refine wp_ret ?_
   exact ret1 hs rfl (rv_cell hw 0 rfl rfl Try.isAgg57 Try.sizeOf57 rfl) (hw.ret rfl)

abbrev response_Delay_rd (w0 : World) (X : List Nat) (r : (Ratio × Int)) : (Nat → Prop) → World → Value → Prop := fun S w v => v = .tuple #[.agg #[.int .i64 r.1.Num, .int .i64 r.1.Den], .int .i64 r.2]
set_option maxHeartbeats 4000000 in
set_option maxRecDepth 100000 in
theorem response_Delay_ok {w0 : World} {S0 : Nat → Prop} {p2 : Option Addr} {k3 : Nat} {r1 : Response} {out5 : Rate} {r : (Ratio × Int)} (hsh : response_Delay r1 out5 = some r) (hS : ∀ b, S0 b → b < w0.heap.size) (h4 : (SlA p2 r1.Stages.length k3 r1.Stages).p S0 w0) : Calls Try.prog 20 #[.agg #[.slice p2 r1.Stages.length k3], .agg #[.int .i64 out5.Num, .int .i64 out5.Den]] w0 (Ret ([]) w0 S0 (response_Delay_rd w0 ([]) r)) := by
 refine calls_of_wp Try.func20 rfl ?_
 have hs := Sl.enter #[.agg #[.slice p2 r1.Stages.length k3], .agg #[.int .i64 out5.Num, .int .i64 out5.Den]] 89 [(0, .agg #[.slice p2 r1.Stages.length k3]), (1, .agg #[.int .i64 out5.Num, .int .i64 out5.Den])] rfl ⟨rfl, rfl, trivial⟩
 have hw := Wd.enter (E := []) hS (fun _ h => (by cases h))
 have hw := hw.addE h4
 delta response_Delay at hsh
 refine wp_seq ?_
 refine wp_region_lit ?_
 refine w_box (cs := [.slice p2 r1.Stages.length k3]) hs hw rfl rfl rfl trivial ?_
 intro b6 a w hs hw
 refine w_box (cs := [.int .i64 out5.Num, .int .i64 out5.Den]) hs hw rfl rfl rfl trivial ?_
 intro b7 a w hs hw
 refine w_alloc (cs := [.int .i64 0, .int .i64 0]) hs hw Try.zeroValue57 rfl rfl trivial ?_
 intro b8 a w hs hw
 refine st_val hs (y_assign rfl) trivial rfl rfl fun a hs => ?_
 refine wpList_nil ?_
 refine then_normal ?_
 refine wp_seq ?_
 refine wp_seq ?_
 refine wp_region_lit ?_
 refine st_val hs (y_loadBA (hw.ownAt 2 rfl) rfl Try.isAgg37 Try.sizeOf37 rfl rfl) trivial rfl rfl fun a hs => ?_
 obtain ⟨rv10, h9, hsh⟩ := bind_t hsh
 refine st_callR hs (response_Valid_ok h9 hw.bdom (hw.bE 0 rfl)) (do_call Try.call33 rfl) trivial rfl rfl ?_
 intro v14 Sv11 w a h12 h13 hs
 subst h13
 have hw := hw.callB h12
 refine st_val hs (y_not rfl) trivial rfl rfl fun a hs => ?_
 refine st_val hs (y_move rfl) trivial rfl rfl fun a hs => ?_
 obtain ⟨c24, hc24, hsh⟩ := bind_t hsh
 refine wpl_join 4 (fun a w => ∃ (Sv25 : Nat → Prop), Sl 89 [(2, .pointer (some ⟨b6, 0, none⟩)), (3, .pointer (some ⟨b7, 0, none⟩)), (4, .pointer (some ⟨b8, 0, none⟩)), (20, .bool c24)] a ∧ Wd ⟨w0, S0, []⟩ Sv25 [.box b6 [.slice p2 r1.Stages.length k3] 37, .box b7 [.int .i64 out5.Num, .int .i64 out5.Den] 51, .box b8 [.int .i64 0, .int .i64 0] 57] [SlA p2 r1.Stages.length k3 r1.Stages] w) ?_ ?_
 ·rcases Bool.eq_false_or_eq_true (!rv10) with h23 | h23
  ·have hs := hs.fix 16 (.bool true) rfl (vb h23)
   have hsh := ite_t hc24 h23
   refine st_skip hs rfl rfl rfl rfl rfl fun a hs => ?_
   refine st_skip hs rfl rfl rfl rfl rfl fun a hs => ?_
   refine st_skip hs rfl rfl rfl rfl rfl fun a hs => ?_
   refine st_val hs (y_pickT rfl rfl) trivial rfl rfl fun a hs => ?_
   refine wpList_nil ?_
   have hsh := Option.some.inj hsh
   subst hsh
   refine then_normal ?_
   exact ⟨S0, (hs.wk rfl), (hw.ft [2, 1, 0] [0] (by decide) rfl rfl)⟩
  ·have hs := hs.fix 16 (.bool false) rfl (vb h23)
   have hsh := ite_f hc24 h23
   refine st_val hs (y_loadBA (hw.ownAt 1 rfl) rfl Try.isAgg51 Try.sizeOf51 rfl rfl) ⟨_, rfl, rfl⟩ rfl rfl fun a hs => ?_
   obtain ⟨rv27, h26, hsh⟩ := bind_t hsh
   refine st_callR hs (rate_Valid_ok h26 hw.bdom) (do_call Try.call52 rfl) ⟨_, rfl, rfl⟩ rfl rfl ?_
   intro v31 Sv28 w a h29 h30 hs
   subst h30
   have hw := hw.callB h29
   refine st_val hs (y_not rfl) ⟨_, rfl, rfl⟩ rfl rfl fun a hs => ?_
   refine st_val hs (y_pickF rfl rfl) trivial rfl rfl fun a hs => ?_
   refine wpList_nil ?_
   have hsh := Option.some.inj hsh
   subst hsh
   refine then_normal ?_
   exact ⟨S0, (hs.wk rfl), (hw.ft [2, 1, 0] [0] (by decide) rfl rfl)⟩
 ·rintro a w ⟨Sv25, hs, hw⟩
  refine wpList_nil ?_
  refine then_normal ?_
  refine wp_cond_split (hs.ev rfl) (fun h34 => ?_) (fun h34 => ?_)
  ·have hsh := ite_t hsh h34
   refine wp_seq ?_
   refine wp_region_lit ?_
   refine st_val hs (y_build (vs := []) Bld57 rfl rfl) trivial rfl rfl fun a hs => ?_
   refine w_store (m := 2) (cs' := [.int .i64 0, .int .i64 0]) hs hw 2 rfl rfl rfl Try.sizeOf57 rfl rfl rfl rfl trivial ?_
   intro a w hs hw
   refine st_val hs (y_assign rfl) trivial rfl rfl fun a hs => ?_
   refine wpList_nil ?_
   refine then_normal ?_
   have hsh := Option.some.inj hsh
   subst hsh
   refine wp_ret ?_
   refine then_ret ?_
   exact ret2 hs rfl (rv_cell hw 2 rfl rfl Try.isAgg57 Try.sizeOf57 rfl) (rv_tmp rfl) (hw.ret rfl)
  ·have hsh := ite_f hsh h34
   refine wp_skip ?_
   refine then_normal ?_
   refine wp_seq ?_
   refine wp_seq ?_
   refine wp_region_lit ?_
   refine st_val hs (y_fieldAddr (o' := 0) Try.runUnderlying37 rfl Try.sizeOf35 rfl rfl rfl) trivial rfl rfl fun a hs => ?_
   refine st_val hs (y_loadB1 (hw.ownAt 0 rfl) rfl Try.isAgg35 rfl) trivial rfl rfl fun a hs => ?_
   refine st_val hs (y_len Try.runUnderlying35 rfl) trivial rfl rfl fun a hs => ?_
   refine st_val hs (y_move rfl) trivial rfl rfl fun a hs => ?_
   refine wpList_nil ?_
   refine then_normal ?_
   refine wp_block ?_
   refine wp_while (fun sv151 a w => ∃ (Sv227 : Nat → Prop), Sl 89 [(2, .pointer (some ⟨b6, 0, none⟩)), (3, .pointer (some ⟨b7, 0, none⟩)), (4, .pointer (some ⟨b8, 0, none⟩)), (23, .slice p2 r1.Stages.length k3), (24, .int .i64 (r1.Stages.length : Int)), (25, .int .i64 sv151)] a ∧ Wd ⟨w0, S0, []⟩ Sv227 [.box b6 [.slice p2 r1.Stages.length k3] 37, .box b7 [.int .i64 out5.Num, .int .i64 out5.Den] 51, .box b8 [.int .i64 0, .int .i64 0] 57] [SlA p2 r1.Stages.length k3 r1.Stages] w) 0 hsh ⟨Sv25, (hs.wk rfl), (hw.ft [0, 1, 2] [0] (by decide) rfl rfl)⟩ ?_
   repeat clear hsh
   rintro sv151 a w tv266 ⟨Sv227, hs, hw⟩ hsh hd265
   delta response_Delay_l2 at hsh
   refine wp_seq ?_
   refine wp_region_lit ?_
   refine st_val hs (y_lss rfl rfl) trivial rfl rfl fun a hs => ?_
   refine wpList_nil ?_
   refine then_normal ?_
   refine wp_seq ?_
   refine wp_cond_split (hs.ev rfl) (fun h270 => ?_) (fun h270 => ?_)
   ·have hsh := ite_t hsh h270
    refine wp_skip ?_
    refine then_normal ?_
    refine wp_seq ?_
    refine wp_block ?_
    refine wp_seq ?_
    refine wp_region_lit ?_
    obtain ⟨x309, h307, hsh⟩ := bind_t hsh
    obtain ⟨b315, o316, q313, c314, h317, h310, h311, h312, h308⟩ := hw.elemV 0 rfl h307
    have hsv318 := hs
    have hwv319 := hw
    subst h317
    have hs := hsv318
    have hw := hwv319
    obtain ⟨_, _, _, _, _, _, _, _, _, _, rfl, rfl, rfl, rfl, rfl, rfl, rfl, rfl, ⟨p320, n321, k322, rfl, h323⟩, rfl, rfl⟩ := h308
    obtain rfl := h323.1
    have hw := hw.addE (e := SlA p320 _ k322 x309.Taps) h323
    have hw := hw.addE h312
    refine st_val hs (y_indexAt Try.runUnderlying35 Try.sizeOf26 rfl rfl h310.1 h310.2 h311) trivial rfl rfl fun a hs => ?_
    refine st_val hs (y_loadEA (j := 0) (hw.ceAt 0 rfl) rfl Try.isAgg26 Try.sizeOf26 rfl rfl) trivial rfl rfl fun a hs => ?_
    refine w_alloc (cs := [.int .i64 0, .int .i64 0, .int .i64 0, .int .i64 0, .int .i64 0, .int .i64 0, .int .i64 0, .slice none ([] : List Int).length 0, .int .i64 0, .int .i64 0]) hs hw Try.zeroValue26 rfl rfl trivial ?_
    intro b324 a w hs hw
    refine w_store (m := 10) (cs' := [.int .i64 x309.Kind, .int .i64 x309.Num.e0, .int .i64 x309.Num.e1, .int .i64 x309.Num.e2, .int .i64 x309.Den.e0, .int .i64 x309.Den.e1, .int .i64 x309.Den.e2, .slice p320 x309.Taps.length k322, .int .i64 x309.Factor, .int .i64 x309.Shift]) hs hw 0 rfl rfl rfl Try.sizeOf26 rfl rfl rfl rfl trivial ?_
    intro a w hs hw
    refine wpList_nil ?_
    refine then_normal ?_
    refine wp_seq ?_
    refine wp_region_lit ?_
    refine st_val hs (y_fieldAddr (o' := 0) Try.runUnderlying26 rfl Try.sizeOf3 rfl rfl rfl) trivial rfl rfl fun a hs => ?_
    refine st_val hs (y_loadB1 (hw.ownAt 0 rfl) rfl Try.isAgg3 rfl) trivial rfl rfl fun a hs => ?_
    refine st_val hs (y_eql rfl rfl) trivial rfl rfl fun a hs => ?_
    refine st_val hs (y_move rfl) trivial rfl rfl fun a hs => ?_
    obtain ⟨c333, hc333, hsh⟩ := bind_t hsh
    refine wpl_join 5 (fun a w => ∃ (Sv334 : Nat → Prop), Sl 89 [(2, .pointer (some ⟨b6, 0, none⟩)), (3, .pointer (some ⟨b7, 0, none⟩)), (4, .pointer (some ⟨b8, 0, none⟩)), (23, .slice (some ⟨b315, o316, none⟩) r1.Stages.length k3), (24, .int .i64 (r1.Stages.length : Int)), (25, .int .i64 sv151), (37, .bool c333)] a ∧ Wd ⟨w0, S0, []⟩ Sv334 [.box b6 [.slice (some ⟨b315, o316, none⟩) r1.Stages.length k3] 37, .box b7 [.int .i64 out5.Num, .int .i64 out5.Den] 51, .box b8 [.int .i64 0, .int .i64 0] 57, .box b324 [.int .i64 x309.Kind, .int .i64 x309.Num.e0, .int .i64 x309.Num.e1, .int .i64 x309.Num.e2, .int .i64 x309.Den.e0, .int .i64 x309.Den.e1, .int .i64 x309.Den.e2, .slice p320 x309.Taps.length k322, .int .i64 x309.Factor, .int .i64 x309.Shift] 26] [SlA (some ⟨b315, o316, none⟩) r1.Stages.length k3 r1.Stages, SlA p320 x309.Taps.length k322 x309.Taps] w) ?_ ?_
    ·rcases Bool.eq_false_or_eq_true (x309.Kind == 2) with h332 | h332
     ·have hs := hs.fix 32 (.bool true) rfl (vb h332)
      have hsh := ite_t hc333 h332
      refine st_val hs (y_fieldAddr (o' := 7) Try.runUnderlying26 rfl Try.sizeOf24 rfl rfl rfl) ⟨_, rfl, rfl⟩ rfl rfl fun a hs => ?_
      refine st_val hs (y_loadB1 (hw.ownAt 0 rfl) rfl Try.isAgg24 rfl) ⟨_, rfl, rfl⟩ rfl rfl fun a hs => ?_
      obtain ⟨rv336, h335, hsh⟩ := bind_t hsh
      refine st_callR hs (response_symmetric_ok h335 hw.bdom (hw.bE 1 rfl)) (do_call Try.call54 rfl) ⟨_, rfl, rfl⟩ rfl rfl ?_
      intro v340 Sv337 w a h338 h339 hs
      subst h339
      have hw := hw.callB h338
      refine st_val hs (y_not rfl) ⟨_, rfl, rfl⟩ rfl rfl fun a hs => ?_
      refine st_val hs (y_pickT rfl rfl) trivial rfl rfl fun a hs => ?_
      refine wpList_nil ?_
      have hsh := Option.some.inj hsh
      subst hsh
      refine then_normal ?_
      exact ⟨Sv227, (hs.wk rfl), (hw.ft [1, 2, 3, 0] [2, 1] (by decide) rfl rfl)⟩
     ·have hs := hs.fix 32 (.bool false) rfl (vb h332)
      have hsh := ite_f hc333 h332
      refine st_skip hs rfl rfl rfl rfl rfl fun a hs => ?_
      refine st_skip hs rfl rfl rfl rfl rfl fun a hs => ?_
      refine st_skip hs rfl rfl rfl rfl rfl fun a hs => ?_
      refine st_skip hs rfl rfl rfl rfl rfl fun a hs => ?_
      refine st_val hs (y_pickF rfl rfl) trivial rfl rfl fun a hs => ?_
      refine wpList_nil ?_
      have hsh := Option.some.inj hsh
      subst hsh
      refine then_normal ?_
      exact ⟨Sv227, (hs.wk rfl), (hw.ft [1, 2, 3, 0] [2, 1] (by decide) rfl rfl)⟩
    ·rintro a w ⟨Sv334, hs, hw⟩
     refine wpList_nil ?_
     refine then_normal ?_
     refine wp_cond_split (hs.ev rfl) (fun h343 => ?_) (fun h343 => ?_)
     ·have hsh := ite_t hsh h343
      refine wp_seq ?_
      refine wp_region_lit ?_
      refine st_val hs (y_build (vs := []) Bld57 rfl rfl) trivial rfl rfl fun a hs => ?_
      refine w_store (m := 2) (cs' := [.int .i64 0, .int .i64 0]) hs hw 2 rfl rfl rfl Try.sizeOf57 rfl rfl rfl rfl trivial ?_
      intro a w hs hw
      refine st_val hs (y_assign rfl) trivial rfl rfl fun a hs => ?_
      refine wpList_nil ?_
      refine then_normal ?_
      have hsh := Option.some.inj hsh
      subst hsh
      have h344 := hd265 _ rfl
      subst h344
      refine wp_ret ?_
      refine blk_ret ?_
      refine then_ret ?_
      refine then_ret ?_
      refine blk_ret ?_
      refine then_ret ?_
      exact ret2 hs rfl (rv_cell hw 2 rfl rfl Try.isAgg57 Try.sizeOf57 rfl) (rv_tmp rfl) (hw.ret rfl)
     ·have hsh := ite_f hsh h343
      refine wp_skip ?_
      refine blk_normal ?_
      refine then_normal ?_
      refine wp_region_lit ?_
      refine st_val hs (y_add rfl rfl) trivial rfl rfl fun a hs => ?_
      refine st_val hs (y_move rfl) trivial rfl rfl fun a hs => ?_
      refine wpList_nil ?_
      refine then_normal ?_
      exact ⟨_, (Option.some.inj hsh).symm, Sv334, (hs.wk rfl), (hw.ft [0, 1, 2] [0] (by decide) rfl rfl)⟩
   ·have hsh := ite_f hsh h270
    obtain ⟨rv755, hsh, h756⟩ := map_t hsh
    have h756 := (hd265 _ h756.symm).symm
    subst h756
    refine wp_exit ?_
    refine then_exit ?_
    refine then_exit ?_
    refine blk_exit ?_
    refine then_normal ?_
    refine wp_seq ?_
    refine wp_region_lit ?_
    refine st_val hs (y_build (vs := [(1, .int .i64 1)]) Bld57 rfl rfl) trivial rfl rfl fun a hs => ?_
    refine w_alloc (cs := [.int .i64 0, .int .i64 0]) hs hw Try.zeroValue57 rfl rfl trivial ?_
    intro b345 a w hs hw
    refine w_store (m := 2) (cs' := [.int .i64 0, .int .i64 1]) hs hw 0 rfl rfl rfl Try.sizeOf57 rfl rfl rfl rfl trivial ?_
    intro a w hs hw
    refine wpList_nil ?_
    refine then_normal ?_
    refine wp_seq ?_
    refine wp_seq ?_
    refine wp_region_lit ?_
    refine st_val hs (y_fieldAddr (o' := 0) Try.runUnderlying37 rfl Try.sizeOf35 rfl rfl rfl) trivial rfl rfl fun a hs => ?_
    refine st_val hs (y_loadB1 (hw.ownAt 1 rfl) rfl Try.isAgg35 rfl) trivial rfl rfl fun a hs => ?_
    refine st_val hs (y_len Try.runUnderlying35 rfl) trivial rfl rfl fun a hs => ?_
    refine st_val hs (y_move rfl) trivial rfl rfl fun a hs => ?_
    refine wpList_nil ?_
    refine then_normal ?_
    refine wp_block ?_
    refine wp_while (fun sv489 a w => ∃ (Sv583 : Nat → Prop), Sl 89 [(2, .pointer (some ⟨b6, 0, none⟩)), (3, .pointer (some ⟨b7, 0, none⟩)), (4, .pointer (some ⟨b8, 0, none⟩)), (8, .pointer (some ⟨b345, 0, none⟩)), (42, .slice p2 r1.Stages.length k3), (43, .int .i64 (r1.Stages.length : Int)), (44, .int .i64 sv489.2.2)] a ∧ Wd ⟨w0, S0, []⟩ Sv583 [.box b6 [.slice p2 r1.Stages.length k3] 37, .box b7 [.int .i64 out5.Num, .int .i64 out5.Den] 51, .box b8 [.int .i64 0, .int .i64 0] 57, .box b345 [.int .i64 sv489.1, .int .i64 sv489.2.1] 57] [SlA p2 r1.Stages.length k3 r1.Stages] w) (0, 1, 0) hsh ⟨Sv227, (hs.wk rfl), (hw.ft [1, 2, 3, 0] [0] (by decide) rfl rfl)⟩ ?_
    repeat clear hsh
    rintro sv489 a w tv631 ⟨Sv583, hs, hw⟩ hsh hd630
    delta response_Delay_l4 at hsh
    refine wp_seq ?_
    refine wp_region_lit ?_
    refine st_val hs (y_lss rfl rfl) trivial rfl rfl fun a hs => ?_
    refine wpList_nil ?_
    refine then_normal ?_
    refine wp_seq ?_
    refine wp_cond_split (hs.ev rfl) (fun h635 => ?_) (fun h635 => ?_)
    ·have hsh := ite_t hsh h635
     refine wp_skip ?_
     refine then_normal ?_
     refine wp_seq ?_
     refine wp_join (fun a w => ∃ (x679 : Int) (x680 : Int) (Sv678 : Nat → Prop), response_Delay_j1 sv489 x679 x680 = some tv631 ∧ Sl 89 [(2, .pointer (some ⟨b6, 0, none⟩)), (3, .pointer (some ⟨b7, 0, none⟩)), (4, .pointer (some ⟨b8, 0, none⟩)), (8, .pointer (some ⟨b345, 0, none⟩)), (42, .slice p2 r1.Stages.length k3), (43, .int .i64 (r1.Stages.length : Int)), (44, .int .i64 sv489.2.2)] a ∧ Wd ⟨w0, S0, []⟩ Sv678 [.box b6 [.slice p2 r1.Stages.length k3] 37, .box b7 [.int .i64 out5.Num, .int .i64 out5.Den] 51, .box b8 [.int .i64 0, .int .i64 0] 57, .box b345 [.int .i64 x679, .int .i64 x680] 57] [SlA p2 r1.Stages.length k3 r1.Stages] w) ?_ ?_
     ·refine wp_block ?_
      refine wp_seq ?_
      refine wp_region_lit ?_
      refine st_val hs (y_move rfl) trivial rfl rfl fun a hs => ?_
      obtain ⟨x683, h681, hsh⟩ := bind_t hsh
      obtain ⟨b689, o690, q687, c688, h691, h684, h685, h686, h682⟩ := hw.elemV 0 rfl h681
      have hsv692 := hs
      have hwv693 := hw
      subst h691
      have hs := hsv692
      have hw := hwv693
      obtain ⟨_, _, _, _, _, _, _, _, _, _, rfl, rfl, rfl, rfl, rfl, rfl, rfl, rfl, ⟨p694, n695, k696, rfl, h697⟩, rfl, rfl⟩ := h682
      obtain rfl := h697.1
      have hw := hw.addE (e := SlA p694 _ k696 x683.Taps) h697
      have hw := hw.addE h686
      refine st_val hs (y_indexAt Try.runUnderlying35 Try.sizeOf26 rfl rfl h684.1 h684.2 h685) trivial rfl rfl fun a hs => ?_
      refine st_val hs (y_loadEA (j := 0) (hw.ceAt 0 rfl) rfl Try.isAgg26 Try.sizeOf26 rfl rfl) trivial rfl rfl fun a hs => ?_
      refine w_alloc (cs := [.int .i64 0, .int .i64 0, .int .i64 0, .int .i64 0, .int .i64 0, .int .i64 0, .int .i64 0, .slice none ([] : List Int).length 0, .int .i64 0, .int .i64 0]) hs hw Try.zeroValue26 rfl rfl trivial ?_
      intro b698 a w hs hw
      refine st_val hs (y_assign rfl) trivial rfl rfl fun a hs => ?_
      refine w_store (m := 10) (cs' := [.int .i64 x683.Kind, .int .i64 x683.Num.e0, .int .i64 x683.Num.e1, .int .i64 x683.Num.e2, .int .i64 x683.Den.e0, .int .i64 x683.Den.e1, .int .i64 x683.Den.e2, .slice p694 x683.Taps.length k696, .int .i64 x683.Factor, .int .i64 x683.Shift]) hs hw 0 rfl rfl rfl Try.sizeOf26 rfl rfl rfl rfl trivial ?_
      intro a w hs hw
      refine wpList_nil ?_
      refine then_normal ?_
      refine wp_seq ?_
      refine wp_seq ?_
      refine wp_region_lit ?_
      refine st_val hs (y_fieldAddr (o' := 0) Try.runUnderlying26 rfl Try.sizeOf3 rfl rfl rfl) trivial rfl rfl fun a hs => ?_
      refine st_val hs (y_loadB1 (hw.ownAt 0 rfl) rfl Try.isAgg3 rfl) trivial rfl rfl fun a hs => ?_
      refine st_val hs (y_neq rfl rfl) trivial rfl rfl fun a hs => ?_
      refine wpList_nil ?_
      refine then_normal ?_
      refine wp_cond_split (hs.ev rfl) (fun h700 => ?_) (fun h700 => ?_)
      ·have hsh := ite_t hsh h700
       refine wp_exit ?_
       refine then_exit ?_
       refine blk_exit ?_
       refine then_normal ?_
       exact ⟨sv489.1, sv489.2.1, Sv583, hsh, (hs.wk rfl), (hw.ft [1, 2, 3, 4] [2] (by decide) rfl rfl)⟩
      ·have hsh := ite_f hsh h700
       refine wp_skip ?_
       refine then_normal ?_
       refine wp_seq ?_
       obtain ⟨l706, h701, hsh⟩ := bind_t hsh
       obtain ⟨p704, k705, h702, h703⟩ := sub_env (hw.envAt 2 rfl) h701
       have hw := hw.addE h702
       obtain ⟨rv708, h707, hsh⟩ := bind_t hsh
       obtain ⟨rv710, h709, hsh⟩ := bind_t hsh
       refine wp_only (fun a w => ∃ (Sv712 : Nat → Prop) (b711 : Nat), Sl 89 [(2, .pointer (some ⟨b6, 0, none⟩)), (3, .pointer (some ⟨b7, 0, none⟩)), (4, .pointer (some ⟨b8, 0, none⟩)), (8, .pointer (some ⟨b345, 0, none⟩)), (10, .pointer (some ⟨b698, 0, none⟩)), (11, .pointer (some ⟨b711, 0, none⟩)), (12, .bool rv710.2), (42, .slice (some ⟨b689, o690, none⟩) r1.Stages.length k3), (43, .int .i64 (r1.Stages.length : Int)), (44, .int .i64 sv489.2.2)] a ∧ Wd ⟨w0, S0, []⟩ Sv712 [.box b6 [.slice (some ⟨b689, o690, none⟩) r1.Stages.length k3] 37, .box b7 [.int .i64 out5.Num, .int .i64 out5.Den] 51, .box b8 [.int .i64 0, .int .i64 0] 57, .box b345 [.int .i64 sv489.1, .int .i64 sv489.2.1] 57, .box b698 [.int .i64 x683.Kind, .int .i64 x683.Num.e0, .int .i64 x683.Num.e1, .int .i64 x683.Num.e2, .int .i64 x683.Den.e0, .int .i64 x683.Den.e1, .int .i64 x683.Den.e2, .slice p694 x683.Taps.length k696, .int .i64 x683.Factor, .int .i64 x683.Shift] 26, .box b711 [.int .i64 rv710.1.Num, .int .i64 rv710.1.Den] 51] [SlA (some ⟨b689, o690, none⟩) r1.Stages.length k3 r1.Stages, SlA p694 x683.Taps.length k696 x683.Taps] w) ?_ ?_
       ·refine h_b (C := Cls [.box b698 [.int .i64 x683.Kind, .int .i64 x683.Num.e0, .int .i64 x683.Num.e1, .int .i64 x683.Num.e2, .int .i64 x683.Den.e0, .int .i64 x683.Den.e1, .int .i64 x683.Den.e2, .slice p694 x683.Taps.length k696, .int .i64 x683.Factor, .int .i64 x683.Shift] 26, .box b6 [.slice (some ⟨b689, o690, none⟩) r1.Stages.length k3] 37, .box b7 [.int .i64 out5.Num, .int .i64 out5.Den] 51, .box b8 [.int .i64 0, .int .i64 0] 57, .box b345 [.int .i64 sv489.1, .int .i64 sv489.2.1] 57] [CeA b689 q687 [.int .i64 x683.Kind, .int .i64 x683.Num.e0, .int .i64 x683.Num.e1, .int .i64 x683.Num.e2, .int .i64 x683.Den.e0, .int .i64 x683.Den.e1, .int .i64 x683.Den.e2, .slice p694 x683.Taps.length k696, .int .i64 x683.Factor, .int .i64 x683.Shift]]) (by kernel_rfl) rfl (hw.drew.cs [0, 1, 2, 3, 4] [1] rfl rfl) fun hC => ?_
        have hw := hw.drew
        refine h_g hs 0 rfl (by kernel_rfl) rfl rfl hC rfl (fun w hC => y_loadBA (hC.ownAt 2 rfl) rfl Try.isAgg51 Try.sizeOf51 rfl rfl) fun a hs => ?_
        refine h_g hs 1 rfl (by kernel_rfl) rfl rfl hC rfl (fun w hC => y_fieldAddr (o' := 0) Try.runUnderlying37 rfl Try.sizeOf35 rfl rfl rfl) fun a hs => ?_
        refine h_g hs 2 rfl (by kernel_rfl) rfl rfl hC rfl (fun w hC => y_loadB1 (hC.ownAt 1 rfl) rfl Try.isAgg35 rfl) fun a hs => ?_
        refine h_g hs 3 rfl (by kernel_rfl) rfl rfl hC rfl (fun w hC => y_move rfl) fun a hs => ?_
        refine h_g hs 4 rfl (by kernel_rfl) rfl rfl hC rfl (fun w hC => y_slc Try.runUnderlying35 Try.sizeOf26 rfl ⟨_, rfl⟩ (by exact rfl) h703) fun a hs => ?_
        refine h_all (rs := [5, 10]) (by kernel_rfl) rfl ?_
        refine AllH.cons rfl ?_ ?_
        ·refine st_callR hs (response_factor_ok h707 hw.bdom (hw.bE 0 rfl)) (do_call Try.call51 rfl) trivial rfl rfl ?_
         intro v716 Sv713 w a h714 h715 hs
         subst h715
         have hw := hw.callB h714
         refine h_nx (hw.cs [0, 1, 2, 3, 4] [1] rfl rfl) fun hC => ?_
         refine h_all (rs := [6, 10]) (by kernel_rfl) rfl ?_
         refine AllH.cons rfl ?_ ?_
         ·refine st_callR hs (response_faster_ok h709 hw.bdom) (do_call Try.call53 rfl) trivial rfl rfl ?_
          intro v721 Sv718 w a h719 h720 hs
          subst h720
          have hw := hw.callB h719
          refine h_nx (hw.cs [0, 1, 2, 3, 4] [1] rfl rfl) fun hC => ?_
          refine h_g hs 7 rfl (by kernel_rfl) rfl rfl hC rfl (fun w hC => y_move rfl) fun a hs => ?_
          refine h_g hs 8 rfl (by kernel_rfl) rfl rfl hC rfl (fun w hC => y_extract rfl rfl) fun a hs => ?_
          refine h_g hs 9 rfl (by kernel_rfl) rfl rfl hC rfl (fun w hC => y_extract rfl rfl) fun a hs => ?_
          refine h_one (i := 10) (by kernel_rfl) rfl ?_
          refine w_alloc (cs := [.int .i64 0, .int .i64 0]) hs hw Try.zeroValue51 rfl rfl trivial ?_
          intro b711 a w hs hw
          refine h_nx (hw.cs [1, 2, 3, 4, 5] [1] rfl rfl) fun hC => ?_
          refine h_one (i := 11) (by kernel_rfl) rfl ?_
          refine w_store (m := 2) (cs' := [.int .i64 rv710.1.Num, .int .i64 rv710.1.Den]) hs hw 0 rfl rfl rfl Try.sizeOf51 rfl rfl rfl rfl trivial ?_
          intro a w hs hw
          refine h_nx (hw.cs [1, 2, 3, 4, 5] [1] rfl rfl) fun hC => ?_
          refine h_g hs 12 rfl (by kernel_rfl) rfl rfl hC rfl (fun w hC => y_assign rfl) fun a hs => ?_
          refine h_done (by kernel_rfl) ?_
          exact ⟨Sv583, b711, (hs.wk rfl), (hw.ft [2, 3, 4, 5, 1, 0] [3, 2] (by decide) rfl rfl)⟩
         refine AllH.cons rfl ?_ ?_
         ·refine w_alloc (cs := [.int .i64 0, .int .i64 0]) hs hw Try.zeroValue51 rfl rfl trivial ?_
          intro b711 a w hs hw
          refine h_nx (hw.cs [1, 2, 3, 4, 5] [1] rfl rfl) fun hC => ?_
          refine h_one (i := 6) (by kernel_rfl) rfl ?_
          refine st_callR hs (response_faster_ok h709 hw.bdom) (do_call Try.call53 rfl) trivial rfl rfl ?_
          intro v726 Sv723 w a h724 h725 hs
          subst h725
          have hw := hw.callB h724
          refine h_nx (hw.cs [1, 2, 3, 4, 5] [1] rfl rfl) fun hC => ?_
          refine h_g hs 7 rfl (by kernel_rfl) rfl rfl hC rfl (fun w hC => y_move rfl) fun a hs => ?_
          refine h_g hs 8 rfl (by kernel_rfl) rfl rfl hC rfl (fun w hC => y_extract rfl rfl) fun a hs => ?_
          refine h_g hs 9 rfl (by kernel_rfl) rfl rfl hC rfl (fun w hC => y_extract rfl rfl) fun a hs => ?_
          refine h_one (i := 11) (by kernel_rfl) rfl ?_
          refine w_store (m := 2) (cs' := [.int .i64 rv710.1.Num, .int .i64 rv710.1.Den]) hs hw 0 rfl rfl rfl Try.sizeOf51 rfl rfl rfl rfl trivial ?_
          intro a w hs hw
          refine h_nx (hw.cs [1, 2, 3, 4, 5] [1] rfl rfl) fun hC => ?_
          refine h_g hs 12 rfl (by kernel_rfl) rfl rfl hC rfl (fun w hC => y_assign rfl) fun a hs => ?_
          refine h_done (by kernel_rfl) ?_
          exact ⟨Sv583, b711, (hs.wk rfl), (hw.ft [2, 3, 4, 5, 1, 0] [3, 2] (by decide) rfl rfl)⟩
         exact AllH.nil
        refine AllH.cons rfl ?_ ?_
        ·refine w_alloc (cs := [.int .i64 0, .int .i64 0]) hs hw Try.zeroValue51 rfl rfl trivial ?_
         intro b711 a w hs hw
         refine h_nx (hw.cs [1, 2, 3, 4, 5] [1] rfl rfl) fun hC => ?_
         refine h_one (i := 5) (by kernel_rfl) rfl ?_
         refine st_callR hs (response_factor_ok h707 hw.bdom (hw.bE 0 rfl)) (do_call Try.call51 rfl) trivial rfl rfl ?_
         intro v731 Sv728 w a h729 h730 hs
         subst h730
         have hw := hw.callB h729
         refine h_nx (hw.cs [1, 2, 3, 4, 5] [1] rfl rfl) fun hC => ?_
         refine h_one (i := 6) (by kernel_rfl) rfl ?_
         refine st_callR hs (response_faster_ok h709 hw.bdom) (do_call Try.call53 rfl) trivial rfl rfl ?_
         intro v736 Sv733 w a h734 h735 hs
         subst h735
         have hw := hw.callB h734
         refine h_nx (hw.cs [1, 2, 3, 4, 5] [1] rfl rfl) fun hC => ?_
         refine h_g hs 7 rfl (by kernel_rfl) rfl rfl hC rfl (fun w hC => y_move rfl) fun a hs => ?_
         refine h_g hs 8 rfl (by kernel_rfl) rfl rfl hC rfl (fun w hC => y_extract rfl rfl) fun a hs => ?_
         refine h_g hs 9 rfl (by kernel_rfl) rfl rfl hC rfl (fun w hC => y_extract rfl rfl) fun a hs => ?_
         refine h_one (i := 11) (by kernel_rfl) rfl ?_
         refine w_store (m := 2) (cs' := [.int .i64 rv710.1.Num, .int .i64 rv710.1.Den]) hs hw 0 rfl rfl rfl Try.sizeOf51 rfl rfl rfl rfl trivial ?_
         intro a w hs hw
         refine h_nx (hw.cs [1, 2, 3, 4, 5] [1] rfl rfl) fun hC => ?_
         refine h_g hs 12 rfl (by kernel_rfl) rfl rfl hC rfl (fun w hC => y_assign rfl) fun a hs => ?_
         refine h_done (by kernel_rfl) ?_
         exact ⟨Sv583, b711, (hs.wk rfl), (hw.ft [2, 3, 4, 5, 1, 0] [3, 2] (by decide) rfl rfl)⟩
        exact AllH.nil
       ·rintro a w ⟨Sv712, b711, hs, hw⟩
        refine then_normal ?_
        refine wp_seq ?_
        refine wp_seq ?_
        refine wp_region_lit ?_
        refine st_val hs (y_move rfl) trivial rfl rfl fun a hs => ?_
        refine st_val hs (y_not rfl) trivial rfl rfl fun a hs => ?_
        refine wpList_nil ?_
        refine then_normal ?_
        refine wp_cond_split (hs.ev rfl) (fun h739 => ?_) (fun h739 => ?_)
        ·have hsh := ite_t hsh h739
         refine wp_seq ?_
         refine wp_region_lit ?_
         refine st_val hs (y_build (vs := []) Bld57 rfl rfl) trivial rfl rfl fun a hs => ?_
         refine w_store (m := 2) (cs' := [.int .i64 0, .int .i64 0]) hs hw 2 rfl rfl rfl Try.sizeOf57 rfl rfl rfl rfl trivial ?_
         intro a w hs hw
         refine st_val hs (y_assign rfl) trivial rfl rfl fun a hs => ?_
         refine wpList_nil ?_
         refine then_normal ?_
         have hsh := Option.some.inj hsh
         subst hsh
         have h740 := hd630 _ rfl
         subst h740
         refine wp_ret ?_
         refine then_ret ?_
         refine blk_ret ?_
         refine then_ret ?_
         refine then_ret ?_
         refine then_ret ?_
         refine blk_ret ?_
         refine then_ret ?_
         exact ret2 hs rfl (rv_cell hw 2 rfl rfl Try.isAgg57 Try.sizeOf57 rfl) (rv_tmp rfl) (hw.ret rfl)
        ·have hsh := ite_f hsh h739
         refine wp_skip ?_
         refine then_normal ?_
         refine wp_seq ?_
         refine wp_region_lit ?_
         refine st_val hs (y_loadBA (hw.ownAt 3 rfl) rfl Try.isAgg57 Try.sizeOf57 rfl rfl) trivial rfl rfl fun a hs => ?_
         refine st_val hs (y_fieldAddr (o' := 7) Try.runUnderlying26 rfl Try.sizeOf24 rfl rfl rfl) trivial rfl rfl fun a hs => ?_
         refine st_val hs (y_loadB1 (hw.ownAt 4 rfl) rfl Try.isAgg24 rfl) trivial rfl rfl fun a hs => ?_
         refine st_val hs (y_len Try.runUnderlying24 rfl) trivial rfl rfl fun a hs => ?_
         refine st_val hs (y_sub rfl rfl) trivial rfl rfl fun a hs => ?_
         refine st_val hs (y_fieldAddr (o' := 1) Try.runUnderlying51 rfl Try.sizeOf3 rfl rfl rfl) trivial rfl rfl fun a hs => ?_
         refine st_val hs (y_loadB1 (hw.ownAt 5 rfl) rfl Try.isAgg3 rfl) trivial rfl rfl fun a hs => ?_
         refine st_val hs (y_mul rfl rfl) trivial rfl rfl fun a hs => ?_
         refine st_val hs (y_fieldAddr (o' := 0) Try.runUnderlying51 rfl Try.sizeOf3 rfl rfl rfl) trivial rfl rfl fun a hs => ?_
         refine st_val hs (y_loadB1 (hw.ownAt 5 rfl) rfl Try.isAgg3 rfl) trivial rfl rfl fun a hs => ?_
         refine st_val hs (y_mul rfl rfl) trivial rfl rfl fun a hs => ?_
         refine st_val hs (y_build (vs := [(0, .int .i64 (w64 ((w64 ((x683.Taps.length : Int) - 1)) * rv710.1.Den))), (1, .int .i64 (w64 (2 * rv710.1.Num)))]) Bld57 rfl rfl) trivial rfl rfl fun a hs => ?_
         obtain ⟨rv742, h741, hsh⟩ := bind_t hsh
         refine st_callR hs (response_plus_ok h741 hw.bdom) (do_call Try.call55 rfl) trivial rfl rfl ?_
         intro v746 Sv743 w a h744 h745 hs
         subst h745
         have hw := hw.callB h744
         refine w_store (m := 2) (cs' := [.int .i64 rv742.Num, .int .i64 rv742.Den]) hs hw 3 rfl rfl rfl Try.sizeOf57 rfl rfl rfl rfl trivial ?_
         intro a w hs hw
         refine wpList_nil ?_
         refine then_normal ?_
         refine wp_seq ?_
         refine wp_region_lit ?_
         refine st_val hs (y_fieldAddr (o' := 0) Try.runUnderlying57 rfl Try.sizeOf3 rfl rfl rfl) trivial rfl rfl fun a hs => ?_
         refine st_val hs (y_loadB1 (hw.ownAt 3 rfl) rfl Try.isAgg3 rfl) trivial rfl rfl fun a hs => ?_
         refine st_val hs (y_gtr rfl rfl) trivial rfl rfl fun a hs => ?_
         refine st_val hs (y_move rfl) trivial rfl rfl fun a hs => ?_
         refine wpl_join 4 (fun a w1 => w = w1 ∧ Sl 89 [(2, .pointer (some ⟨b6, 0, none⟩)), (3, .pointer (some ⟨b7, 0, none⟩)), (4, .pointer (some ⟨b8, 0, none⟩)), (8, .pointer (some ⟨b345, 0, none⟩)), (42, .slice (some ⟨b689, o690, none⟩) r1.Stages.length k3), (43, .int .i64 (r1.Stages.length : Int)), (44, .int .i64 sv489.2.2), (85, .bool ((decide (1099511627776 < rv742.Num)) || (decide (1099511627776 < rv742.Den))))] a) ?_ ?_
         ·rcases Bool.eq_false_or_eq_true (decide (1099511627776 < rv742.Num)) with h748 | h748
          ·have hs := hs.fix 81 (.bool true) rfl (vb h748)
           refine st_skip hs rfl rfl rfl rfl rfl fun a hs => ?_
           refine st_skip hs rfl rfl rfl rfl rfl fun a hs => ?_
           refine st_skip hs rfl rfl rfl rfl rfl fun a hs => ?_
           refine st_val hs (y_pickT rfl rfl) trivial rfl rfl fun a hs => ?_
           refine wpList_nil ?_
           refine then_normal ?_
           exact ⟨rfl, (hs.fix 85 (.bool ((decide (1099511627776 < rv742.Num)) || (decide (1099511627776 < rv742.Den)))) rfl (or_t h748)).weaken _ ⟨rfl, rfl, rfl, rfl, rfl, rfl, rfl, rfl, trivial⟩⟩
          ·have hs := hs.fix 81 (.bool false) rfl (vb h748)
           refine st_val hs (y_fieldAddr (o' := 1) Try.runUnderlying57 rfl Try.sizeOf3 rfl rfl rfl) ⟨_, rfl, rfl⟩ rfl rfl fun a hs => ?_
           refine st_val hs (y_loadB1 (hw.ownAt 3 rfl) rfl Try.isAgg3 rfl) ⟨_, rfl, rfl⟩ rfl rfl fun a hs => ?_
           refine st_val hs (y_gtr rfl rfl) ⟨_, rfl, rfl⟩ rfl rfl fun a hs => ?_
           refine st_val hs (y_pickF rfl rfl) trivial rfl rfl fun a hs => ?_
           refine wpList_nil ?_
           refine then_normal ?_
           exact ⟨rfl, (hs.fix 85 (.bool ((decide (1099511627776 < rv742.Num)) || (decide (1099511627776 < rv742.Den)))) rfl (or_f h748)).weaken _ ⟨rfl, rfl, rfl, rfl, rfl, rfl, rfl, rfl, trivial⟩⟩
         ·rintro a w1 ⟨h752, hs⟩
          subst h752
          refine wpList_nil ?_
          refine then_normal ?_
          refine wp_cond_split (hs.ev rfl) (fun h750 => ?_) (fun h750 => ?_)
          ·have hsh := ite_t hsh h750
           refine wp_seq ?_
           refine wp_region_lit ?_
           refine st_val hs (y_build (vs := []) Bld57 rfl rfl) trivial rfl rfl fun a hs => ?_
           refine w_store (m := 2) (cs' := [.int .i64 0, .int .i64 0]) hs hw 2 rfl rfl rfl Try.sizeOf57 rfl rfl rfl rfl trivial ?_
           intro a w hs hw
           refine st_val hs (y_assign rfl) trivial rfl rfl fun a hs => ?_
           refine wpList_nil ?_
           refine then_normal ?_
           have hsh := Option.some.inj hsh
           subst hsh
           have h751 := hd630 _ rfl
           subst h751
           refine wp_ret ?_
           refine blk_ret ?_
           refine then_ret ?_
           refine then_ret ?_
           refine then_ret ?_
           refine blk_ret ?_
           refine then_ret ?_
           exact ret2 hs rfl (rv_cell hw 2 rfl rfl Try.isAgg57 Try.sizeOf57 rfl) (rv_tmp rfl) (hw.ret rfl)
          ·have hsh := ite_f hsh h750
           refine wp_skip ?_
           refine blk_normal ?_
           refine then_normal ?_
           exact ⟨rv742.Num, rv742.Den, Sv712, hsh, (hs.wk rfl), (hw.ft [0, 1, 2, 3] [0] (by decide) rfl rfl)⟩
     ·rintro a w ⟨x679, x680, Sv678, hsh, hs, hw⟩
      delta response_Delay_j1 at hsh
      refine then_normal ?_
      refine wp_region_lit ?_
      refine st_val hs (y_add rfl rfl) trivial rfl rfl fun a hs => ?_
      refine st_val hs (y_move rfl) trivial rfl rfl fun a hs => ?_
      refine wpList_nil ?_
      refine then_normal ?_
      exact ⟨_, (Option.some.inj hsh).symm, Sv678, (hs.wk rfl), (hw.ft [0, 1, 2, 3] [0] (by decide) rfl rfl)⟩
    ·have hsh := ite_f hsh h635
     obtain ⟨rv753, hsh, h754⟩ := map_t hsh
     have h754 := (hd630 _ h754.symm).symm
     subst h754
     refine wp_exit ?_
     refine then_exit ?_
     refine then_exit ?_
     refine blk_exit ?_
     refine then_normal ?_
     refine wp_seq ?_
     refine wp_region_lit ?_
     refine st_val hs (y_loadBA (hw.ownAt 3 rfl) rfl Try.isAgg57 Try.sizeOf57 rfl rfl) trivial rfl rfl fun a hs => ?_
     refine w_store (m := 2) (cs' := [.int .i64 sv489.1, .int .i64 sv489.2.1]) hs hw 2 rfl rfl rfl Try.sizeOf57 rfl rfl rfl rfl trivial ?_
     intro a w hs hw
     refine st_val hs (y_assign rfl) trivial rfl rfl fun a hs => ?_
     refine wpList_nil ?_
     refine then_normal ?_
     have hsh := Option.some.inj hsh
     subst hsh
     refine wp_ret ?_
     exact ret2 hs rfl (rv_cell hw 2 rfl rfl Try.isAgg57 Try.sizeOf57 rfl) (rv_tmp rfl) (hw.ret rfl)

abbrev law18_sane_rd (w0 : World) (X : List Nat) (r : Bool) : (Nat → Prop) → World → Value → Prop := fun S w v => v = .bool r
set_option maxHeartbeats 4000000 in
set_option maxRecDepth 100000 in
theorem law18_sane_ok {w0 : World} {S0 : Nat → Prop} {r : Bool} (hsh : law18_sane = some r) (hS : ∀ b, S0 b → b < w0.heap.size) : Calls Try.prog 8 #[] w0 (Ret ([]) w0 S0 (law18_sane_rd w0 ([]) r)) := by
 refine calls_of_wp Try.func8 rfl ?_
 have hs := Sl.enter #[] 57 [] rfl trivial
 have hw := Wd.enter (E := []) hS (fun _ h => (by cases h))
 delta law18_sane at hsh
 refine wp_seq ?_
 refine wp_region_lit ?_
 refine st_val hs (y_assign rfl) trivial rfl rfl fun a hs => ?_
 refine wpList_nil ?_
 refine then_normal ?_
 refine wp_seq ?_
 refine wp_region_lit ?_
 refine st_val hs (y_build (vs := [(0, .int .i64 1)]) Bld23 rfl rfl) trivial rfl rfl fun a hs => ?_
 refine st_val hs (y_build (vs := [(0, .int .i64 1), (1, .int .i64 1)]) Bld23 rfl rfl) trivial rfl rfl fun a hs => ?_
 refine st_val hs (y_build (vs := [(0, .int .i64 1), (1, .agg #[.int .i64 1, .int .i64 0, .int .i64 0]), (2, .agg #[.int .i64 1, .int .i64 1, .int .i64 0])]) Bld26 rfl rfl) trivial rfl rfl fun a hs => ?_
 refine w_alloc (cs := [.int .i64 0, .int .i64 0, .int .i64 0, .int .i64 0, .int .i64 0, .int .i64 0, .int .i64 0, .slice none ([] : List Int).length 0, .int .i64 0, .int .i64 0]) hs hw Try.zeroValue26 rfl rfl trivial ?_
 intro b1 a w hs hw
 refine w_store (m := 10) (cs' := [.int .i64 1, .int .i64 1, .int .i64 0, .int .i64 0, .int .i64 1, .int .i64 1, .int .i64 0, .slice none ([] : List Int).length 0, .int .i64 0, .int .i64 0]) hs hw 0 rfl rfl rfl Try.sizeOf26 rfl rfl rfl rfl trivial ?_
 intro a w hs hw
 refine wpList_nil ?_
 refine then_normal ?_
 refine wp_seq ?_
 refine wp_region_lit ?_
 refine st_val hs (y_loadBA (hw.ownAt 0 rfl) rfl Try.isAgg26 Try.sizeOf26 rfl rfl) trivial rfl rfl fun a hs => ?_
 have hw := hw.addE (e := SlA (α := Int) none 0 0 []) nil_sl
 refine w_litSlice (α := Stage) (vs := [.agg #[.int .i64 1, .int .i64 1, .int .i64 0, .int .i64 0, .int .i64 1, .int .i64 1, .int .i64 0, .slice none ([] : List Int).length 0, .int .i64 0, .int .i64 0]]) (cs := [.int .i64 1, .int .i64 1, .int .i64 0, .int .i64 0, .int .i64 1, .int .i64 1, .int .i64 0, .slice none ([] : List Int).length 0, .int .i64 0, .int .i64 0]) (xs := ([(⟨1, (⟨1, 0, 0⟩ : (Arr3 Int)), (⟨1, 1, 0⟩ : (Arr3 Int)), ([] : List Int), 0, 0⟩ : Stage)] : List Stage)) hs hw El35 rfl rfl rfl rfl rfl rfl ⟨⟨_, _, _, _, _, _, _, _, _, _, rfl, rfl, rfl, rfl, rfl, rfl, rfl, rfl, ⟨_, _, _, rfl, hw.envAt 0 rfl⟩, rfl, rfl⟩, rfl⟩ rfl trivial rfl fun b3 a w hs hw => ?_
 refine st_val hs (y_build (vs := [(0, .slice (some ⟨b3, 0, none⟩) ([(⟨1, (⟨1, 0, 0⟩ : (Arr3 Int)), (⟨1, 1, 0⟩ : (Arr3 Int)), ([] : List Int), 0, 0⟩ : Stage)] : List Stage).length ([(⟨1, (⟨1, 0, 0⟩ : (Arr3 Int)), (⟨1, 1, 0⟩ : (Arr3 Int)), ([] : List Int), 0, 0⟩ : Stage)] : List Stage).length)]) Bld37 rfl rfl) trivial rfl rfl fun a hs => ?_
 obtain ⟨rv5, h4, hsh⟩ := bind_t hsh
 obtain ⟨Sv12, hw⟩ := w_share (α := Stage) hw 0 rfl 0 rfl
 refine st_callR hs (response_Gain_ok h4 hw.dom (hw.envAt 0 rfl)) (do_call Try.call10 rfl) trivial rfl rfl ?_
 intro v16 Sv13 w a h14 h15 hs
 obtain ⟨p6, k7, p9, k10, rfl, h8, h11⟩ := h15
 have hw := hw.call h14
 have hw := hw.addE (e := SlA p6 rv5.1.Num.length k7 rv5.1.Num) h8
 have hw := hw.addE (e := SlA p9 rv5.1.Den.length k10 rv5.1.Den) h11
 refine st_val hs (y_move rfl) trivial rfl rfl fun a hs => ?_
 refine st_val hs (y_extract rfl rfl) trivial rfl rfl fun a hs => ?_
 refine st_val hs (y_extract rfl rfl) trivial rfl rfl fun a hs => ?_
 refine w_alloc (cs := [.slice none ([] : List Int).length 0, .slice none ([] : List Int).length 0]) hs hw Try.zeroValue31 rfl rfl trivial ?_
 intro b18 a w hs hw
 refine w_store (m := 2) (cs' := [.slice p6 rv5.1.Num.length k7, .slice p9 rv5.1.Den.length k10]) hs hw 0 rfl rfl rfl Try.sizeOf31 rfl rfl rfl rfl trivial ?_
 intro a w hs hw
 refine st_val hs (y_assign rfl) trivial rfl rfl fun a hs => ?_
 refine wpList_nil ?_
 refine then_normal ?_
 refine wp_seq ?_
 refine wp_region_lit ?_
 refine st_val hs (y_loadBA (hw.ownAt 0 rfl) rfl Try.isAgg31 Try.sizeOf31 rfl rfl) trivial rfl rfl fun a hs => ?_
 refine w_litSlice (α := Int) (vs := [.int .i64 1]) (cs := [.int .i64 1]) (xs := ([1] : List Int)) hs hw El29 rfl rfl rfl rfl rfl rfl ⟨⟨_, rfl, rfl⟩, rfl⟩ rfl trivial rfl fun b20 a w hs hw => ?_
 refine w_litSlice (α := Int) (vs := [.int .i64 2]) (cs := [.int .i64 2]) (xs := ([2] : List Int)) hs hw El29 rfl rfl rfl rfl rfl rfl ⟨⟨_, rfl, rfl⟩, rfl⟩ rfl trivial rfl fun b22 a w hs hw => ?_
 refine st_val hs (y_build (vs := [(0, .slice (some ⟨b20, 0, none⟩) ([1] : List Int).length ([1] : List Int).length), (1, .slice (some ⟨b22, 0, none⟩) ([2] : List Int).length ([2] : List Int).length)]) Bld31 rfl rfl) trivial rfl rfl fun a hs => ?_
 obtain ⟨rv24, h23, hsh⟩ := bind_t hsh
 refine st_callR hs (ref17_Equal_ok h23 hw.bdom (hw.bE 3 rfl) (hw.bE 2 rfl) (hw.bRow 1 rfl 1 rfl) (hw.bRow 0 rfl 0 rfl)) (do_call Try.call11 rfl) trivial rfl rfl ?_
 intro v28 Sv25 w a h26 h27 hs
 subst h27
 have hw := hw.callB h26
 refine st_val hs (y_move rfl) trivial rfl rfl fun a hs => ?_
 refine st_val hs (y_extract rfl rfl) trivial rfl rfl fun a hs => ?_
 refine st_val hs (y_extract rfl rfl) trivial rfl rfl fun a hs => ?_
 refine st_val hs (y_assign rfl) trivial rfl rfl fun a hs => ?_
 refine st_val hs (y_assign rfl) trivial rfl rfl fun a hs => ?_
 refine wpList_nil ?_
 refine then_normal ?_
 refine wp_seq ?_
 refine wp_region_lit ?_
 refine w_litSlice (α := Int) (vs := [.int .i64 1, .int .i64 2, .int .i64 1]) (cs := [.int .i64 1, .int .i64 2, .int .i64 1]) (xs := ([1, 2, 1] : List Int)) hs hw El24 rfl rfl rfl rfl rfl rfl ⟨⟨_, rfl, rfl⟩, ⟨⟨_, rfl, rfl⟩, ⟨⟨_, rfl, rfl⟩, rfl⟩⟩⟩ rfl trivial rfl fun b31 a w hs hw => ?_
 refine st_val hs (y_build (vs := [(0, .int .i64 2), (3, .slice (some ⟨b31, 0, none⟩) ([1, 2, 1] : List Int).length ([1, 2, 1] : List Int).length), (4, .int .i64 1), (5, .int .i64 2)]) Bld26 rfl rfl) trivial rfl rfl fun a hs => ?_
 obtain ⟨Sv34, hw⟩ := w_share (α := Int) hw 0 rfl 0 rfl
 refine w_litSlice (α := Stage) (vs := [.agg #[.int .i64 2, .int .i64 0, .int .i64 0, .int .i64 0, .int .i64 0, .int .i64 0, .int .i64 0, .slice (some ⟨b31, 0, none⟩) ([1, 2, 1] : List Int).length ([1, 2, 1] : List Int).length, .int .i64 1, .int .i64 2]]) (cs := [.int .i64 2, .int .i64 0, .int .i64 0, .int .i64 0, .int .i64 0, .int .i64 0, .int .i64 0, .slice (some ⟨b31, 0, none⟩) ([1, 2, 1] : List Int).length ([1, 2, 1] : List Int).length, .int .i64 1, .int .i64 2]) (xs := ([(⟨2, (⟨0, 0, 0⟩ : (Arr3 Int)), (⟨0, 0, 0⟩ : (Arr3 Int)), ([1, 2, 1] : List Int), 1, 2⟩ : Stage)] : List Stage)) hs hw El35 rfl rfl rfl rfl rfl rfl ⟨⟨_, _, _, _, _, _, _, _, _, _, rfl, rfl, rfl, rfl, rfl, rfl, rfl, rfl, ⟨_, _, _, rfl, hw.envAt 0 rfl⟩, rfl, rfl⟩, rfl⟩ rfl trivial rfl fun b33 a w hs hw => ?_
 refine st_val hs (y_build (vs := [(0, .slice (some ⟨b33, 0, none⟩) ([(⟨2, (⟨0, 0, 0⟩ : (Arr3 Int)), (⟨0, 0, 0⟩ : (Arr3 Int)), ([1, 2, 1] : List Int), 1, 2⟩ : Stage)] : List Stage).length ([(⟨2, (⟨0, 0, 0⟩ : (Arr3 Int)), (⟨0, 0, 0⟩ : (Arr3 Int)), ([1, 2, 1] : List Int), 1, 2⟩ : Stage)] : List Stage).length)]) Bld37 rfl rfl) trivial rfl rfl fun a hs => ?_
 refine st_val hs (y_build (vs := [(0, .int .i64 100), (1, .int .i64 1)]) Bld51 rfl rfl) trivial rfl rfl fun a hs => ?_
 obtain ⟨rv36, h35, hsh⟩ := bind_t hsh
 refine st_callR hs (response_Delay_ok h35 hw.bdom (hw.bRow 0 rfl 0 rfl)) (do_call Try.call20 rfl) trivial rfl rfl ?_
 intro v40 Sv37 w a h38 h39 hs
 subst h39
 have hw := hw.callB h38
 refine st_val hs (y_move rfl) trivial rfl rfl fun a hs => ?_
 refine st_val hs (y_extract rfl rfl) trivial rfl rfl fun a hs => ?_
 refine st_val hs (y_extract rfl rfl) trivial rfl rfl fun a hs => ?_
 refine w_alloc (cs := [.int .i64 0, .int .i64 0]) hs hw Try.zeroValue57 rfl rfl trivial ?_
 intro b42 a w hs hw
 refine w_store (m := 2) (cs' := [.int .i64 rv36.1.Num, .int .i64 rv36.1.Den]) hs hw 0 rfl rfl rfl Try.sizeOf57 rfl rfl rfl rfl trivial ?_
 intro a w hs hw
 refine st_val hs (y_assign rfl) trivial rfl rfl fun a hs => ?_
 refine wpList_nil ?_
 refine then_normal ?_
 refine wp_seq ?_
 refine wp_region_lit ?_
 refine st_val hs (y_move rfl) trivial rfl rfl fun a hs => ?_
 refine st_val hs (y_eql rfl rfl) trivial rfl rfl fun a hs => ?_
 refine st_val hs (y_move rfl) trivial rfl rfl fun a hs => ?_
 refine wpl_join 3 (fun a w1 => w = w1 ∧ Sl 57 [(1, .pointer (some ⟨b1, 0, none⟩)), (4, .bool rv24.1), (6, .pointer (some ⟨b42, 0, none⟩)), (7, .int .i64 rv36.2), (40, .bool ((rv5.2 == 0) && (rv24.2 == 0)))] a) ?_ ?_
 ·rcases Bool.eq_false_or_eq_true (rv5.2 == 0) with h43 | h43
  ·have hs := hs.fix 37 (.bool true) rfl (vb h43)
   refine st_val hs (y_move rfl) ⟨_, rfl, rfl⟩ rfl rfl fun a hs => ?_
   refine st_val hs (y_eql rfl rfl) ⟨_, rfl, rfl⟩ rfl rfl fun a hs => ?_
   refine st_val hs (y_pickT rfl rfl) trivial rfl rfl fun a hs => ?_
   refine wpList_nil ?_
   refine then_normal ?_
   exact ⟨rfl, (hs.fix 40 (.bool ((rv5.2 == 0) && (rv24.2 == 0))) rfl (and_t h43)).weaken _ ⟨rfl, rfl, rfl, rfl, rfl, trivial⟩⟩
  ·have hs := hs.fix 37 (.bool false) rfl (vb h43)
   refine st_skip hs rfl rfl rfl rfl rfl fun a hs => ?_
   refine st_skip hs rfl rfl rfl rfl rfl fun a hs => ?_
   refine st_val hs (y_pickF rfl rfl) trivial rfl rfl fun a hs => ?_
   refine wpList_nil ?_
   refine then_normal ?_
   exact ⟨rfl, (hs.fix 40 (.bool ((rv5.2 == 0) && (rv24.2 == 0))) rfl (and_f h43)).weaken _ ⟨rfl, rfl, rfl, rfl, rfl, trivial⟩⟩
 ·rintro a w1 ⟨h67, hs⟩
  subst h67
  refine st_val hs (y_move rfl) trivial rfl rfl fun a hs => ?_
  refine wpl_join 3 (fun a w1 => w = w1 ∧ Sl 57 [(1, .pointer (some ⟨b1, 0, none⟩)), (4, .bool rv24.1), (6, .pointer (some ⟨b42, 0, none⟩)), (44, .bool (((rv5.2 == 0) && (rv24.2 == 0)) && (rv36.2 == 0)))] a) ?_ ?_
  ·rcases Bool.eq_false_or_eq_true ((rv5.2 == 0) && (rv24.2 == 0)) with h44 | h44
   ·have hs := hs.fix 41 (.bool true) rfl (vb h44)
    refine st_val hs (y_move rfl) ⟨_, rfl, rfl⟩ rfl rfl fun a hs => ?_
    refine st_val hs (y_eql rfl rfl) ⟨_, rfl, rfl⟩ rfl rfl fun a hs => ?_
    refine st_val hs (y_pickT rfl rfl) trivial rfl rfl fun a hs => ?_
    refine wpList_nil ?_
    refine then_normal ?_
    exact ⟨rfl, (hs.fix 44 (.bool (((rv5.2 == 0) && (rv24.2 == 0)) && (rv36.2 == 0))) rfl (and_t h44)).weaken _ ⟨rfl, rfl, rfl, rfl, trivial⟩⟩
   ·have hs := hs.fix 41 (.bool false) rfl (vb h44)
    refine st_skip hs rfl rfl rfl rfl rfl fun a hs => ?_
    refine st_skip hs rfl rfl rfl rfl rfl fun a hs => ?_
    refine st_val hs (y_pickF rfl rfl) trivial rfl rfl fun a hs => ?_
    refine wpList_nil ?_
    refine then_normal ?_
    exact ⟨rfl, (hs.fix 44 (.bool (((rv5.2 == 0) && (rv24.2 == 0)) && (rv36.2 == 0))) rfl (and_f h44)).weaken _ ⟨rfl, rfl, rfl, rfl, trivial⟩⟩
  ·rintro a w1 ⟨h66, hs⟩
   subst h66
   refine st_val hs (y_move rfl) trivial rfl rfl fun a hs => ?_
   refine wpl_join 2 (fun a w1 => w = w1 ∧ Sl 57 [(1, .pointer (some ⟨b1, 0, none⟩)), (6, .pointer (some ⟨b42, 0, none⟩)), (47, .bool ((((rv5.2 == 0) && (rv24.2 == 0)) && (rv36.2 == 0)) && rv24.1))] a) ?_ ?_
   ·rcases Bool.eq_false_or_eq_true (((rv5.2 == 0) && (rv24.2 == 0)) && (rv36.2 == 0)) with h45 | h45
    ·have hs := hs.fix 45 (.bool true) rfl (vb h45)
     refine st_val hs (y_move rfl) ⟨_, rfl, rfl⟩ rfl rfl fun a hs => ?_
     refine st_val hs (y_pickT rfl rfl) trivial rfl rfl fun a hs => ?_
     refine wpList_nil ?_
     refine then_normal ?_
     exact ⟨rfl, (hs.fix 47 (.bool ((((rv5.2 == 0) && (rv24.2 == 0)) && (rv36.2 == 0)) && rv24.1)) rfl (and_t h45)).weaken _ ⟨rfl, rfl, rfl, trivial⟩⟩
    ·have hs := hs.fix 45 (.bool false) rfl (vb h45)
     refine st_skip hs rfl rfl rfl rfl rfl fun a hs => ?_
     refine st_val hs (y_pickF rfl rfl) trivial rfl rfl fun a hs => ?_
     refine wpList_nil ?_
     refine then_normal ?_
     exact ⟨rfl, (hs.fix 47 (.bool ((((rv5.2 == 0) && (rv24.2 == 0)) && (rv36.2 == 0)) && rv24.1)) rfl (and_f h45)).weaken _ ⟨rfl, rfl, rfl, trivial⟩⟩
   ·rintro a w1 ⟨h65, hs⟩
    subst h65
    refine st_val hs (y_move rfl) trivial rfl rfl fun a hs => ?_
    refine wpl_join 4 (fun a w1 => w = w1 ∧ Sl 57 [(1, .pointer (some ⟨b1, 0, none⟩)), (52, .bool (((((rv5.2 == 0) && (rv24.2 == 0)) && (rv36.2 == 0)) && rv24.1) && ((rv36.1.Num == 1) && ((rv36.1.Den == 100) && true))))] a) ?_ ?_
    ·rcases Bool.eq_false_or_eq_true ((((rv5.2 == 0) && (rv24.2 == 0)) && (rv36.2 == 0)) && rv24.1) with h46 | h46
     ·have hs := hs.fix 48 (.bool true) rfl (vb h46)
      refine st_val hs (y_loadBA (hw.ownAt 0 rfl) rfl Try.isAgg57 Try.sizeOf57 rfl rfl) ⟨_, rfl, rfl⟩ rfl rfl fun a hs => ?_
      refine st_val hs (y_build (vs := [(0, .int .i64 1), (1, .int .i64 100)]) Bld57 rfl rfl) ⟨_, rfl, rfl⟩ rfl rfl fun a hs => ?_
      refine st_val hs (y_eqlA (by kernel_rfl) rfl rfl (eqv_struct Try.runUnderlying57 (by kernel_rfl) (EqF.cons1 rfl Try.isAgg3 rfl rfl (eqv_int Try.runUnderlying3) (EqF.cons1 rfl Try.isAgg3 rfl rfl (eqv_int Try.runUnderlying3) EqF.nil)))) ⟨_, rfl, rfl⟩ rfl rfl fun a hs => ?_
      refine st_val hs (y_pickT rfl rfl) trivial rfl rfl fun a hs => ?_
      refine wpList_nil ?_
      refine then_normal ?_
      exact ⟨rfl, (hs.fix 52 (.bool (((((rv5.2 == 0) && (rv24.2 == 0)) && (rv36.2 == 0)) && rv24.1) && ((rv36.1.Num == 1) && ((rv36.1.Den == 100) && true)))) rfl (and_t h46)).weaken _ ⟨rfl, rfl, trivial⟩⟩
     ·have hs := hs.fix 48 (.bool false) rfl (vb h46)
      refine st_skip hs rfl rfl rfl rfl rfl fun a hs => ?_
      refine st_skip hs rfl rfl rfl rfl rfl fun a hs => ?_
      refine st_skip hs rfl rfl rfl rfl rfl fun a hs => ?_
      refine st_val hs (y_pickF rfl rfl) trivial rfl rfl fun a hs => ?_
      refine wpList_nil ?_
      refine then_normal ?_
      exact ⟨rfl, (hs.fix 52 (.bool (((((rv5.2 == 0) && (rv24.2 == 0)) && (rv36.2 == 0)) && rv24.1) && ((rv36.1.Num == 1) && ((rv36.1.Den == 100) && true)))) rfl (and_f h46)).weaken _ ⟨rfl, rfl, trivial⟩⟩
    ·rintro a w1 ⟨h64, hs⟩
     subst h64
     refine st_val hs (y_move rfl) trivial rfl rfl fun a hs => ?_
     obtain ⟨c55, hc55, hsh⟩ := bind_t hsh
     refine wpl_join 3 (fun a w => ∃ (Sv56 : Nat → Prop), Sl 57 [(56, .bool c55)] a ∧ Wd ⟨w0, S0, []⟩ Sv56 [] [] w) ?_ ?_
     ·rcases Bool.eq_false_or_eq_true (((((rv5.2 == 0) && (rv24.2 == 0)) && (rv36.2 == 0)) && rv24.1) && ((rv36.1.Num == 1) && ((rv36.1.Den == 100) && true))) with h54 | h54
      ·have hs := hs.fix 53 (.bool true) rfl (vb h54)
       have hsh := ite_t hc55 h54
       refine st_val hs (y_loadBA (hw.ownAt 5 rfl) rfl Try.isAgg26 Try.sizeOf26 rfl rfl) ⟨_, rfl, rfl⟩ rfl rfl fun a hs => ?_
       obtain ⟨rv58, h57, hsh⟩ := bind_t hsh
       refine st_callR hs (response_ValidStage_ok h57 hw.bdom (hw.bE 9 rfl)) (do_call Try.call7 rfl) ⟨_, rfl, rfl⟩ rfl rfl ?_
       intro v62 Sv59 w a h60 h61 hs
       subst h61
       have hw := hw.callB h60
       refine st_val hs (y_pickT rfl rfl) trivial rfl rfl fun a hs => ?_
       refine wpList_nil ?_
       have hsh := Option.some.inj hsh
       subst hsh
       refine then_normal ?_
       exact ⟨Sv34, (hs.wk rfl), (hw.ft [] [] (by decide) rfl rfl)⟩
      ·have hs := hs.fix 53 (.bool false) rfl (vb h54)
       have hsh := ite_f hc55 h54
       refine st_skip hs rfl rfl rfl rfl rfl fun a hs => ?_
       refine st_skip hs rfl rfl rfl rfl rfl fun a hs => ?_
       refine st_val hs (y_pickF rfl rfl) trivial rfl rfl fun a hs => ?_
       refine wpList_nil ?_
       have hsh := Option.some.inj hsh
       subst hsh
       refine then_normal ?_
       exact ⟨Sv34, (hs.wk rfl), (hw.ft [] [] (by decide) rfl rfl)⟩
     ·rintro a w ⟨Sv56, hs, hw⟩
      refine st_val hs (y_assign rfl) trivial rfl rfl fun a hs => ?_
      refine wpList_nil ?_
      refine then_normal ?_
      have hsh := Option.some.inj hsh
      subst hsh
      refine wp_ret ?_
      exact ret1 hs rfl (rv_tmp rfl) (hw.ret rfl)

abbrev law18_ResponseSections_fn1_rd (w0 : World) (X : List Nat) (r : (Fraction × Int)) : (Nat → Prop) → World → Value → Prop := fun S w v => ∃ (p0_0 : Option Addr) (k0_0 : Nat) (p0_1 : Option Addr) (k0_1 : Nat), v = .tuple #[.agg #[.slice p0_0 r.1.Num.length k0_0, .slice p0_1 r.1.Den.length k0_1], .int .i64 r.2] ∧ (SlA p0_0 r.1.Num.length k0_0 r.1.Num).p S w ∧ (SlA p0_1 r.1.Den.length k0_1 r.1.Den).p S w
set_option maxHeartbeats 4000000 in
set_option maxRecDepth 100000 in
theorem law18_ResponseSections_fn1_ok {w0 : World} {S0 : Nat → Prop} {p2 : Option Addr} {k3 : Nat} {x1 : Stage} {p5 : Int} {q6 : Int} {r : (Fraction × Int)} (hsh : law18_ResponseSections_fn1 x1 p5 q6 = some r) (hS : ∀ b, S0 b → b < w0.heap.size) (h4 : (SlA p2 x1.Taps.length k3 x1.Taps).p S0 w0) : Calls Try.prog 9 #[.agg #[.int .i64 x1.Kind, .int .i64 x1.Num.e0, .int .i64 x1.Num.e1, .int .i64 x1.Num.e2, .int .i64 x1.Den.e0, .int .i64 x1.Den.e1, .int .i64 x1.Den.e2, .slice p2 x1.Taps.length k3, .int .i64 x1.Factor, .int .i64 x1.Shift], .int .i64 p5, .int .i64 q6] w0 (Ret ([]) w0 S0 (law18_ResponseSections_fn1_rd w0 ([]) r)) := by
 refine calls_of_wp Try.func9 rfl ?_
 have hs := Sl.enter #[.agg #[.int .i64 x1.Kind, .int .i64 x1.Num.e0, .int .i64 x1.Num.e1, .int .i64 x1.Num.e2, .int .i64 x1.Den.e0, .int .i64 x1.Den.e1, .int .i64 x1.Den.e2, .slice p2 x1.Taps.length k3, .int .i64 x1.Factor, .int .i64 x1.Shift], .int .i64 p5, .int .i64 q6] 16 [(0, .agg #[.int .i64 x1.Kind, .int .i64 x1.Num.e0, .int .i64 x1.Num.e1, .int .i64 x1.Num.e2, .int .i64 x1.Den.e0, .int .i64 x1.Den.e1, .int .i64 x1.Den.e2, .slice p2 x1.Taps.length k3, .int .i64 x1.Factor, .int .i64 x1.Shift]), (1, .int .i64 p5), (2, .int .i64 q6)] rfl ⟨rfl, rfl, rfl, trivial⟩
 have hw := Wd.enter (E := []) hS (fun _ h => (by cases h))
 have hw := hw.addE h4
 delta law18_ResponseSections_fn1 at hsh
 refine wp_seq ?_
 refine wp_region_lit ?_
 refine w_box (cs := [.int .i64 x1.Kind, .int .i64 x1.Num.e0, .int .i64 x1.Num.e1, .int .i64 x1.Num.e2, .int .i64 x1.Den.e0, .int .i64 x1.Den.e1, .int .i64 x1.Den.e2, .slice p2 x1.Taps.length k3, .int .i64 x1.Factor, .int .i64 x1.Shift]) hs hw rfl rfl rfl trivial ?_
 intro b7 a w hs hw
 refine w_alloc (cs := [.slice none ([] : List Int).length 0, .slice none ([] : List Int).length 0]) hs hw Try.zeroValue31 rfl rfl trivial ?_
 intro b8 a w hs hw
 refine st_val hs (y_assign rfl) trivial rfl rfl fun a hs => ?_
 refine wpList_nil ?_
 refine then_normal ?_
 refine wp_seq ?_
 refine wp_region_lit ?_
 refine st_val hs (y_loadBA (hw.ownAt 1 rfl) rfl Try.isAgg26 Try.sizeOf26 rfl rfl) trivial rfl rfl fun a hs => ?_
 refine w_litSlice (α := Stage) (vs := [.agg #[.int .i64 x1.Kind, .int .i64 x1.Num.e0, .int .i64 x1.Num.e1, .int .i64 x1.Num.e2, .int .i64 x1.Den.e0, .int .i64 x1.Den.e1, .int .i64 x1.Den.e2, .slice p2 x1.Taps.length k3, .int .i64 x1.Factor, .int .i64 x1.Shift]]) (cs := [.int .i64 x1.Kind, .int .i64 x1.Num.e0, .int .i64 x1.Num.e1, .int .i64 x1.Num.e2, .int .i64 x1.Den.e0, .int .i64 x1.Den.e1, .int .i64 x1.Den.e2, .slice p2 x1.Taps.length k3, .int .i64 x1.Factor, .int .i64 x1.Shift]) (xs := ([x1] : List Stage)) hs hw El35 rfl rfl rfl rfl rfl rfl ⟨⟨_, _, _, _, _, _, _, _, _, _, rfl, rfl, rfl, rfl, rfl, rfl, rfl, rfl, ⟨_, _, _, rfl, hw.envAt 0 rfl⟩, rfl, rfl⟩, rfl⟩ rfl trivial rfl fun b10 a w hs hw => ?_
 refine st_val hs (y_build (vs := [(0, .slice (some ⟨b10, 0, none⟩) ([x1] : List Stage).length ([x1] : List Stage).length)]) Bld37 rfl rfl) trivial rfl rfl fun a hs => ?_
 refine st_val hs (y_move rfl) trivial rfl rfl fun a hs => ?_
 refine st_val hs (y_move rfl) trivial rfl rfl fun a hs => ?_
 obtain ⟨rv12, h11, hsh⟩ := bind_t hsh
 obtain ⟨Sv19, hw⟩ := w_share (α := Stage) hw 0 rfl 0 rfl
 refine st_callR hs (response_Gain_ok h11 hw.dom (hw.envAt 0 rfl)) (do_call Try.call10 rfl) trivial rfl rfl ?_
 intro v23 Sv20 w a h21 h22 hs
 obtain ⟨p13, k14, p16, k17, rfl, h15, h18⟩ := h22
 have hw := hw.call h21
 have hw := hw.addE (e := SlA p13 rv12.1.Num.length k14 rv12.1.Num) h15
 have hw := hw.addE (e := SlA p16 rv12.1.Den.length k17 rv12.1.Den) h18
 refine st_val hs (y_extract rfl rfl) trivial rfl rfl fun a hs => ?_
 refine st_val hs (y_extract rfl rfl) trivial rfl rfl fun a hs => ?_
 refine w_store (m := 2) (cs' := [.slice p13 rv12.1.Num.length k14, .slice p16 rv12.1.Den.length k17]) hs hw 0 rfl rfl rfl Try.sizeOf31 rfl rfl rfl rfl trivial ?_
 intro a w hs hw
 refine st_val hs (y_assign rfl) trivial rfl rfl fun a hs => ?_
 refine wpList_nil ?_
 refine then_normal ?_
 have hsh := Option.some.inj hsh
 subst hsh
 refine wp_ret ?_
 exact ret2 hs rfl (rv_cell hw 0 rfl rfl Try.isAgg31 Try.sizeOf31 rfl) (rv_tmp rfl) (hw.ret ⟨p13, k14, p16, k17, rfl, (hw.envAt 1 rfl), (hw.envAt 0 rfl)⟩)

abbrev ref17_limited_rd (w0 : World) (X : List Nat) (r : ((List Int) × Int)) : (Nat → Prop) → World → Value → Prop := fun S w v => ∃ (p0_0 : Option Addr) (k0_0 : Nat), v = .tuple #[.slice p0_0 r.1.length k0_0, .int .i64 r.2] ∧ (SlA p0_0 r.1.length k0_0 r.1).p S w
set_option maxHeartbeats 4000000 in
set_option maxRecDepth 100000 in
theorem ref17_limited_ok {w0 : World} {S0 : Nat → Prop} {p2 : Option Addr} {k3 : Nat} {n1 : (List Int)} {r : ((List Int) × Int)} (hsh : ref17_limited n1 = some r) (hS : ∀ b, S0 b → b < w0.heap.size) (h4 : (SlA p2 n1.length k3 n1).p S0 w0) : Calls Try.prog 80 #[.slice p2 n1.length k3] w0 (Ret ([]) w0 S0 (ref17_limited_rd w0 ([]) r)) := by
 refine calls_of_wp Try.func80 rfl ?_
 have hs := Sl.enter #[.slice p2 n1.length k3] 8 [(0, .slice p2 n1.length k3)] rfl ⟨rfl, trivial⟩
 have hw := Wd.enter (E := []) hS (fun _ h => (by cases h))
 have hw := hw.addE h4
 delta ref17_limited at hsh
 refine wp_seq ?_
 refine wp_region_lit ?_
 refine st_val hs (y_assign rfl) trivial rfl rfl fun a hs => ?_
 refine st_val hs (y_assign rfl) trivial rfl rfl fun a hs => ?_
 refine wpList_nil ?_
 refine then_normal ?_
 refine wp_seq ?_
 refine wp_seq ?_
 refine wp_region_lit ?_
 refine st_val hs (y_move rfl) trivial rfl rfl fun a hs => ?_
 refine st_val hs (y_len Try.runUnderlying29 rfl) trivial rfl rfl fun a hs => ?_
 refine st_val hs (y_gtr rfl rfl) trivial rfl rfl fun a hs => ?_
 refine wpList_nil ?_
 refine then_normal ?_
 refine wp_cond_split (hs.ev rfl) (fun h6 => ?_) (fun h6 => ?_)
 ·have hsh := ite_t hsh h6
  refine wp_seq ?_
  refine wp_region_lit ?_
  refine st_val hs (y_assign rfl) trivial rfl rfl fun a hs => ?_
  refine st_val hs (y_assign rfl) trivial rfl rfl fun a hs => ?_
  refine wpList_nil ?_
  refine then_normal ?_
  have hsh := Option.some.inj hsh
  subst hsh
  have hw := hw.addE (e := SlA (α := Int) none 0 0 []) nil_sl
  refine wp_ret ?_
  refine then_ret ?_
  exact ret2 hs rfl (rv_tmp rfl) (rv_tmp rfl) (hw.ret ⟨none, 0, rfl, (hw.envAt 0 rfl)⟩)
 ·have hsh := ite_f hsh h6
  refine wp_skip ?_
  refine then_normal ?_
  refine wp_seq ?_
  refine wp_region_lit ?_
  refine st_val hs (y_move rfl) trivial rfl rfl fun a hs => ?_
  refine st_val hs (y_assign rfl) trivial rfl rfl fun a hs => ?_
  refine st_val hs (y_assign rfl) trivial rfl rfl fun a hs => ?_
  refine wpList_nil ?_
  refine then_normal ?_
  have hsh := Option.some.inj hsh
  subst hsh
  refine wp_ret ?_
  exact ret2 hs rfl (rv_tmp rfl) (rv_tmp rfl) (hw.ret ⟨p2, k3, rfl, (hw.envAt 0 rfl)⟩)

abbrev ref17_Mul_rd (w0 : World) (X : List Nat) (r : ((List Int) × Int)) : (Nat → Prop) → World → Value → Prop := fun S w v => ∃ (p0_0 : Option Addr) (k0_0 : Nat), v = .tuple #[.slice p0_0 r.1.length k0_0, .int .i64 r.2] ∧ (SlA p0_0 r.1.length k0_0 r.1).p S w
set_option maxHeartbeats 4000000 in
set_option maxRecDepth 100000 in
theorem ref17_Mul_ok {w0 : World} {S0 : Nat → Prop} {p2 : Option Addr} {k3 : Nat} {p6 : Option Addr} {k7 : Nat} {a1 : (List Int)} {b5 : (List Int)} {r : ((List Int) × Int)} (hsh : ref17_Mul a1 b5 = some r) (hS : ∀ b, S0 b → b < w0.heap.size) (h4 : (SlA p2 a1.length k3 a1).p S0 w0) (h8 : (SlA p6 b5.length k7 b5).p S0 w0) : Calls Try.prog 47 #[.slice p2 a1.length k3, .slice p6 b5.length k7] w0 (Ret ([]) w0 S0 (ref17_Mul_rd w0 ([]) r)) := by
 refine calls_of_wp Try.func47 rfl ?_
 have hs := Sl.enter #[.slice p2 a1.length k3, .slice p6 b5.length k7] 20 [(0, .slice p2 a1.length k3), (1, .slice p6 b5.length k7)] rfl ⟨rfl, rfl, trivial⟩
 have hw := Wd.enter (E := []) hS (fun _ h => (by cases h))
 have hw := hw.addE h4
 have hw := hw.addE h8
 delta ref17_Mul at hsh
 refine wp_seq ?_
 refine wp_region_lit ?_
 refine st_val hs (y_assign rfl) trivial rfl rfl fun a hs => ?_
 refine st_val hs (y_assign rfl) trivial rfl rfl fun a hs => ?_
 refine wpList_nil ?_
 refine then_normal ?_
 refine wp_seq ?_
 refine wp_seq ?_
 refine wp_region_lit ?_
 refine st_val hs (y_move rfl) trivial rfl rfl fun a hs => ?_
 obtain ⟨rv10, h9, hsh⟩ := bind_t hsh
 refine st_callR hs (ref17_Valid_ok h9 hw.bdom (hw.bE 1 rfl)) (do_call Try.call78 rfl) trivial rfl rfl ?_
 intro v14 Sv11 w a h12 h13 hs
 subst h13
 have hw := hw.callB h12
 refine st_val hs (y_not rfl) trivial rfl rfl fun a hs => ?_
 refine st_val hs (y_move rfl) trivial rfl rfl fun a hs => ?_
 obtain ⟨c24, hc24, hsh⟩ := bind_t hsh
 refine wpl_join 4 (fun a w => ∃ (Sv25 : Nat → Prop), Sl 20 [(0, .slice p2 a1.length k3), (1, .slice p6 b5.length k7), (13, .bool c24)] a ∧ Wd ⟨w0, S0, []⟩ Sv25 [] [SlA p2 a1.length k3 a1, SlA p6 b5.length k7 b5] w) ?_ ?_
 ·rcases Bool.eq_false_or_eq_true (!rv10) with h23 | h23
  ·have hs := hs.fix 9 (.bool true) rfl (vb h23)
   have hsh := ite_t hc24 h23
   refine st_skip hs rfl rfl rfl rfl rfl fun a hs => ?_
   refine st_skip hs rfl rfl rfl rfl rfl fun a hs => ?_
   refine st_skip hs rfl rfl rfl rfl rfl fun a hs => ?_
   refine st_val hs (y_pickT rfl rfl) trivial rfl rfl fun a hs => ?_
   refine wpList_nil ?_
   have hsh := Option.some.inj hsh
   subst hsh
   refine then_normal ?_
   exact ⟨S0, (hs.wk rfl), (hw.ft [] [1, 0] (by decide) rfl rfl)⟩
  ·have hs := hs.fix 9 (.bool false) rfl (vb h23)
   have hsh := ite_f hc24 h23
   refine st_val hs (y_move rfl) ⟨_, rfl, rfl⟩ rfl rfl fun a hs => ?_
   obtain ⟨rv27, h26, hsh⟩ := bind_t hsh
   refine st_callR hs (ref17_Valid_ok h26 hw.bdom (hw.bE 0 rfl)) (do_call Try.call78 rfl) ⟨_, rfl, rfl⟩ rfl rfl ?_
   intro v31 Sv28 w a h29 h30 hs
   subst h30
   have hw := hw.callB h29
   refine st_val hs (y_not rfl) ⟨_, rfl, rfl⟩ rfl rfl fun a hs => ?_
   refine st_val hs (y_pickF rfl rfl) trivial rfl rfl fun a hs => ?_
   refine wpList_nil ?_
   have hsh := Option.some.inj hsh
   subst hsh
   refine then_normal ?_
   exact ⟨S0, (hs.wk rfl), (hw.ft [] [1, 0] (by decide) rfl rfl)⟩
 ·rintro a w ⟨Sv25, hs, hw⟩
  refine wpList_nil ?_
  refine then_normal ?_
  refine wp_cond_split (hs.ev rfl) (fun h34 => ?_) (fun h34 => ?_)
  ·have hsh := ite_t hsh h34
   refine wp_seq ?_
   refine wp_region_lit ?_
   refine st_val hs (y_assign rfl) trivial rfl rfl fun a hs => ?_
   refine st_val hs (y_assign rfl) trivial rfl rfl fun a hs => ?_
   refine wpList_nil ?_
   refine then_normal ?_
   have hsh := Option.some.inj hsh
   subst hsh
   have hw := hw.addE (e := SlA (α := Int) none 0 0 []) nil_sl
   refine wp_ret ?_
   refine then_ret ?_
   exact ret2 hs rfl (rv_tmp rfl) (rv_tmp rfl) (hw.ret ⟨none, 0, rfl, (hw.envAt 0 rfl)⟩)
  ·have hsh := ite_f hsh h34
   refine wp_skip ?_
   refine then_normal ?_
   refine wp_seq ?_
   refine wp_region_lit ?_
   refine st_val hs (y_move rfl) trivial rfl rfl fun a hs => ?_
   refine st_val hs (y_move rfl) trivial rfl rfl fun a hs => ?_
   obtain ⟨rv36, h35, hsh⟩ := bind_t hsh
   refine st_callR hs (ref17_mul_ok h35 hw.dom (hw.envAt 0 rfl) (hw.envAt 1 rfl)) (do_call Try.call46 rfl) trivial rfl rfl ?_
   intro v43 Sv40 w a h41 h42 hs
   obtain ⟨p37, k38, rfl, h39⟩ := h42
   have hw := hw.call h41
   have hw := hw.addE (e := SlA p37 rv36.length k38 rv36) h39
   obtain ⟨rv46, h45, hsh⟩ := bind_t hsh
   refine st_callR hs (ref17_limited_ok h45 hw.dom (hw.envAt 0 rfl)) (do_call Try.call80 rfl) trivial rfl rfl ?_
   intro v53 Sv50 w a h51 h52 hs
   obtain ⟨p47, k48, rfl, h49⟩ := h52
   have hw := hw.call h51
   have hw := hw.addE (e := SlA p47 rv46.1.length k48 rv46.1) h49
   refine st_val hs (y_extract rfl rfl) trivial rfl rfl fun a hs => ?_
   refine st_val hs (y_extract rfl rfl) trivial rfl rfl fun a hs => ?_
   refine st_val hs (y_assign rfl) trivial rfl rfl fun a hs => ?_
   refine st_val hs (y_assign rfl) trivial rfl rfl fun a hs => ?_
   refine wpList_nil ?_
   refine then_normal ?_
   have hsh := Option.some.inj hsh
   subst hsh
   refine wp_ret ?_
   exact ret2 hs rfl (rv_tmp rfl) (rv_tmp rfl) (hw.ret ⟨p47, k48, rfl, (hw.envAt 0 rfl)⟩)

abbrev ref17_Times_rd (w0 : World) (X : List Nat) (r : (Fraction × Int)) : (Nat → Prop) → World → Value → Prop := fun S w v => ∃ (p0_0 : Option Addr) (k0_0 : Nat) (p0_1 : Option Addr) (k0_1 : Nat), v = .tuple #[.agg #[.slice p0_0 r.1.Num.length k0_0, .slice p0_1 r.1.Den.length k0_1], .int .i64 r.2] ∧ (SlA p0_0 r.1.Num.length k0_0 r.1.Num).p S w ∧ (SlA p0_1 r.1.Den.length k0_1 r.1.Den).p S w
set_option maxHeartbeats 4000000 in
set_option maxRecDepth 100000 in
theorem ref17_Times_ok {w0 : World} {S0 : Nat → Prop} {p2 : Option Addr} {k3 : Nat} {p4 : Option Addr} {k5 : Nat} {p9 : Option Addr} {k10 : Nat} {p11 : Option Addr} {k12 : Nat} {a1 : Fraction} {b8 : Fraction} {r : (Fraction × Int)} (hsh : ref17_Times a1 b8 = some r) (hS : ∀ b, S0 b → b < w0.heap.size) (h6 : (SlA p2 a1.Num.length k3 a1.Num).p S0 w0) (h7 : (SlA p4 a1.Den.length k5 a1.Den).p S0 w0) (h13 : (SlA p9 b8.Num.length k10 b8.Num).p S0 w0) (h14 : (SlA p11 b8.Den.length k12 b8.Den).p S0 w0) : Calls Try.prog 12 #[.agg #[.slice p2 a1.Num.length k3, .slice p4 a1.Den.length k5], .agg #[.slice p9 b8.Num.length k10, .slice p11 b8.Den.length k12]] w0 (Ret ([]) w0 S0 (ref17_Times_rd w0 ([]) r)) := by
 refine calls_of_wp Try.func12 rfl ?_
 have hs := Sl.enter #[.agg #[.slice p2 a1.Num.length k3, .slice p4 a1.Den.length k5], .agg #[.slice p9 b8.Num.length k10, .slice p11 b8.Den.length k12]] 45 [(0, .agg #[.slice p2 a1.Num.length k3, .slice p4 a1.Den.length k5]), (1, .agg #[.slice p9 b8.Num.length k10, .slice p11 b8.Den.length k12])] rfl ⟨rfl, rfl, trivial⟩
 have hw := Wd.enter (E := []) hS (fun _ h => (by cases h))
 have hw := hw.addE h6
 have hw := hw.addE h7
 have hw := hw.addE h13
 have hw := hw.addE h14
 delta ref17_Times at hsh
 refine wp_seq ?_
 refine wp_region_lit ?_
 refine w_box (cs := [.slice p2 a1.Num.length k3, .slice p4 a1.Den.length k5]) hs hw rfl rfl rfl trivial ?_
 intro b15 a w hs hw
 refine w_box (cs := [.slice p9 b8.Num.length k10, .slice p11 b8.Den.length k12]) hs hw rfl rfl rfl trivial ?_
 intro b16 a w hs hw
 refine w_alloc (cs := [.slice none ([] : List Int).length 0, .slice none ([] : List Int).length 0]) hs hw Try.zeroValue31 rfl rfl trivial ?_
 intro b17 a w hs hw
 refine st_val hs (y_assign rfl) trivial rfl rfl fun a hs => ?_
 refine wpList_nil ?_
 refine then_normal ?_
 refine wp_seq ?_
 refine wp_seq ?_
 refine wp_region_lit ?_
 refine st_val hs (y_loadBA (hw.ownAt 2 rfl) rfl Try.isAgg31 Try.sizeOf31 rfl rfl) trivial rfl rfl fun a hs => ?_
 obtain ⟨rv19, h18, hsh⟩ := bind_t hsh
 refine st_callR hs (ref17_ValidFraction_ok h18 hw.bdom (hw.bE 3 rfl) (hw.bE 2 rfl)) (do_call Try.call44 rfl) trivial rfl rfl ?_
 intro v23 Sv20 w a h21 h22 hs
 subst h22
 have hw := hw.callB h21
 refine st_val hs (y_not rfl) trivial rfl rfl fun a hs => ?_
 refine st_val hs (y_move rfl) trivial rfl rfl fun a hs => ?_
 obtain ⟨c33, hc33, hsh⟩ := bind_t hsh
 refine wpl_join 4 (fun a w => ∃ (Sv34 : Nat → Prop), Sl 45 [(2, .pointer (some ⟨b15, 0, none⟩)), (3, .pointer (some ⟨b16, 0, none⟩)), (4, .pointer (some ⟨b17, 0, none⟩)), (17, .bool c33)] a ∧ Wd ⟨w0, S0, []⟩ Sv34 [.box b15 [.slice p2 a1.Num.length k3, .slice p4 a1.Den.length k5] 31, .box b16 [.slice p9 b8.Num.length k10, .slice p11 b8.Den.length k12] 31, .box b17 [.slice none ([] : List Int).length 0, .slice none ([] : List Int).length 0] 31] [SlA p2 a1.Num.length k3 a1.Num, SlA p4 a1.Den.length k5 a1.Den, SlA p9 b8.Num.length k10 b8.Num, SlA p11 b8.Den.length k12 b8.Den, SlA none ([] : List Int).length 0 ([] : List Int)] w) ?_ ?_
 ·rcases Bool.eq_false_or_eq_true (!rv19) with h32 | h32
  ·have hs := hs.fix 13 (.bool true) rfl (vb h32)
   have hsh := ite_t hc33 h32
   refine st_skip hs rfl rfl rfl rfl rfl fun a hs => ?_
   refine st_skip hs rfl rfl rfl rfl rfl fun a hs => ?_
   refine st_skip hs rfl rfl rfl rfl rfl fun a hs => ?_
   refine st_val hs (y_pickT rfl rfl) trivial rfl rfl fun a hs => ?_
   refine wpList_nil ?_
   have hw := hw.addE (e := SlA (α := Int) none 0 0 []) nil_sl
   have hsh := Option.some.inj hsh
   subst hsh
   refine then_normal ?_
   exact ⟨S0, (hs.wk rfl), (hw.ft [2, 1, 0] [4, 3, 2, 1, 0] (by decide) rfl rfl)⟩
  ·have hs := hs.fix 13 (.bool false) rfl (vb h32)
   have hsh := ite_f hc33 h32
   refine st_val hs (y_loadBA (hw.ownAt 1 rfl) rfl Try.isAgg31 Try.sizeOf31 rfl rfl) ⟨_, rfl, rfl⟩ rfl rfl fun a hs => ?_
   obtain ⟨rv36, h35, hsh⟩ := bind_t hsh
   refine st_callR hs (ref17_ValidFraction_ok h35 hw.bdom (hw.bE 1 rfl) (hw.bE 0 rfl)) (do_call Try.call44 rfl) ⟨_, rfl, rfl⟩ rfl rfl ?_
   intro v40 Sv37 w a h38 h39 hs
   subst h39
   have hw := hw.callB h38
   refine st_val hs (y_not rfl) ⟨_, rfl, rfl⟩ rfl rfl fun a hs => ?_
   refine st_val hs (y_pickF rfl rfl) trivial rfl rfl fun a hs => ?_
   refine wpList_nil ?_
   have hw := hw.addE (e := SlA (α := Int) none 0 0 []) nil_sl
   have hsh := Option.some.inj hsh
   subst hsh
   refine then_normal ?_
   exact ⟨S0, (hs.wk rfl), (hw.ft [2, 1, 0] [4, 3, 2, 1, 0] (by decide) rfl rfl)⟩
 ·rintro a w ⟨Sv34, hs, hw⟩
  refine wpList_nil ?_
  refine then_normal ?_
  refine wp_cond_split (hs.ev rfl) (fun h43 => ?_) (fun h43 => ?_)
  ·have hsh := ite_t hsh h43
   refine wp_seq ?_
   refine wp_region_lit ?_
   refine st_val hs (y_build (vs := []) Bld31 rfl rfl) trivial rfl rfl fun a hs => ?_
   refine w_store (m := 2) (cs' := [.slice none ([] : List Int).length 0, .slice none ([] : List Int).length 0]) hs hw 2 rfl rfl rfl Try.sizeOf31 rfl rfl rfl rfl trivial ?_
   intro a w hs hw
   refine st_val hs (y_assign rfl) trivial rfl rfl fun a hs => ?_
   refine wpList_nil ?_
   refine then_normal ?_
   have hsh := Option.some.inj hsh
   subst hsh
   refine wp_ret ?_
   refine then_ret ?_
   exact ret2 hs rfl (rv_cell hw 2 rfl rfl Try.isAgg31 Try.sizeOf31 rfl) (rv_tmp rfl) (hw.ret ⟨none, 0, none, 0, rfl, (hw.envAt 4 rfl), (hw.envAt 4 rfl)⟩)
  ·have hsh := ite_f hsh h43
   refine wp_skip ?_
   refine then_normal ?_
   refine wp_seq ?_
   refine wp_region_lit ?_
   refine st_val hs (y_fieldAddr (o' := 0) Try.runUnderlying31 rfl Try.sizeOf29 rfl rfl rfl) trivial rfl rfl fun a hs => ?_
   refine st_val hs (y_loadB1 (hw.ownAt 0 rfl) rfl Try.isAgg29 rfl) trivial rfl rfl fun a hs => ?_
   refine st_val hs (y_fieldAddr (o' := 0) Try.runUnderlying31 rfl Try.sizeOf29 rfl rfl rfl) trivial rfl rfl fun a hs => ?_
   refine st_val hs (y_loadB1 (hw.ownAt 1 rfl) rfl Try.isAgg29 rfl) trivial rfl rfl fun a hs => ?_
   obtain ⟨rv45, h44, hsh⟩ := bind_t hsh
   refine st_callR hs (ref17_Mul_ok h44 hw.dom (hw.envAt 0 rfl) (hw.envAt 2 rfl)) (do_call Try.call47 rfl) trivial rfl rfl ?_
   intro v52 Sv49 w a h50 h51 hs
   obtain ⟨p46, k47, rfl, h48⟩ := h51
   have hw := hw.call h50
   have hw := hw.addE (e := SlA p46 rv45.1.length k47 rv45.1) h48
   refine st_val hs (y_move rfl) trivial rfl rfl fun a hs => ?_
   refine st_val hs (y_extract rfl rfl) trivial rfl rfl fun a hs => ?_
   refine st_val hs (y_extract rfl rfl) trivial rfl rfl fun a hs => ?_
   refine st_val hs (y_assign rfl) trivial rfl rfl fun a hs => ?_
   refine st_val hs (y_assign rfl) trivial rfl rfl fun a hs => ?_
   refine wpList_nil ?_
   refine then_normal ?_
   refine wp_seq ?_
   refine wp_region_lit ?_
   refine st_val hs (y_fieldAddr (o' := 1) Try.runUnderlying31 rfl Try.sizeOf29 rfl rfl rfl) trivial rfl rfl fun a hs => ?_
   refine st_val hs (y_loadB1 (hw.ownAt 0 rfl) rfl Try.isAgg29 rfl) trivial rfl rfl fun a hs => ?_
   refine st_val hs (y_fieldAddr (o' := 1) Try.runUnderlying31 rfl Try.sizeOf29 rfl rfl rfl) trivial rfl rfl fun a hs => ?_
   refine st_val hs (y_loadB1 (hw.ownAt 1 rfl) rfl Try.isAgg29 rfl) trivial rfl rfl fun a hs => ?_
   obtain ⟨rv55, h54, hsh⟩ := bind_t hsh
   refine st_callR hs (ref17_Mul_ok h54 hw.dom (hw.envAt 2 rfl) (hw.envAt 4 rfl)) (do_call Try.call47 rfl) trivial rfl rfl ?_
   intro v62 Sv59 w a h60 h61 hs
   obtain ⟨p56, k57, rfl, h58⟩ := h61
   have hw := hw.call h60
   have hw := hw.addE (e := SlA p56 rv55.1.length k57 rv55.1) h58
   refine st_val hs (y_move rfl) trivial rfl rfl fun a hs => ?_
   refine st_val hs (y_extract rfl rfl) trivial rfl rfl fun a hs => ?_
   refine st_val hs (y_extract rfl rfl) trivial rfl rfl fun a hs => ?_
   refine st_val hs (y_assign rfl) trivial rfl rfl fun a hs => ?_
   refine st_val hs (y_assign rfl) trivial rfl rfl fun a hs => ?_
   refine wpList_nil ?_
   refine then_normal ?_
   refine wp_seq ?_
   refine wp_seq ?_
   refine wp_region_lit ?_
   refine st_val hs (y_move rfl) trivial rfl rfl fun a hs => ?_
   refine st_val hs (y_neq rfl rfl) trivial rfl rfl fun a hs => ?_
   refine st_val hs (y_move rfl) trivial rfl rfl fun a hs => ?_
   refine wpl_join 3 (fun a w1 => w = w1 ∧ Sl 45 [(4, .pointer (some ⟨b17, 0, none⟩)), (6, .slice p46 rv45.1.length k47), (8, .slice p56 rv55.1.length k57), (40, .bool ((rv45.2 != 0) || (rv55.2 != 0)))] a) ?_ ?_
   ·rcases Bool.eq_false_or_eq_true (rv45.2 != 0) with h64 | h64
    ·have hs := hs.fix 37 (.bool true) rfl (vb h64)
     refine st_skip hs rfl rfl rfl rfl rfl fun a hs => ?_
     refine st_skip hs rfl rfl rfl rfl rfl fun a hs => ?_
     refine st_val hs (y_pickT rfl rfl) trivial rfl rfl fun a hs => ?_
     refine wpList_nil ?_
     refine then_normal ?_
     exact ⟨rfl, (hs.fix 40 (.bool ((rv45.2 != 0) || (rv55.2 != 0))) rfl (or_t h64)).weaken _ ⟨rfl, rfl, rfl, rfl, trivial⟩⟩
    ·have hs := hs.fix 37 (.bool false) rfl (vb h64)
     refine st_val hs (y_move rfl) ⟨_, rfl, rfl⟩ rfl rfl fun a hs => ?_
     refine st_val hs (y_neq rfl rfl) ⟨_, rfl, rfl⟩ rfl rfl fun a hs => ?_
     refine st_val hs (y_pickF rfl rfl) trivial rfl rfl fun a hs => ?_
     refine wpList_nil ?_
     refine then_normal ?_
     exact ⟨rfl, (hs.fix 40 (.bool ((rv45.2 != 0) || (rv55.2 != 0))) rfl (or_f h64)).weaken _ ⟨rfl, rfl, rfl, rfl, trivial⟩⟩
   ·rintro a w1 ⟨h67, hs⟩
    subst h67
    refine wpList_nil ?_
    refine then_normal ?_
    refine wp_cond_split (hs.ev rfl) (fun h66 => ?_) (fun h66 => ?_)
    ·have hsh := ite_t hsh h66
     refine wp_seq ?_
     refine wp_region_lit ?_
     refine st_val hs (y_build (vs := []) Bld31 rfl rfl) trivial rfl rfl fun a hs => ?_
     refine w_store (m := 2) (cs' := [.slice none ([] : List Int).length 0, .slice none ([] : List Int).length 0]) hs hw 2 rfl rfl rfl Try.sizeOf31 rfl rfl rfl rfl trivial ?_
     intro a w hs hw
     refine st_val hs (y_assign rfl) trivial rfl rfl fun a hs => ?_
     refine wpList_nil ?_
     refine then_normal ?_
     have hsh := Option.some.inj hsh
     subst hsh
     refine wp_ret ?_
     refine then_ret ?_
     exact ret2 hs rfl (rv_cell hw 2 rfl rfl Try.isAgg31 Try.sizeOf31 rfl) (rv_tmp rfl) (hw.ret ⟨none, 0, none, 0, rfl, (hw.envAt 6 rfl), (hw.envAt 6 rfl)⟩)
    ·have hsh := ite_f hsh h66
     refine wp_skip ?_
     refine then_normal ?_
     refine wp_seq ?_
     refine wp_region_lit ?_
     refine st_val hs (y_move rfl) trivial rfl rfl fun a hs => ?_
     refine st_val hs (y_move rfl) trivial rfl rfl fun a hs => ?_
     refine st_val hs (y_build (vs := [(0, .slice p46 rv45.1.length k47), (1, .slice p56 rv55.1.length k57)]) Bld31 rfl rfl) trivial rfl rfl fun a hs => ?_
     refine w_store (m := 2) (cs' := [.slice p46 rv45.1.length k47, .slice p56 rv55.1.length k57]) hs hw 2 rfl rfl rfl Try.sizeOf31 rfl rfl rfl rfl trivial ?_
     intro a w hs hw
     refine st_val hs (y_assign rfl) trivial rfl rfl fun a hs => ?_
     refine wpList_nil ?_
     refine then_normal ?_
     have hsh := Option.some.inj hsh
     subst hsh
     refine wp_ret ?_
     exact ret2 hs rfl (rv_cell hw 2 rfl rfl Try.isAgg31 Try.sizeOf31 rfl) (rv_tmp rfl) (hw.ret ⟨p46, k47, p56, k57, rfl, (hw.envAt 1 rfl), (hw.envAt 0 rfl)⟩)

abbrev law18_ResponseSections_rd (w0 : World) (X : List Nat) (r : Bool) : (Nat → Prop) → World → Value → Prop := fun S w v => v = .bool r
set_option maxHeartbeats 4000000 in
set_option maxRecDepth 100000 in
theorem law18_ResponseSections_ok {w0 : World} {S0 : Nat → Prop} {a0_1 : Int} {a1_2 : Int} {a2_3 : Int} {b0_4 : Int} {b1_5 : Int} {b2_6 : Int} {num7 : Int} {den8 : Int} {by9 : Int} {r : Bool} (hsh : law18_ResponseSections a0_1 a1_2 a2_3 b0_4 b1_5 b2_6 num7 den8 by9 = some r) (hS : ∀ b, S0 b → b < w0.heap.size) : Calls Try.prog 3 #[.int .i8 a0_1, .int .i8 a1_2, .int .i8 a2_3, .int .i8 b0_4, .int .i8 b1_5, .int .i8 b2_6, .int .u8 num7, .int .u8 den8, .int .u8 by9] w0 (Ret ([]) w0 S0 (law18_ResponseSections_rd w0 ([]) r)) := by
 refine calls_of_wp Try.func3 rfl ?_
 have hs := Sl.enter #[.int .i8 a0_1, .int .i8 a1_2, .int .i8 a2_3, .int .i8 b0_4, .int .i8 b1_5, .int .i8 b2_6, .int .u8 num7, .int .u8 den8, .int .u8 by9] 228 [(0, .int .i8 a0_1), (1, .int .i8 a1_2), (2, .int .i8 a2_3), (3, .int .i8 b0_4), (4, .int .i8 b1_5), (5, .int .i8 b2_6), (6, .int .u8 num7), (7, .int .u8 den8), (8, .int .u8 by9)] rfl ⟨rfl, rfl, rfl, rfl, rfl, rfl, rfl, rfl, rfl, trivial⟩
 have hw := Wd.enter (E := []) hS (fun _ h => (by cases h))
 delta law18_ResponseSections at hsh
 refine wp_seq ?_
 refine wp_region_lit ?_
 refine st_val hs (y_assign rfl) trivial rfl rfl fun a hs => ?_
 refine wpList_nil ?_
 refine then_normal ?_
 refine wp_seq ?_
 refine wp_region_lit ?_
 refine st_val hs (y_move rfl) trivial rfl rfl fun a hs => ?_
 refine st_val hs (y_convert Try.runUnderlying5 Try.runUnderlying3 rfl) trivial rfl rfl fun a hs => ?_
 refine st_val hs (y_move rfl) trivial rfl rfl fun a hs => ?_
 refine st_val hs (y_convert Try.runUnderlying5 Try.runUnderlying3 rfl) trivial rfl rfl fun a hs => ?_
 refine st_val hs (y_add rfl rfl) trivial rfl rfl fun a hs => ?_
 refine st_val hs (y_move rfl) trivial rfl rfl fun a hs => ?_
 refine st_val hs (y_convert Try.runUnderlying5 Try.runUnderlying3 rfl) trivial rfl rfl fun a hs => ?_
 refine st_val hs (y_rem rfl rfl (by decide)) trivial rfl rfl fun a hs => ?_
 refine st_val hs (y_add rfl rfl) trivial rfl rfl fun a hs => ?_
 obtain ⟨n11, h10, hsh⟩ := bind_t hsh
 refine st_val hs (y_assignI rfl h10) trivial rfl rfl fun a hs => ?_
 obtain ⟨m13, h12, hsh⟩ := bind_t hsh
 refine st_val hs (y_assignI rfl h12) trivial rfl rfl fun a hs => ?_
 obtain ⟨k15, h14, hsh⟩ := bind_t hsh
 refine st_val hs (y_assignI rfl h14) trivial rfl rfl fun a hs => ?_
 refine wpList_nil ?_
 refine then_normal ?_
 refine wp_seq ?_
 refine wp_region_lit ?_
 refine st_val hs (y_move rfl) trivial rfl rfl fun a hs => ?_
 refine st_val hs (y_convert Try.runUnderlying22 Try.runUnderlying3 rfl) trivial rfl rfl fun a hs => ?_
 refine st_val hs (y_move rfl) trivial rfl rfl fun a hs => ?_
 refine st_val hs (y_convert Try.runUnderlying22 Try.runUnderlying3 rfl) trivial rfl rfl fun a hs => ?_
 refine st_val hs (y_move rfl) trivial rfl rfl fun a hs => ?_
 refine st_val hs (y_convert Try.runUnderlying22 Try.runUnderlying3 rfl) trivial rfl rfl fun a hs => ?_
 refine st_val hs (y_build (vs := [(0, .int .i64 (w64 a0_1)), (1, .int .i64 (w64 a1_2)), (2, .int .i64 (w64 a2_3))]) Bld23 rfl rfl) trivial rfl rfl fun a hs => ?_
 refine st_val hs (y_move rfl) trivial rfl rfl fun a hs => ?_
 refine st_val hs (y_convert Try.runUnderlying22 Try.runUnderlying3 rfl) trivial rfl rfl fun a hs => ?_
 refine st_val hs (y_move rfl) trivial rfl rfl fun a hs => ?_
 refine st_val hs (y_convert Try.runUnderlying22 Try.runUnderlying3 rfl) trivial rfl rfl fun a hs => ?_
 refine st_val hs (y_move rfl) trivial rfl rfl fun a hs => ?_
 refine st_val hs (y_convert Try.runUnderlying22 Try.runUnderlying3 rfl) trivial rfl rfl fun a hs => ?_
 refine st_val hs (y_build (vs := [(0, .int .i64 (w64 b0_4)), (1, .int .i64 (w64 b1_5)), (2, .int .i64 (w64 b2_6))]) Bld23 rfl rfl) trivial rfl rfl fun a hs => ?_
 refine st_val hs (y_build (vs := [(0, .int .i64 1), (1, .agg #[.int .i64 (w64 a0_1), .int .i64 (w64 a1_2), .int .i64 (w64 a2_3)]), (2, .agg #[.int .i64 (w64 b0_4), .int .i64 (w64 b1_5), .int .i64 (w64 b2_6)])]) Bld26 rfl rfl) trivial rfl rfl fun a hs => ?_
 refine w_alloc (cs := [.int .i64 0, .int .i64 0, .int .i64 0, .int .i64 0, .int .i64 0, .int .i64 0, .int .i64 0, .slice none ([] : List Int).length 0, .int .i64 0, .int .i64 0]) hs hw Try.zeroValue26 rfl rfl trivial ?_
 intro b16 a w hs hw
 refine w_store (m := 10) (cs' := [.int .i64 1, .int .i64 (w64 a0_1), .int .i64 (w64 a1_2), .int .i64 (w64 a2_3), .int .i64 (w64 b0_4), .int .i64 (w64 b1_5), .int .i64 (w64 b2_6), .slice none ([] : List Int).length 0, .int .i64 0, .int .i64 0]) hs hw 0 rfl rfl rfl Try.sizeOf26 rfl rfl rfl rfl trivial ?_
 intro a w hs hw
 refine wpList_nil ?_
 refine then_normal ?_
 refine wp_seq ?_
 refine wp_seq ?_
 refine wp_region_lit ?_
 refine st_val hs (y_move rfl) trivial rfl rfl fun a hs => ?_
 refine st_val hs (y_eql rfl rfl) trivial rfl rfl fun a hs => ?_
 refine st_val hs (y_move rfl) trivial rfl rfl fun a hs => ?_
 refine wpl_join 3 (fun a w1 => w = w1 ∧ Sl 228 [(19, .int .i64 n11), (20, .int .i64 m13), (21, .int .i64 k15), (22, .pointer (some ⟨b16, 0, none⟩)), (71, .bool ((a0_1 == 0) || (b0_4 == 0)))] a) ?_ ?_
 ·rcases Bool.eq_false_or_eq_true (a0_1 == 0) with h17 | h17
  ·have hs := hs.fix 68 (.bool true) rfl (vb h17)
   refine st_skip hs rfl rfl rfl rfl rfl fun a hs => ?_
   refine st_skip hs rfl rfl rfl rfl rfl fun a hs => ?_
   refine st_val hs (y_pickT rfl rfl) trivial rfl rfl fun a hs => ?_
   refine wpList_nil ?_
   refine then_normal ?_
   exact ⟨rfl, (hs.fix 71 (.bool ((a0_1 == 0) || (b0_4 == 0))) rfl (or_t h17)).weaken _ ⟨rfl, rfl, rfl, rfl, rfl, trivial⟩⟩
  ·have hs := hs.fix 68 (.bool false) rfl (vb h17)
   refine st_val hs (y_move rfl) ⟨_, rfl, rfl⟩ rfl rfl fun a hs => ?_
   refine st_val hs (y_eql rfl rfl) ⟨_, rfl, rfl⟩ rfl rfl fun a hs => ?_
   refine st_val hs (y_pickF rfl rfl) trivial rfl rfl fun a hs => ?_
   refine wpList_nil ?_
   refine then_normal ?_
   exact ⟨rfl, (hs.fix 71 (.bool ((a0_1 == 0) || (b0_4 == 0))) rfl (or_f h17)).weaken _ ⟨rfl, rfl, rfl, rfl, rfl, trivial⟩⟩
 ·rintro a w1 ⟨h296, hs⟩
  subst h296
  refine wpList_nil ?_
  refine then_normal ?_
  refine wp_cond_split (hs.ev rfl) (fun h43 => ?_) (fun h43 => ?_)
  ·have hsh := ite_t hsh h43
   refine wp_seq ?_
   refine wp_region_lit ?_
   refine st_val hs (y_fieldAddr (o' := 1) Try.runUnderlying26 rfl Try.sizeOf23 rfl rfl rfl) trivial rfl rfl fun a hs => ?_
   refine st_val hs (y_loadBA (hw.ownAt 0 rfl) rfl Try.isAgg23 Try.sizeOf23 rfl rfl) trivial rfl rfl fun a hs => ?_
   refine st_val hs (y_build (vs := [(0, .int .i64 1), (1, .agg #[.int .i64 (w64 a0_1), .int .i64 (w64 a1_2), .int .i64 (w64 a2_3)])]) Bld26 rfl rfl) trivial rfl rfl fun a hs => ?_
   obtain ⟨rv45, h44, hsh⟩ := bind_t hsh
   have hw := hw.addE (e := SlA (α := Int) none 0 0 []) nil_sl
   refine st_callR hs (response_ValidStage_ok h44 hw.bdom (hw.bE 0 rfl)) (do_call Try.call7 rfl) trivial rfl rfl ?_
   intro v49 Sv46 w a h47 h48 hs
   subst h48
   have hw := hw.callB h47
   refine st_val hs (y_not rfl) trivial rfl rfl fun a hs => ?_
   refine st_val hs (y_move rfl) trivial rfl rfl fun a hs => ?_
   obtain ⟨c59, hc59, hsh⟩ := bind_t hsh
   refine wpl_join 2 (fun a w => ∃ (Sv60 : Nat → Prop), Sl 228 [(79, .bool c59)] a ∧ Wd ⟨w0, S0, []⟩ Sv60 [] [] w) ?_ ?_
   ·rcases Bool.eq_false_or_eq_true (!rv45) with h58 | h58
    ·have hs := hs.fix 77 (.bool true) rfl (vb h58)
     have hsh := ite_t hc59 h58
     obtain ⟨rv62, h61, hsh⟩ := bind_t hsh
     refine st_callR hs (law18_sane_ok h61 hw.bdom) (do_call Try.call8 rfl) ⟨_, rfl, rfl⟩ rfl rfl ?_
     intro v66 Sv63 w a h64 h65 hs
     subst h65
     have hw := hw.callB h64
     refine st_val hs (y_pickT rfl rfl) trivial rfl rfl fun a hs => ?_
     refine wpList_nil ?_
     have hsh := Option.some.inj hsh
     subst hsh
     refine then_normal ?_
     exact ⟨S0, (hs.wk rfl), (hw.ft [] [] (by decide) rfl rfl)⟩
    ·have hs := hs.fix 77 (.bool false) rfl (vb h58)
     have hsh := ite_f hc59 h58
     refine st_skip hs rfl rfl rfl rfl rfl fun a hs => ?_
     refine st_val hs (y_pickF rfl rfl) trivial rfl rfl fun a hs => ?_
     refine wpList_nil ?_
     have hsh := Option.some.inj hsh
     subst hsh
     refine then_normal ?_
     exact ⟨S0, (hs.wk rfl), (hw.ft [] [] (by decide) rfl rfl)⟩
   ·rintro a w ⟨Sv60, hs, hw⟩
    refine st_val hs (y_assign rfl) trivial rfl rfl fun a hs => ?_
    refine wpList_nil ?_
    refine then_normal ?_
    have hsh := Option.some.inj hsh
    subst hsh
    refine wp_ret ?_
    refine then_ret ?_
    exact ret1 hs rfl (rv_tmp rfl) (hw.ret rfl)
  ·have hsh := ite_f hsh h43
   refine wp_skip ?_
   refine then_normal ?_
   refine wp_seq ?_
   refine wp_region_lit ?_
   refine st_val hs (y_fieldAddr (o' := 4) Try.runUnderlying26 rfl Try.sizeOf23 rfl rfl rfl) trivial rfl rfl fun a hs => ?_
   refine st_val hs (y_loadBA (hw.ownAt 0 rfl) rfl Try.isAgg23 Try.sizeOf23 rfl rfl) trivial rfl rfl fun a hs => ?_
   refine st_val hs (y_fieldAddr (o' := 1) Try.runUnderlying26 rfl Try.sizeOf23 rfl rfl rfl) trivial rfl rfl fun a hs => ?_
   refine st_val hs (y_loadBA (hw.ownAt 0 rfl) rfl Try.isAgg23 Try.sizeOf23 rfl rfl) trivial rfl rfl fun a hs => ?_
   refine st_val hs (y_build (vs := [(0, .int .i64 1), (1, .agg #[.int .i64 (w64 b0_4), .int .i64 (w64 b1_5), .int .i64 (w64 b2_6)]), (2, .agg #[.int .i64 (w64 a0_1), .int .i64 (w64 a1_2), .int .i64 (w64 a2_3)])]) Bld26 rfl rfl) trivial rfl rfl fun a hs => ?_
   refine w_alloc (cs := [.int .i64 0, .int .i64 0, .int .i64 0, .int .i64 0, .int .i64 0, .int .i64 0, .int .i64 0, .slice none ([] : List Int).length 0, .int .i64 0, .int .i64 0]) hs hw Try.zeroValue26 rfl rfl trivial ?_
   intro b68 a w hs hw
   refine w_store (m := 10) (cs' := [.int .i64 1, .int .i64 (w64 b0_4), .int .i64 (w64 b1_5), .int .i64 (w64 b2_6), .int .i64 (w64 a0_1), .int .i64 (w64 a1_2), .int .i64 (w64 a2_3), .slice none ([] : List Int).length 0, .int .i64 0, .int .i64 0]) hs hw 0 rfl rfl rfl Try.sizeOf26 rfl rfl rfl rfl trivial ?_
   intro a w hs hw
   refine wpList_nil ?_
   refine then_normal ?_
   refine wp_seq ?_
   refine wp_region_lit ?_
   refine st_val hs (y_fieldAddr (o' := 1) Try.runUnderlying26 rfl Try.sizeOf23 rfl rfl rfl) trivial rfl rfl fun a hs => ?_
   refine st_val hs (y_loadBA (hw.ownAt 1 rfl) rfl Try.isAgg23 Try.sizeOf23 rfl rfl) trivial rfl rfl fun a hs => ?_
   refine st_val hs (y_fieldAddr (o' := 1) Try.runUnderlying26 rfl Try.sizeOf23 rfl rfl rfl) trivial rfl rfl fun a hs => ?_
   refine st_val hs (y_loadBA (hw.ownAt 1 rfl) rfl Try.isAgg23 Try.sizeOf23 rfl rfl) trivial rfl rfl fun a hs => ?_
   refine st_val hs (y_build (vs := [(0, .int .i64 1), (1, .agg #[.int .i64 (w64 a0_1), .int .i64 (w64 a1_2), .int .i64 (w64 a2_3)]), (2, .agg #[.int .i64 (w64 a0_1), .int .i64 (w64 a1_2), .int .i64 (w64 a2_3)])]) Bld26 rfl rfl) trivial rfl rfl fun a hs => ?_
   refine w_alloc (cs := [.int .i64 0, .int .i64 0, .int .i64 0, .int .i64 0, .int .i64 0, .int .i64 0, .int .i64 0, .slice none ([] : List Int).length 0, .int .i64 0, .int .i64 0]) hs hw Try.zeroValue26 rfl rfl trivial ?_
   intro b69 a w hs hw
   refine w_store (m := 10) (cs' := [.int .i64 1, .int .i64 (w64 a0_1), .int .i64 (w64 a1_2), .int .i64 (w64 a2_3), .int .i64 (w64 a0_1), .int .i64 (w64 a1_2), .int .i64 (w64 a2_3), .slice none ([] : List Int).length 0, .int .i64 0, .int .i64 0]) hs hw 0 rfl rfl rfl Try.sizeOf26 rfl rfl rfl rfl trivial ?_
   intro a w hs hw
   refine wpList_nil ?_
   refine then_normal ?_
   refine wp_seq ?_
   refine wp_region_lit ?_
   refine st_val hs (y_assign rfl) trivial rfl rfl fun a hs => ?_
   refine wpList_nil ?_
   refine then_normal ?_
   refine wp_seq ?_
   refine wp_region_lit ?_
   refine st_val hs (y_move rfl) trivial rfl rfl fun a hs => ?_
   refine st_val hs (y_loadBA (hw.ownAt 2 rfl) rfl Try.isAgg26 Try.sizeOf26 rfl rfl) trivial rfl rfl fun a hs => ?_
   refine st_val hs (y_move rfl) trivial rfl rfl fun a hs => ?_
   refine st_val hs (y_move rfl) trivial rfl rfl fun a hs => ?_
   obtain ⟨rv71, h70, hsh⟩ := bind_t hsh
   have hw := hw.addE (e := SlA (α := Int) none 0 0 []) nil_sl
   refine st_callR hs (law18_ResponseSections_fn1_ok h70 hw.dom (hw.envAt 0 rfl)) (do_callT Try.call9 rfl rfl) trivial rfl rfl ?_
   intro v81 Sv78 w a h79 h80 hs
   obtain ⟨p72, k73, p75, k76, rfl, h74, h77⟩ := h80
   have hw := hw.call h79
   have hw := hw.addE (e := SlA p72 rv71.1.Num.length k73 rv71.1.Num) h74
   have hw := hw.addE (e := SlA p75 rv71.1.Den.length k76 rv71.1.Den) h77
   refine st_val hs (y_move rfl) trivial rfl rfl fun a hs => ?_
   refine st_val hs (y_extract rfl rfl) trivial rfl rfl fun a hs => ?_
   refine st_val hs (y_extract rfl rfl) trivial rfl rfl fun a hs => ?_
   refine w_alloc (cs := [.slice none ([] : List Int).length 0, .slice none ([] : List Int).length 0]) hs hw Try.zeroValue31 rfl rfl trivial ?_
   intro b83 a w hs hw
   refine w_store (m := 2) (cs' := [.slice p72 rv71.1.Num.length k73, .slice p75 rv71.1.Den.length k76]) hs hw 0 rfl rfl rfl Try.sizeOf31 rfl rfl rfl rfl trivial ?_
   intro a w hs hw
   refine st_val hs (y_assign rfl) trivial rfl rfl fun a hs => ?_
   refine wpList_nil ?_
   refine then_normal ?_
   refine wp_seq ?_
   refine wp_region_lit ?_
   refine st_val hs (y_move rfl) trivial rfl rfl fun a hs => ?_
   refine st_val hs (y_loadBA (hw.ownAt 3 rfl) rfl Try.isAgg26 Try.sizeOf26 rfl rfl) trivial rfl rfl fun a hs => ?_
   refine st_val hs (y_move rfl) trivial rfl rfl fun a hs => ?_
   refine st_val hs (y_move rfl) trivial rfl rfl fun a hs => ?_
   refine st_val hs (y_mul rfl rfl) trivial rfl rfl fun a hs => ?_
   refine st_val hs (y_move rfl) trivial rfl rfl fun a hs => ?_
   refine st_val hs (y_move rfl) trivial rfl rfl fun a hs => ?_
   refine st_val hs (y_mul rfl rfl) trivial rfl rfl fun a hs => ?_
   obtain ⟨rv85, h84, hsh⟩ := bind_t hsh
   refine st_callR hs (law18_ResponseSections_fn1_ok h84 hw.dom (hw.envAt 2 rfl)) (do_callT Try.call9 rfl rfl) trivial rfl rfl ?_
   intro v95 Sv92 w a h93 h94 hs
   obtain ⟨p86, k87, p89, k90, rfl, h88, h91⟩ := h94
   have hw := hw.call h93
   have hw := hw.addE (e := SlA p86 rv85.1.Num.length k87 rv85.1.Num) h88
   have hw := hw.addE (e := SlA p89 rv85.1.Den.length k90 rv85.1.Den) h91
   refine st_val hs (y_move rfl) trivial rfl rfl fun a hs => ?_
   refine st_val hs (y_extract rfl rfl) trivial rfl rfl fun a hs => ?_
   refine st_val hs (y_extract rfl rfl) trivial rfl rfl fun a hs => ?_
   refine w_alloc (cs := [.slice none ([] : List Int).length 0, .slice none ([] : List Int).length 0]) hs hw Try.zeroValue31 rfl rfl trivial ?_
   intro b97 a w hs hw
   refine w_store (m := 2) (cs' := [.slice p86 rv85.1.Num.length k87, .slice p89 rv85.1.Den.length k90]) hs hw 0 rfl rfl rfl Try.sizeOf31 rfl rfl rfl rfl trivial ?_
   intro a w hs hw
   refine st_val hs (y_assign rfl) trivial rfl rfl fun a hs => ?_
   refine wpList_nil ?_
   refine then_normal ?_
   refine wp_seq ?_
   refine wp_seq ?_
   refine wp_region_lit ?_
   refine st_val hs (y_move rfl) trivial rfl rfl fun a hs => ?_
   refine st_val hs (y_neq rfl rfl) trivial rfl rfl fun a hs => ?_
   refine wpList_nil ?_
   refine then_normal ?_
   refine wp_cond_split (hs.ev rfl) (fun h118 => ?_) (fun h118 => ?_)
   ·have hsh := ite_t hsh h118
    refine wp_seq ?_
    refine wp_region_lit ?_
    refine st_val hs (y_move rfl) trivial rfl rfl fun a hs => ?_
    refine st_val hs (y_eql rfl rfl) trivial rfl rfl fun a hs => ?_
    refine st_val hs (y_move rfl) trivial rfl rfl fun a hs => ?_
    refine wpl_join 4 (fun a w1 => w = w1 ∧ Sl 228 [(118, .bool ((rv71.2 == 11) && (rv85.2 == rv71.2)))] a) ?_ ?_
    ·rcases Bool.eq_false_or_eq_true (rv71.2 == 11) with h119 | h119
     ·have hs := hs.fix 114 (.bool true) rfl (vb h119)
      refine st_val hs (y_move rfl) ⟨_, rfl, rfl⟩ rfl rfl fun a hs => ?_
      refine st_val hs (y_move rfl) ⟨_, rfl, rfl⟩ rfl rfl fun a hs => ?_
      refine st_val hs (y_eql rfl rfl) ⟨_, rfl, rfl⟩ rfl rfl fun a hs => ?_
      refine st_val hs (y_pickT rfl rfl) trivial rfl rfl fun a hs => ?_
      refine wpList_nil ?_
      refine then_normal ?_
      exact ⟨rfl, (hs.fix 118 (.bool ((rv71.2 == 11) && (rv85.2 == rv71.2))) rfl (and_t h119)).weaken _ ⟨rfl, trivial⟩⟩
     ·have hs := hs.fix 114 (.bool false) rfl (vb h119)
      refine st_skip hs rfl rfl rfl rfl rfl fun a hs => ?_
      refine st_skip hs rfl rfl rfl rfl rfl fun a hs => ?_
      refine st_skip hs rfl rfl rfl rfl rfl fun a hs => ?_
      refine st_val hs (y_pickF rfl rfl) trivial rfl rfl fun a hs => ?_
      refine wpList_nil ?_
      refine then_normal ?_
      exact ⟨rfl, (hs.fix 118 (.bool ((rv71.2 == 11) && (rv85.2 == rv71.2))) rfl (and_f h119)).weaken _ ⟨rfl, trivial⟩⟩
    ·rintro a w1 ⟨h137, hs⟩
     subst h137
     refine st_val hs (y_move rfl) trivial rfl rfl fun a hs => ?_
     obtain ⟨c128, hc128, hsh⟩ := bind_t hsh
     refine wpl_join 2 (fun a w => ∃ (Sv129 : Nat → Prop), Sl 228 [(121, .bool c128)] a ∧ Wd ⟨w0, S0, []⟩ Sv129 [] [] w) ?_ ?_
     ·rcases Bool.eq_false_or_eq_true ((rv71.2 == 11) && (rv85.2 == rv71.2)) with h127 | h127
      ·have hs := hs.fix 119 (.bool true) rfl (vb h127)
       have hsh := ite_t hc128 h127
       obtain ⟨rv131, h130, hsh⟩ := bind_t hsh
       refine st_callR hs (law18_sane_ok h130 hw.bdom) (do_call Try.call8 rfl) ⟨_, rfl, rfl⟩ rfl rfl ?_
       intro v135 Sv132 w a h133 h134 hs
       subst h134
       have hw := hw.callB h133
       refine st_val hs (y_pickT rfl rfl) trivial rfl rfl fun a hs => ?_
       refine wpList_nil ?_
       have hsh := Option.some.inj hsh
       subst hsh
       refine then_normal ?_
       exact ⟨Sv92, (hs.wk rfl), (hw.ft [] [] (by decide) rfl rfl)⟩
      ·have hs := hs.fix 119 (.bool false) rfl (vb h127)
       have hsh := ite_f hc128 h127
       refine st_skip hs rfl rfl rfl rfl rfl fun a hs => ?_
       refine st_val hs (y_pickF rfl rfl) trivial rfl rfl fun a hs => ?_
       refine wpList_nil ?_
       have hsh := Option.some.inj hsh
       subst hsh
       refine then_normal ?_
       exact ⟨Sv92, (hs.wk rfl), (hw.ft [] [] (by decide) rfl rfl)⟩
     ·rintro a w ⟨Sv129, hs, hw⟩
      refine st_val hs (y_assign rfl) trivial rfl rfl fun a hs => ?_
      refine wpList_nil ?_
      refine then_normal ?_
      have hsh := Option.some.inj hsh
      subst hsh
      refine wp_ret ?_
      refine then_ret ?_
      exact ret1 hs rfl (rv_tmp rfl) (hw.ret rfl)
   ·have hsh := ite_f hsh h118
    refine wp_skip ?_
    refine then_normal ?_
    refine wp_seq ?_
    refine wp_region_lit ?_
    refine st_val hs (y_loadBA (hw.ownAt 1 rfl) rfl Try.isAgg31 Try.sizeOf31 rfl rfl) trivial rfl rfl fun a hs => ?_
    refine st_val hs (y_loadBA (hw.ownAt 0 rfl) rfl Try.isAgg31 Try.sizeOf31 rfl rfl) trivial rfl rfl fun a hs => ?_
    obtain ⟨rv139, h138, hsh⟩ := bind_t hsh
    refine st_callR hs (ref17_Equal_ok h138 hw.bdom (hw.bE 3 rfl) (hw.bE 2 rfl) (hw.bE 1 rfl) (hw.bE 0 rfl)) (do_call Try.call11 rfl) trivial rfl rfl ?_
    intro v143 Sv140 w a h141 h142 hs
    subst h142
    have hw := hw.callB h141
    refine st_val hs (y_move rfl) trivial rfl rfl fun a hs => ?_
    refine st_val hs (y_extract rfl rfl) trivial rfl rfl fun a hs => ?_
    refine st_val hs (y_extract rfl rfl) trivial rfl rfl fun a hs => ?_
    refine st_val hs (y_assign rfl) trivial rfl rfl fun a hs => ?_
    refine st_val hs (y_assign rfl) trivial rfl rfl fun a hs => ?_
    refine wpList_nil ?_
    refine then_normal ?_
    refine wp_seq ?_
    refine wp_region_lit ?_
    refine st_val hs (y_move rfl) trivial rfl rfl fun a hs => ?_
    refine st_val hs (y_loadBA (hw.ownAt 2 rfl) rfl Try.isAgg26 Try.sizeOf26 rfl rfl) trivial rfl rfl fun a hs => ?_
    refine st_val hs (y_move rfl) trivial rfl rfl fun a hs => ?_
    refine st_val hs (y_move rfl) trivial rfl rfl fun a hs => ?_
    obtain ⟨rv146, h145, hsh⟩ := bind_t hsh
    refine st_callR hs (law18_ResponseSections_fn1_ok h145 hw.dom (hw.envAt 4 rfl)) (do_callT Try.call9 rfl rfl) trivial rfl rfl ?_
    intro v156 Sv153 w a h154 h155 hs
    obtain ⟨p147, k148, p150, k151, rfl, h149, h152⟩ := h155
    have hw := hw.call h154
    have hw := hw.addE (e := SlA p147 rv146.1.Num.length k148 rv146.1.Num) h149
    have hw := hw.addE (e := SlA p150 rv146.1.Den.length k151 rv146.1.Den) h152
    refine st_val hs (y_move rfl) trivial rfl rfl fun a hs => ?_
    refine st_val hs (y_extract rfl rfl) trivial rfl rfl fun a hs => ?_
    refine st_val hs (y_extract rfl rfl) trivial rfl rfl fun a hs => ?_
    refine w_alloc (cs := [.slice none ([] : List Int).length 0, .slice none ([] : List Int).length 0]) hs hw Try.zeroValue31 rfl rfl trivial ?_
    intro b158 a w hs hw
    refine w_store (m := 2) (cs' := [.slice p147 rv146.1.Num.length k148, .slice p150 rv146.1.Den.length k151]) hs hw 0 rfl rfl rfl Try.sizeOf31 rfl rfl rfl rfl trivial ?_
    intro a w hs hw
    refine st_val hs (y_assign rfl) trivial rfl rfl fun a hs => ?_
    refine wpList_nil ?_
    refine then_normal ?_
    refine wp_seq ?_
    refine wp_region_lit ?_
    refine st_val hs (y_move rfl) trivial rfl rfl fun a hs => ?_
    refine st_val hs (y_loadBA (hw.ownAt 4 rfl) rfl Try.isAgg26 Try.sizeOf26 rfl rfl) trivial rfl rfl fun a hs => ?_
    refine st_val hs (y_move rfl) trivial rfl rfl fun a hs => ?_
    refine st_val hs (y_move rfl) trivial rfl rfl fun a hs => ?_
    obtain ⟨rv160, h159, hsh⟩ := bind_t hsh
    refine st_callR hs (law18_ResponseSections_fn1_ok h159 hw.dom (hw.envAt 6 rfl)) (do_callT Try.call9 rfl rfl) trivial rfl rfl ?_
    intro v170 Sv167 w a h168 h169 hs
    obtain ⟨p161, k162, p164, k165, rfl, h163, h166⟩ := h169
    have hw := hw.call h168
    have hw := hw.addE (e := SlA p161 rv160.1.Num.length k162 rv160.1.Num) h163
    have hw := hw.addE (e := SlA p164 rv160.1.Den.length k165 rv160.1.Den) h166
    refine st_val hs (y_move rfl) trivial rfl rfl fun a hs => ?_
    refine st_val hs (y_extract rfl rfl) trivial rfl rfl fun a hs => ?_
    refine st_val hs (y_extract rfl rfl) trivial rfl rfl fun a hs => ?_
    refine w_alloc (cs := [.slice none ([] : List Int).length 0, .slice none ([] : List Int).length 0]) hs hw Try.zeroValue31 rfl rfl trivial ?_
    intro b172 a w hs hw
    refine w_store (m := 2) (cs' := [.slice p161 rv160.1.Num.length k162, .slice p164 rv160.1.Den.length k165]) hs hw 0 rfl rfl rfl Try.sizeOf31 rfl rfl rfl rfl trivial ?_
    intro a w hs hw
    refine st_val hs (y_assign rfl) trivial rfl rfl fun a hs => ?_
    refine wpList_nil ?_
    refine then_normal ?_
    refine wp_seq ?_
    refine wp_seq ?_
    refine wp_region_lit ?_
    refine st_val hs (y_fieldAddr (o' := 0) Try.runUnderlying31 rfl Try.sizeOf29 rfl rfl rfl) trivial rfl rfl fun a hs => ?_
    refine st_val hs (y_loadB1 (hw.ownAt 3 rfl) rfl Try.isAgg29 rfl) trivial rfl rfl fun a hs => ?_
    refine st_val hs (y_len Try.runUnderlying29 rfl) trivial rfl rfl fun a hs => ?_
    refine st_val hs (y_eql rfl rfl) trivial rfl rfl fun a hs => ?_
    refine wpList_nil ?_
    refine then_normal ?_
    refine wp_cond_split (hs.ev rfl) (fun h199 => ?_) (fun h199 => ?_)
    ·have hsh := ite_t hsh h199
     refine wp_seq ?_
     refine wp_region_lit ?_
     refine st_val hs (y_move rfl) trivial rfl rfl fun a hs => ?_
     refine st_val hs (y_eql rfl rfl) trivial rfl rfl fun a hs => ?_
     refine st_val hs (y_move rfl) trivial rfl rfl fun a hs => ?_
     refine wpl_join 3 (fun a w1 => w = w1 ∧ Sl 228 [(30, .bool rv139.1), (33, .int .i64 rv146.2), (35, .int .i64 rv160.2), (153, .bool ((rv85.2 == 0) && (rv139.2 == 0)))] a) ?_ ?_
     ·rcases Bool.eq_false_or_eq_true (rv85.2 == 0) with h200 | h200
      ·have hs := hs.fix 150 (.bool true) rfl (vb h200)
       refine st_val hs (y_move rfl) ⟨_, rfl, rfl⟩ rfl rfl fun a hs => ?_
       refine st_val hs (y_eql rfl rfl) ⟨_, rfl, rfl⟩ rfl rfl fun a hs => ?_
       refine st_val hs (y_pickT rfl rfl) trivial rfl rfl fun a hs => ?_
       refine wpList_nil ?_
       refine then_normal ?_
       exact ⟨rfl, (hs.fix 153 (.bool ((rv85.2 == 0) && (rv139.2 == 0))) rfl (and_t h200)).weaken _ ⟨rfl, rfl, rfl, rfl, trivial⟩⟩
      ·have hs := hs.fix 150 (.bool false) rfl (vb h200)
       refine st_skip hs rfl rfl rfl rfl rfl fun a hs => ?_
       refine st_skip hs rfl rfl rfl rfl rfl fun a hs => ?_
       refine st_val hs (y_pickF rfl rfl) trivial rfl rfl fun a hs => ?_
       refine wpList_nil ?_
       refine then_normal ?_
       exact ⟨rfl, (hs.fix 153 (.bool ((rv85.2 == 0) && (rv139.2 == 0))) rfl (and_f h200)).weaken _ ⟨rfl, rfl, rfl, rfl, trivial⟩⟩
     ·rintro a w1 ⟨h224, hs⟩
      subst h224
      refine st_val hs (y_move rfl) trivial rfl rfl fun a hs => ?_
      refine wpl_join 2 (fun a w1 => w = w1 ∧ Sl 228 [(33, .int .i64 rv146.2), (35, .int .i64 rv160.2), (156, .bool (((rv85.2 == 0) && (rv139.2 == 0)) && rv139.1))] a) ?_ ?_
      ·rcases Bool.eq_false_or_eq_true ((rv85.2 == 0) && (rv139.2 == 0)) with h201 | h201
       ·have hs := hs.fix 154 (.bool true) rfl (vb h201)
        refine st_val hs (y_move rfl) ⟨_, rfl, rfl⟩ rfl rfl fun a hs => ?_
        refine st_val hs (y_pickT rfl rfl) trivial rfl rfl fun a hs => ?_
        refine wpList_nil ?_
        refine then_normal ?_
        exact ⟨rfl, (hs.fix 156 (.bool (((rv85.2 == 0) && (rv139.2 == 0)) && rv139.1)) rfl (and_t h201)).weaken _ ⟨rfl, rfl, rfl, trivial⟩⟩
       ·have hs := hs.fix 154 (.bool false) rfl (vb h201)
        refine st_skip hs rfl rfl rfl rfl rfl fun a hs => ?_
        refine st_val hs (y_pickF rfl rfl) trivial rfl rfl fun a hs => ?_
        refine wpList_nil ?_
        refine then_normal ?_
        exact ⟨rfl, (hs.fix 156 (.bool (((rv85.2 == 0) && (rv139.2 == 0)) && rv139.1)) rfl (and_f h201)).weaken _ ⟨rfl, rfl, rfl, trivial⟩⟩
      ·rintro a w1 ⟨h223, hs⟩
       subst h223
       refine st_val hs (y_move rfl) trivial rfl rfl fun a hs => ?_
       refine wpl_join 3 (fun a w1 => w = w1 ∧ Sl 228 [(35, .int .i64 rv160.2), (160, .bool ((((rv85.2 == 0) && (rv139.2 == 0)) && rv139.1) && (rv146.2 == 11)))] a) ?_ ?_
       ·rcases Bool.eq_false_or_eq_true (((rv85.2 == 0) && (rv139.2 == 0)) && rv139.1) with h202 | h202
        ·have hs := hs.fix 157 (.bool true) rfl (vb h202)
         refine st_val hs (y_move rfl) ⟨_, rfl, rfl⟩ rfl rfl fun a hs => ?_
         refine st_val hs (y_eql rfl rfl) ⟨_, rfl, rfl⟩ rfl rfl fun a hs => ?_
         refine st_val hs (y_pickT rfl rfl) trivial rfl rfl fun a hs => ?_
         refine wpList_nil ?_
         refine then_normal ?_
         exact ⟨rfl, (hs.fix 160 (.bool ((((rv85.2 == 0) && (rv139.2 == 0)) && rv139.1) && (rv146.2 == 11))) rfl (and_t h202)).weaken _ ⟨rfl, rfl, trivial⟩⟩
        ·have hs := hs.fix 157 (.bool false) rfl (vb h202)
         refine st_skip hs rfl rfl rfl rfl rfl fun a hs => ?_
         refine st_skip hs rfl rfl rfl rfl rfl fun a hs => ?_
         refine st_val hs (y_pickF rfl rfl) trivial rfl rfl fun a hs => ?_
         refine wpList_nil ?_
         refine then_normal ?_
         exact ⟨rfl, (hs.fix 160 (.bool ((((rv85.2 == 0) && (rv139.2 == 0)) && rv139.1) && (rv146.2 == 11))) rfl (and_f h202)).weaken _ ⟨rfl, rfl, trivial⟩⟩
       ·rintro a w1 ⟨h222, hs⟩
        subst h222
        refine st_val hs (y_move rfl) trivial rfl rfl fun a hs => ?_
        refine wpl_join 3 (fun a w1 => w = w1 ∧ Sl 228 [(164, .bool (((((rv85.2 == 0) && (rv139.2 == 0)) && rv139.1) && (rv146.2 == 11)) && (rv160.2 == 11)))] a) ?_ ?_
        ·rcases Bool.eq_false_or_eq_true ((((rv85.2 == 0) && (rv139.2 == 0)) && rv139.1) && (rv146.2 == 11)) with h203 | h203
         ·have hs := hs.fix 161 (.bool true) rfl (vb h203)
          refine st_val hs (y_move rfl) ⟨_, rfl, rfl⟩ rfl rfl fun a hs => ?_
          refine st_val hs (y_eql rfl rfl) ⟨_, rfl, rfl⟩ rfl rfl fun a hs => ?_
          refine st_val hs (y_pickT rfl rfl) trivial rfl rfl fun a hs => ?_
          refine wpList_nil ?_
          refine then_normal ?_
          exact ⟨rfl, (hs.fix 164 (.bool (((((rv85.2 == 0) && (rv139.2 == 0)) && rv139.1) && (rv146.2 == 11)) && (rv160.2 == 11))) rfl (and_t h203)).weaken _ ⟨rfl, trivial⟩⟩
         ·have hs := hs.fix 161 (.bool false) rfl (vb h203)
          refine st_skip hs rfl rfl rfl rfl rfl fun a hs => ?_
          refine st_skip hs rfl rfl rfl rfl rfl fun a hs => ?_
          refine st_val hs (y_pickF rfl rfl) trivial rfl rfl fun a hs => ?_
          refine wpList_nil ?_
          refine then_normal ?_
          exact ⟨rfl, (hs.fix 164 (.bool (((((rv85.2 == 0) && (rv139.2 == 0)) && rv139.1) && (rv146.2 == 11)) && (rv160.2 == 11))) rfl (and_f h203)).weaken _ ⟨rfl, trivial⟩⟩
        ·rintro a w1 ⟨h221, hs⟩
         subst h221
         refine st_val hs (y_move rfl) trivial rfl rfl fun a hs => ?_
         obtain ⟨c212, hc212, hsh⟩ := bind_t hsh
         refine wpl_join 2 (fun a w => ∃ (Sv213 : Nat → Prop), Sl 228 [(167, .bool c212)] a ∧ Wd ⟨w0, S0, []⟩ Sv213 [] [] w) ?_ ?_
         ·rcases Bool.eq_false_or_eq_true (((((rv85.2 == 0) && (rv139.2 == 0)) && rv139.1) && (rv146.2 == 11)) && (rv160.2 == 11)) with h211 | h211
          ·have hs := hs.fix 165 (.bool true) rfl (vb h211)
           have hsh := ite_t hc212 h211
           obtain ⟨rv215, h214, hsh⟩ := bind_t hsh
           refine st_callR hs (law18_sane_ok h214 hw.bdom) (do_call Try.call8 rfl) ⟨_, rfl, rfl⟩ rfl rfl ?_
           intro v219 Sv216 w a h217 h218 hs
           subst h218
           have hw := hw.callB h217
           refine st_val hs (y_pickT rfl rfl) trivial rfl rfl fun a hs => ?_
           refine wpList_nil ?_
           have hsh := Option.some.inj hsh
           subst hsh
           refine then_normal ?_
           exact ⟨Sv167, (hs.wk rfl), (hw.ft [] [] (by decide) rfl rfl)⟩
          ·have hs := hs.fix 165 (.bool false) rfl (vb h211)
           have hsh := ite_f hc212 h211
           refine st_skip hs rfl rfl rfl rfl rfl fun a hs => ?_
           refine st_val hs (y_pickF rfl rfl) trivial rfl rfl fun a hs => ?_
           refine wpList_nil ?_
           have hsh := Option.some.inj hsh
           subst hsh
           refine then_normal ?_
           exact ⟨Sv167, (hs.wk rfl), (hw.ft [] [] (by decide) rfl rfl)⟩
         ·rintro a w ⟨Sv213, hs, hw⟩
          refine st_val hs (y_assign rfl) trivial rfl rfl fun a hs => ?_
          refine wpList_nil ?_
          refine then_normal ?_
          have hsh := Option.some.inj hsh
          subst hsh
          refine wp_ret ?_
          refine then_ret ?_
          exact ret1 hs rfl (rv_tmp rfl) (hw.ret rfl)
    ·have hsh := ite_f hsh h199
     refine wp_skip ?_
     refine then_normal ?_
     refine wp_seq ?_
     refine wp_region_lit ?_
     refine st_val hs (y_loadBA (hw.ownAt 1 rfl) rfl Try.isAgg31 Try.sizeOf31 rfl rfl) trivial rfl rfl fun a hs => ?_
     refine w_litSlice (α := Int) (vs := [.int .i64 1]) (cs := [.int .i64 1]) (xs := ([1] : List Int)) hs hw El29 rfl rfl rfl rfl rfl rfl ⟨⟨_, rfl, rfl⟩, rfl⟩ rfl trivial rfl fun b226 a w hs hw => ?_
     refine w_litSlice (α := Int) (vs := [.int .i64 1]) (cs := [.int .i64 1]) (xs := ([1] : List Int)) hs hw El29 rfl rfl rfl rfl rfl rfl ⟨⟨_, rfl, rfl⟩, rfl⟩ rfl trivial rfl fun b228 a w hs hw => ?_
     refine st_val hs (y_build (vs := [(0, .slice (some ⟨b226, 0, none⟩) ([1] : List Int).length ([1] : List Int).length), (1, .slice (some ⟨b228, 0, none⟩) ([1] : List Int).length ([1] : List Int).length)]) Bld31 rfl rfl) trivial rfl rfl fun a hs => ?_
     obtain ⟨rv230, h229, hsh⟩ := bind_t hsh
     refine st_callR hs (ref17_Equal_ok h229 hw.bdom (hw.bE 5 rfl) (hw.bE 4 rfl) (hw.bRow 1 rfl 0 rfl) (hw.bRow 0 rfl 0 rfl)) (do_call Try.call11 rfl) trivial rfl rfl ?_
     intro v234 Sv231 w a h232 h233 hs
     subst h233
     have hw := hw.callB h232
     refine st_val hs (y_move rfl) trivial rfl rfl fun a hs => ?_
     refine st_val hs (y_extract rfl rfl) trivial rfl rfl fun a hs => ?_
     refine st_val hs (y_extract rfl rfl) trivial rfl rfl fun a hs => ?_
     refine st_val hs (y_assign rfl) trivial rfl rfl fun a hs => ?_
     refine st_val hs (y_assign rfl) trivial rfl rfl fun a hs => ?_
     refine wpList_nil ?_
     refine then_normal ?_
     refine wp_seq ?_
     refine wp_region_lit ?_
     refine st_val hs (y_loadBA (hw.ownAt 5 rfl) rfl Try.isAgg31 Try.sizeOf31 rfl rfl) trivial rfl rfl fun a hs => ?_
     refine st_val hs (y_loadBA (hw.ownAt 2 rfl) rfl Try.isAgg31 Try.sizeOf31 rfl rfl) trivial rfl rfl fun a hs => ?_
     obtain ⟨rv237, h236, hsh⟩ := bind_t hsh
     refine st_callR hs (ref17_Times_ok h236 hw.dom (hw.envAt 9 rfl) (hw.envAt 8 rfl) (hw.envAt 3 rfl) (hw.envAt 2 rfl)) (do_call Try.call12 rfl) trivial rfl rfl ?_
     intro v247 Sv244 w a h245 h246 hs
     obtain ⟨p238, k239, p241, k242, rfl, h240, h243⟩ := h246
     have hw := hw.call h245
     have hw := hw.addE (e := SlA p238 rv237.1.Num.length k239 rv237.1.Num) h240
     have hw := hw.addE (e := SlA p241 rv237.1.Den.length k242 rv237.1.Den) h243
     refine st_val hs (y_move rfl) trivial rfl rfl fun a hs => ?_
     refine st_val hs (y_extract rfl rfl) trivial rfl rfl fun a hs => ?_
     refine st_val hs (y_extract rfl rfl) trivial rfl rfl fun a hs => ?_
     refine w_alloc (cs := [.slice none ([] : List Int).length 0, .slice none ([] : List Int).length 0]) hs hw Try.zeroValue31 rfl rfl trivial ?_
     intro b249 a w hs hw
     refine w_store (m := 2) (cs' := [.slice p238 rv237.1.Num.length k239, .slice p241 rv237.1.Den.length k242]) hs hw 0 rfl rfl rfl Try.sizeOf31 rfl rfl rfl rfl trivial ?_
     intro a w hs hw
     refine st_val hs (y_assign rfl) trivial rfl rfl fun a hs => ?_
     refine wpList_nil ?_
     refine then_normal ?_
     refine wp_seq ?_
     refine wp_region_lit ?_
     refine st_val hs (y_loadBA (hw.ownAt 0 rfl) rfl Try.isAgg31 Try.sizeOf31 rfl rfl) trivial rfl rfl fun a hs => ?_
     refine w_litSlice (α := Int) (vs := [.int .i64 1]) (cs := [.int .i64 1]) (xs := ([1] : List Int)) hs hw El29 rfl rfl rfl rfl rfl rfl ⟨⟨_, rfl, rfl⟩, rfl⟩ rfl trivial rfl fun b251 a w hs hw => ?_
     refine w_litSlice (α := Int) (vs := [.int .i64 1]) (cs := [.int .i64 1]) (xs := ([1] : List Int)) hs hw El29 rfl rfl rfl rfl rfl rfl ⟨⟨_, rfl, rfl⟩, rfl⟩ rfl trivial rfl fun b253 a w hs hw => ?_
     refine st_val hs (y_build (vs := [(0, .slice (some ⟨b251, 0, none⟩) ([1] : List Int).length ([1] : List Int).length), (1, .slice (some ⟨b253, 0, none⟩) ([1] : List Int).length ([1] : List Int).length)]) Bld31 rfl rfl) trivial rfl rfl fun a hs => ?_
     obtain ⟨rv255, h254, hsh⟩ := bind_t hsh
     refine st_callR hs (ref17_Equal_ok h254 hw.bdom (hw.bE 3 rfl) (hw.bE 2 rfl) (hw.bRow 1 rfl 0 rfl) (hw.bRow 0 rfl 0 rfl)) (do_call Try.call11 rfl) trivial rfl rfl ?_
     intro v259 Sv256 w a h257 h258 hs
     subst h258
     have hw := hw.callB h257
     refine st_val hs (y_move rfl) trivial rfl rfl fun a hs => ?_
     refine st_val hs (y_extract rfl rfl) trivial rfl rfl fun a hs => ?_
     refine st_val hs (y_extract rfl rfl) trivial rfl rfl fun a hs => ?_
     refine st_val hs (y_assign rfl) trivial rfl rfl fun a hs => ?_
     refine st_val hs (y_assign rfl) trivial rfl rfl fun a hs => ?_
     refine wpList_nil ?_
     refine then_normal ?_
     refine wp_seq ?_
     refine wp_region_lit ?_
     refine st_val hs (y_move rfl) trivial rfl rfl fun a hs => ?_
     refine st_val hs (y_eql rfl rfl) trivial rfl rfl fun a hs => ?_
     refine st_val hs (y_move rfl) trivial rfl rfl fun a hs => ?_
     refine wpl_join 3 (fun a w1 => w = w1 ∧ Sl 228 [(30, .bool rv139.1), (33, .int .i64 rv146.2), (35, .int .i64 rv160.2), (36, .bool rv230.1), (37, .int .i64 rv230.2), (39, .int .i64 rv237.2), (40, .bool rv255.1), (41, .int .i64 rv255.2), (195, .bool ((rv85.2 == 0) && (rv139.2 == 0)))] a) ?_ ?_
     ·rcases Bool.eq_false_or_eq_true (rv85.2 == 0) with h261 | h261
      ·have hs := hs.fix 192 (.bool true) rfl (vb h261)
       refine st_val hs (y_move rfl) ⟨_, rfl, rfl⟩ rfl rfl fun a hs => ?_
       refine st_val hs (y_eql rfl rfl) ⟨_, rfl, rfl⟩ rfl rfl fun a hs => ?_
       refine st_val hs (y_pickT rfl rfl) trivial rfl rfl fun a hs => ?_
       refine wpList_nil ?_
       refine then_normal ?_
       exact ⟨rfl, (hs.fix 195 (.bool ((rv85.2 == 0) && (rv139.2 == 0))) rfl (and_t h261)).weaken _ ⟨rfl, rfl, rfl, rfl, rfl, rfl, rfl, rfl, rfl, trivial⟩⟩
      ·have hs := hs.fix 192 (.bool false) rfl (vb h261)
       refine st_skip hs rfl rfl rfl rfl rfl fun a hs => ?_
       refine st_skip hs rfl rfl rfl rfl rfl fun a hs => ?_
       refine st_val hs (y_pickF rfl rfl) trivial rfl rfl fun a hs => ?_
       refine wpList_nil ?_
       refine then_normal ?_
       exact ⟨rfl, (hs.fix 195 (.bool ((rv85.2 == 0) && (rv139.2 == 0))) rfl (and_f h261)).weaken _ ⟨rfl, rfl, rfl, rfl, rfl, rfl, rfl, rfl, rfl, trivial⟩⟩
     ·rintro a w1 ⟨h295, hs⟩
      subst h295
      refine st_val hs (y_move rfl) trivial rfl rfl fun a hs => ?_
      refine wpl_join 3 (fun a w1 => w = w1 ∧ Sl 228 [(30, .bool rv139.1), (35, .int .i64 rv160.2), (36, .bool rv230.1), (37, .int .i64 rv230.2), (39, .int .i64 rv237.2), (40, .bool rv255.1), (41, .int .i64 rv255.2), (199, .bool (((rv85.2 == 0) && (rv139.2 == 0)) && (rv146.2 == 0)))] a) ?_ ?_
      ·rcases Bool.eq_false_or_eq_true ((rv85.2 == 0) && (rv139.2 == 0)) with h262 | h262
       ·have hs := hs.fix 196 (.bool true) rfl (vb h262)
        refine st_val hs (y_move rfl) ⟨_, rfl, rfl⟩ rfl rfl fun a hs => ?_
        refine st_val hs (y_eql rfl rfl) ⟨_, rfl, rfl⟩ rfl rfl fun a hs => ?_
        refine st_val hs (y_pickT rfl rfl) trivial rfl rfl fun a hs => ?_
        refine wpList_nil ?_
        refine then_normal ?_
        exact ⟨rfl, (hs.fix 199 (.bool (((rv85.2 == 0) && (rv139.2 == 0)) && (rv146.2 == 0))) rfl (and_t h262)).weaken _ ⟨rfl, rfl, rfl, rfl, rfl, rfl, rfl, rfl, trivial⟩⟩
       ·have hs := hs.fix 196 (.bool false) rfl (vb h262)
        refine st_skip hs rfl rfl rfl rfl rfl fun a hs => ?_
        refine st_skip hs rfl rfl rfl rfl rfl fun a hs => ?_
        refine st_val hs (y_pickF rfl rfl) trivial rfl rfl fun a hs => ?_
        refine wpList_nil ?_
        refine then_normal ?_
        exact ⟨rfl, (hs.fix 199 (.bool (((rv85.2 == 0) && (rv139.2 == 0)) && (rv146.2 == 0))) rfl (and_f h262)).weaken _ ⟨rfl, rfl, rfl, rfl, rfl, rfl, rfl, rfl, trivial⟩⟩
      ·rintro a w1 ⟨h294, hs⟩
       subst h294
       refine st_val hs (y_move rfl) trivial rfl rfl fun a hs => ?_
       refine wpl_join 3 (fun a w1 => w = w1 ∧ Sl 228 [(30, .bool rv139.1), (36, .bool rv230.1), (37, .int .i64 rv230.2), (39, .int .i64 rv237.2), (40, .bool rv255.1), (41, .int .i64 rv255.2), (203, .bool ((((rv85.2 == 0) && (rv139.2 == 0)) && (rv146.2 == 0)) && (rv160.2 == 0)))] a) ?_ ?_
       ·rcases Bool.eq_false_or_eq_true (((rv85.2 == 0) && (rv139.2 == 0)) && (rv146.2 == 0)) with h263 | h263
        ·have hs := hs.fix 200 (.bool true) rfl (vb h263)
         refine st_val hs (y_move rfl) ⟨_, rfl, rfl⟩ rfl rfl fun a hs => ?_
         refine st_val hs (y_eql rfl rfl) ⟨_, rfl, rfl⟩ rfl rfl fun a hs => ?_
         refine st_val hs (y_pickT rfl rfl) trivial rfl rfl fun a hs => ?_
         refine wpList_nil ?_
         refine then_normal ?_
         exact ⟨rfl, (hs.fix 203 (.bool ((((rv85.2 == 0) && (rv139.2 == 0)) && (rv146.2 == 0)) && (rv160.2 == 0))) rfl (and_t h263)).weaken _ ⟨rfl, rfl, rfl, rfl, rfl, rfl, rfl, trivial⟩⟩
        ·have hs := hs.fix 200 (.bool false) rfl (vb h263)
         refine st_skip hs rfl rfl rfl rfl rfl fun a hs => ?_
         refine st_skip hs rfl rfl rfl rfl rfl fun a hs => ?_
         refine st_val hs (y_pickF rfl rfl) trivial rfl rfl fun a hs => ?_
         refine wpList_nil ?_
         refine then_normal ?_
         exact ⟨rfl, (hs.fix 203 (.bool ((((rv85.2 == 0) && (rv139.2 == 0)) && (rv146.2 == 0)) && (rv160.2 == 0))) rfl (and_f h263)).weaken _ ⟨rfl, rfl, rfl, rfl, rfl, rfl, rfl, trivial⟩⟩
       ·rintro a w1 ⟨h293, hs⟩
        subst h293
        refine st_val hs (y_move rfl) trivial rfl rfl fun a hs => ?_
        refine wpl_join 3 (fun a w1 => w = w1 ∧ Sl 228 [(30, .bool rv139.1), (36, .bool rv230.1), (39, .int .i64 rv237.2), (40, .bool rv255.1), (41, .int .i64 rv255.2), (207, .bool (((((rv85.2 == 0) && (rv139.2 == 0)) && (rv146.2 == 0)) && (rv160.2 == 0)) && (rv230.2 == 0)))] a) ?_ ?_
        ·rcases Bool.eq_false_or_eq_true ((((rv85.2 == 0) && (rv139.2 == 0)) && (rv146.2 == 0)) && (rv160.2 == 0)) with h264 | h264
         ·have hs := hs.fix 204 (.bool true) rfl (vb h264)
          refine st_val hs (y_move rfl) ⟨_, rfl, rfl⟩ rfl rfl fun a hs => ?_
          refine st_val hs (y_eql rfl rfl) ⟨_, rfl, rfl⟩ rfl rfl fun a hs => ?_
          refine st_val hs (y_pickT rfl rfl) trivial rfl rfl fun a hs => ?_
          refine wpList_nil ?_
          refine then_normal ?_
          exact ⟨rfl, (hs.fix 207 (.bool (((((rv85.2 == 0) && (rv139.2 == 0)) && (rv146.2 == 0)) && (rv160.2 == 0)) && (rv230.2 == 0))) rfl (and_t h264)).weaken _ ⟨rfl, rfl, rfl, rfl, rfl, rfl, trivial⟩⟩
         ·have hs := hs.fix 204 (.bool false) rfl (vb h264)
          refine st_skip hs rfl rfl rfl rfl rfl fun a hs => ?_
          refine st_skip hs rfl rfl rfl rfl rfl fun a hs => ?_
          refine st_val hs (y_pickF rfl rfl) trivial rfl rfl fun a hs => ?_
          refine wpList_nil ?_
          refine then_normal ?_
          exact ⟨rfl, (hs.fix 207 (.bool (((((rv85.2 == 0) && (rv139.2 == 0)) && (rv146.2 == 0)) && (rv160.2 == 0)) && (rv230.2 == 0))) rfl (and_f h264)).weaken _ ⟨rfl, rfl, rfl, rfl, rfl, rfl, trivial⟩⟩
        ·rintro a w1 ⟨h292, hs⟩
         subst h292
         refine st_val hs (y_move rfl) trivial rfl rfl fun a hs => ?_
         refine wpl_join 3 (fun a w1 => w = w1 ∧ Sl 228 [(30, .bool rv139.1), (36, .bool rv230.1), (40, .bool rv255.1), (41, .int .i64 rv255.2), (211, .bool ((((((rv85.2 == 0) && (rv139.2 == 0)) && (rv146.2 == 0)) && (rv160.2 == 0)) && (rv230.2 == 0)) && (rv237.2 == 0)))] a) ?_ ?_
         ·rcases Bool.eq_false_or_eq_true (((((rv85.2 == 0) && (rv139.2 == 0)) && (rv146.2 == 0)) && (rv160.2 == 0)) && (rv230.2 == 0)) with h265 | h265
          ·have hs := hs.fix 208 (.bool true) rfl (vb h265)
           refine st_val hs (y_move rfl) ⟨_, rfl, rfl⟩ rfl rfl fun a hs => ?_
           refine st_val hs (y_eql rfl rfl) ⟨_, rfl, rfl⟩ rfl rfl fun a hs => ?_
           refine st_val hs (y_pickT rfl rfl) trivial rfl rfl fun a hs => ?_
           refine wpList_nil ?_
           refine then_normal ?_
           exact ⟨rfl, (hs.fix 211 (.bool ((((((rv85.2 == 0) && (rv139.2 == 0)) && (rv146.2 == 0)) && (rv160.2 == 0)) && (rv230.2 == 0)) && (rv237.2 == 0))) rfl (and_t h265)).weaken _ ⟨rfl, rfl, rfl, rfl, rfl, trivial⟩⟩
          ·have hs := hs.fix 208 (.bool false) rfl (vb h265)
           refine st_skip hs rfl rfl rfl rfl rfl fun a hs => ?_
           refine st_skip hs rfl rfl rfl rfl rfl fun a hs => ?_
           refine st_val hs (y_pickF rfl rfl) trivial rfl rfl fun a hs => ?_
           refine wpList_nil ?_
           refine then_normal ?_
           exact ⟨rfl, (hs.fix 211 (.bool ((((((rv85.2 == 0) && (rv139.2 == 0)) && (rv146.2 == 0)) && (rv160.2 == 0)) && (rv230.2 == 0)) && (rv237.2 == 0))) rfl (and_f h265)).weaken _ ⟨rfl, rfl, rfl, rfl, rfl, trivial⟩⟩
         ·rintro a w1 ⟨h291, hs⟩
          subst h291
          refine st_val hs (y_move rfl) trivial rfl rfl fun a hs => ?_
          refine wpl_join 3 (fun a w1 => w = w1 ∧ Sl 228 [(30, .bool rv139.1), (36, .bool rv230.1), (40, .bool rv255.1), (215, .bool (((((((rv85.2 == 0) && (rv139.2 == 0)) && (rv146.2 == 0)) && (rv160.2 == 0)) && (rv230.2 == 0)) && (rv237.2 == 0)) && (rv255.2 == 0)))] a) ?_ ?_
          ·rcases Bool.eq_false_or_eq_true ((((((rv85.2 == 0) && (rv139.2 == 0)) && (rv146.2 == 0)) && (rv160.2 == 0)) && (rv230.2 == 0)) && (rv237.2 == 0)) with h266 | h266
           ·have hs := hs.fix 212 (.bool true) rfl (vb h266)
            refine st_val hs (y_move rfl) ⟨_, rfl, rfl⟩ rfl rfl fun a hs => ?_
            refine st_val hs (y_eql rfl rfl) ⟨_, rfl, rfl⟩ rfl rfl fun a hs => ?_
            refine st_val hs (y_pickT rfl rfl) trivial rfl rfl fun a hs => ?_
            refine wpList_nil ?_
            refine then_normal ?_
            exact ⟨rfl, (hs.fix 215 (.bool (((((((rv85.2 == 0) && (rv139.2 == 0)) && (rv146.2 == 0)) && (rv160.2 == 0)) && (rv230.2 == 0)) && (rv237.2 == 0)) && (rv255.2 == 0))) rfl (and_t h266)).weaken _ ⟨rfl, rfl, rfl, rfl, trivial⟩⟩
           ·have hs := hs.fix 212 (.bool false) rfl (vb h266)
            refine st_skip hs rfl rfl rfl rfl rfl fun a hs => ?_
            refine st_skip hs rfl rfl rfl rfl rfl fun a hs => ?_
            refine st_val hs (y_pickF rfl rfl) trivial rfl rfl fun a hs => ?_
            refine wpList_nil ?_
            refine then_normal ?_
            exact ⟨rfl, (hs.fix 215 (.bool (((((((rv85.2 == 0) && (rv139.2 == 0)) && (rv146.2 == 0)) && (rv160.2 == 0)) && (rv230.2 == 0)) && (rv237.2 == 0)) && (rv255.2 == 0))) rfl (and_f h266)).weaken _ ⟨rfl, rfl, rfl, rfl, trivial⟩⟩
          ·rintro a w1 ⟨h290, hs⟩
           subst h290
           refine st_val hs (y_move rfl) trivial rfl rfl fun a hs => ?_
           refine wpl_join 2 (fun a w1 => w = w1 ∧ Sl 228 [(36, .bool rv230.1), (40, .bool rv255.1), (218, .bool ((((((((rv85.2 == 0) && (rv139.2 == 0)) && (rv146.2 == 0)) && (rv160.2 == 0)) && (rv230.2 == 0)) && (rv237.2 == 0)) && (rv255.2 == 0)) && rv139.1))] a) ?_ ?_
           ·rcases Bool.eq_false_or_eq_true (((((((rv85.2 == 0) && (rv139.2 == 0)) && (rv146.2 == 0)) && (rv160.2 == 0)) && (rv230.2 == 0)) && (rv237.2 == 0)) && (rv255.2 == 0)) with h267 | h267
            ·have hs := hs.fix 216 (.bool true) rfl (vb h267)
             refine st_val hs (y_move rfl) ⟨_, rfl, rfl⟩ rfl rfl fun a hs => ?_
             refine st_val hs (y_pickT rfl rfl) trivial rfl rfl fun a hs => ?_
             refine wpList_nil ?_
             refine then_normal ?_
             exact ⟨rfl, (hs.fix 218 (.bool ((((((((rv85.2 == 0) && (rv139.2 == 0)) && (rv146.2 == 0)) && (rv160.2 == 0)) && (rv230.2 == 0)) && (rv237.2 == 0)) && (rv255.2 == 0)) && rv139.1)) rfl (and_t h267)).weaken _ ⟨rfl, rfl, rfl, trivial⟩⟩
            ·have hs := hs.fix 216 (.bool false) rfl (vb h267)
             refine st_skip hs rfl rfl rfl rfl rfl fun a hs => ?_
             refine st_val hs (y_pickF rfl rfl) trivial rfl rfl fun a hs => ?_
             refine wpList_nil ?_
             refine then_normal ?_
             exact ⟨rfl, (hs.fix 218 (.bool ((((((((rv85.2 == 0) && (rv139.2 == 0)) && (rv146.2 == 0)) && (rv160.2 == 0)) && (rv230.2 == 0)) && (rv237.2 == 0)) && (rv255.2 == 0)) && rv139.1)) rfl (and_f h267)).weaken _ ⟨rfl, rfl, rfl, trivial⟩⟩
           ·rintro a w1 ⟨h289, hs⟩
            subst h289
            refine st_val hs (y_move rfl) trivial rfl rfl fun a hs => ?_
            refine wpl_join 2 (fun a w1 => w = w1 ∧ Sl 228 [(40, .bool rv255.1), (221, .bool (((((((((rv85.2 == 0) && (rv139.2 == 0)) && (rv146.2 == 0)) && (rv160.2 == 0)) && (rv230.2 == 0)) && (rv237.2 == 0)) && (rv255.2 == 0)) && rv139.1) && rv230.1))] a) ?_ ?_
            ·rcases Bool.eq_false_or_eq_true ((((((((rv85.2 == 0) && (rv139.2 == 0)) && (rv146.2 == 0)) && (rv160.2 == 0)) && (rv230.2 == 0)) && (rv237.2 == 0)) && (rv255.2 == 0)) && rv139.1) with h268 | h268
             ·have hs := hs.fix 219 (.bool true) rfl (vb h268)
              refine st_val hs (y_move rfl) ⟨_, rfl, rfl⟩ rfl rfl fun a hs => ?_
              refine st_val hs (y_pickT rfl rfl) trivial rfl rfl fun a hs => ?_
              refine wpList_nil ?_
              refine then_normal ?_
              exact ⟨rfl, (hs.fix 221 (.bool (((((((((rv85.2 == 0) && (rv139.2 == 0)) && (rv146.2 == 0)) && (rv160.2 == 0)) && (rv230.2 == 0)) && (rv237.2 == 0)) && (rv255.2 == 0)) && rv139.1) && rv230.1)) rfl (and_t h268)).weaken _ ⟨rfl, rfl, trivial⟩⟩
             ·have hs := hs.fix 219 (.bool false) rfl (vb h268)
              refine st_skip hs rfl rfl rfl rfl rfl fun a hs => ?_
              refine st_val hs (y_pickF rfl rfl) trivial rfl rfl fun a hs => ?_
              refine wpList_nil ?_
              refine then_normal ?_
              exact ⟨rfl, (hs.fix 221 (.bool (((((((((rv85.2 == 0) && (rv139.2 == 0)) && (rv146.2 == 0)) && (rv160.2 == 0)) && (rv230.2 == 0)) && (rv237.2 == 0)) && (rv255.2 == 0)) && rv139.1) && rv230.1)) rfl (and_f h268)).weaken _ ⟨rfl, rfl, trivial⟩⟩
            ·rintro a w1 ⟨h288, hs⟩
             subst h288
             refine st_val hs (y_move rfl) trivial rfl rfl fun a hs => ?_
             refine wpl_join 2 (fun a w1 => w = w1 ∧ Sl 228 [(224, .bool ((((((((((rv85.2 == 0) && (rv139.2 == 0)) && (rv146.2 == 0)) && (rv160.2 == 0)) && (rv230.2 == 0)) && (rv237.2 == 0)) && (rv255.2 == 0)) && rv139.1) && rv230.1) && rv255.1))] a) ?_ ?_
             ·rcases Bool.eq_false_or_eq_true (((((((((rv85.2 == 0) && (rv139.2 == 0)) && (rv146.2 == 0)) && (rv160.2 == 0)) && (rv230.2 == 0)) && (rv237.2 == 0)) && (rv255.2 == 0)) && rv139.1) && rv230.1) with h269 | h269
              ·have hs := hs.fix 222 (.bool true) rfl (vb h269)
               refine st_val hs (y_move rfl) ⟨_, rfl, rfl⟩ rfl rfl fun a hs => ?_
               refine st_val hs (y_pickT rfl rfl) trivial rfl rfl fun a hs => ?_
               refine wpList_nil ?_
               refine then_normal ?_
               exact ⟨rfl, (hs.fix 224 (.bool ((((((((((rv85.2 == 0) && (rv139.2 == 0)) && (rv146.2 == 0)) && (rv160.2 == 0)) && (rv230.2 == 0)) && (rv237.2 == 0)) && (rv255.2 == 0)) && rv139.1) && rv230.1) && rv255.1)) rfl (and_t h269)).weaken _ ⟨rfl, trivial⟩⟩
              ·have hs := hs.fix 222 (.bool false) rfl (vb h269)
               refine st_skip hs rfl rfl rfl rfl rfl fun a hs => ?_
               refine st_val hs (y_pickF rfl rfl) trivial rfl rfl fun a hs => ?_
               refine wpList_nil ?_
               refine then_normal ?_
               exact ⟨rfl, (hs.fix 224 (.bool ((((((((((rv85.2 == 0) && (rv139.2 == 0)) && (rv146.2 == 0)) && (rv160.2 == 0)) && (rv230.2 == 0)) && (rv237.2 == 0)) && (rv255.2 == 0)) && rv139.1) && rv230.1) && rv255.1)) rfl (and_f h269)).weaken _ ⟨rfl, trivial⟩⟩
             ·rintro a w1 ⟨h287, hs⟩
              subst h287
              refine st_val hs (y_move rfl) trivial rfl rfl fun a hs => ?_
              obtain ⟨c278, hc278, hsh⟩ := bind_t hsh
              refine wpl_join 2 (fun a w => ∃ (Sv279 : Nat → Prop), Sl 228 [(227, .bool c278)] a ∧ Wd ⟨w0, S0, []⟩ Sv279 [] [] w) ?_ ?_
              ·rcases Bool.eq_false_or_eq_true ((((((((((rv85.2 == 0) && (rv139.2 == 0)) && (rv146.2 == 0)) && (rv160.2 == 0)) && (rv230.2 == 0)) && (rv237.2 == 0)) && (rv255.2 == 0)) && rv139.1) && rv230.1) && rv255.1) with h277 | h277
               ·have hs := hs.fix 225 (.bool true) rfl (vb h277)
                have hsh := ite_t hc278 h277
                obtain ⟨rv281, h280, hsh⟩ := bind_t hsh
                refine st_callR hs (law18_sane_ok h280 hw.bdom) (do_call Try.call8 rfl) ⟨_, rfl, rfl⟩ rfl rfl ?_
                intro v285 Sv282 w a h283 h284 hs
                subst h284
                have hw := hw.callB h283
                refine st_val hs (y_pickT rfl rfl) trivial rfl rfl fun a hs => ?_
                refine wpList_nil ?_
                have hsh := Option.some.inj hsh
                subst hsh
                refine then_normal ?_
                exact ⟨Sv244, (hs.wk rfl), (hw.ft [] [] (by decide) rfl rfl)⟩
               ·have hs := hs.fix 225 (.bool false) rfl (vb h277)
                have hsh := ite_f hc278 h277
                refine st_skip hs rfl rfl rfl rfl rfl fun a hs => ?_
                refine st_val hs (y_pickF rfl rfl) trivial rfl rfl fun a hs => ?_
                refine wpList_nil ?_
                have hsh := Option.some.inj hsh
                subst hsh
                refine then_normal ?_
                exact ⟨Sv244, (hs.wk rfl), (hw.ft [] [] (by decide) rfl rfl)⟩
              ·rintro a w ⟨Sv279, hs, hw⟩
               refine st_val hs (y_assign rfl) trivial rfl rfl fun a hs => ?_
               refine wpList_nil ?_
               refine then_normal ?_
               have hsh := Option.some.inj hsh
               subst hsh
               refine wp_ret ?_
               exact ret1 hs rfl (rv_tmp rfl) (hw.ret rfl)

end Go.Proofs.Ytoendkojgjobbaa.Wk

/- The walks of ComposeBest, part 4: each Go function computes what its plain program computes. Printed by a program of ours. -/
import Derived.Test.YthdimlepjpnncaaGreatProg
import Derived.Test.YthdimlepjpnncaaGreatDat
import Derived.Test.YthdimlepjpnncaaGreatSh
import Derived.Test.YthdimlepjpnncaaGreatLibL
import Derived.Test.YthdimlepjpnncaaGreatLibZ
import Derived.Test.YthdimlepjpnncaaGreatLibQ
import Derived.KernelRfl
import Derived.Test.YthdimlepjpnncaaGreatLibU
import Derived.Shelf.SlLaysF0
import Derived.Test.YthdimlepjpnncaaGreatWComposeBest3
namespace Go.Proofs.YthdimlepjpnncaaGreat.Wk
open Go Go.RowKit Go.Proofs Go.Proofs.YthdimlepjpnncaaGreat.Sh
set_option linter.unusedVariables false
set_option linter.unusedSimpArgs false

abbrev ref14_Span_rd (w0 : World) (X : List Nat) (r : (Span × Int)) : (Nat → Prop) → World → Value → Prop := fun S w v => v = .tuple #[.agg #[.int .i64 r.1.From, .int .i64 r.1.To], .int .i64 r.2]
set_option maxHeartbeats 4000000 in
set_option maxRecDepth 100000 in
theorem ref14_Span_ok {w0 : World} {S0 : Nat → Prop} {p2 : Option Addr} {k3 : Nat} {r1 : Record} {r : (Span × Int)} (hsh : ref14_Span r1 = some r) (hS : ∀ b, S0 b → b < w0.heap.size) (h4 : (SlA p2 r1.Samples.length k3 r1.Samples).p S0 w0) : Calls Tryz.prog 22 #[.agg #[.string r1.Source.Network, .string r1.Source.Station, .string r1.Source.Location, .string r1.Source.Channel, .int .i64 r1.Start, .int .i64 r1.First, .int .i64 r1.Rate.Num, .int .i64 r1.Rate.Den, .int .i64 r1.Error, .int .i64 r1.Run, .int .i64 r1.Seq, .slice p2 r1.Samples.length k3]] w0 (Ret ([]) w0 S0 (ref14_Span_rd w0 ([]) r)) := by
 refine calls_of_wp Tryz.func22 rfl ?_
 have hs := Sl.enter #[.agg #[.string r1.Source.Network, .string r1.Source.Station, .string r1.Source.Location, .string r1.Source.Channel, .int .i64 r1.Start, .int .i64 r1.First, .int .i64 r1.Rate.Num, .int .i64 r1.Rate.Den, .int .i64 r1.Error, .int .i64 r1.Run, .int .i64 r1.Seq, .slice p2 r1.Samples.length k3]] 16 [(0, .agg #[.string r1.Source.Network, .string r1.Source.Station, .string r1.Source.Location, .string r1.Source.Channel, .int .i64 r1.Start, .int .i64 r1.First, .int .i64 r1.Rate.Num, .int .i64 r1.Rate.Den, .int .i64 r1.Error, .int .i64 r1.Run, .int .i64 r1.Seq, .slice p2 r1.Samples.length k3])] rfl ⟨rfl, trivial⟩
 have hw := Wd.enter (E := []) hS (fun _ h => (by cases h))
 have hw := hw.addE h4
 delta ref14_Span at hsh
 refine sr ?_
 refine w_box (cs := [.string r1.Source.Network, .string r1.Source.Station, .string r1.Source.Location, .string r1.Source.Channel, .int .i64 r1.Start, .int .i64 r1.First, .int .i64 r1.Rate.Num, .int .i64 r1.Rate.Den, .int .i64 r1.Error, .int .i64 r1.Run, .int .i64 r1.Seq, .slice p2 r1.Samples.length k3]) hs hw rfl rfl rfl trivial ?_
 intro b5 a w hs hw
 refine w_alloc (cs := [.int .i64 0, .int .i64 0]) hs hw Tryz.zeroValue45 rfl rfl trivial ?_
 intro b6 a w hs hw
 refine av hs rfl rfl fun a hs => ?_
 refine nl ?_
 refine wp_seq ?_
 refine sr ?_
 refine sv hs (y_loadBA (hw.ownAt 1 rfl) rfl Tryz.isAgg35 Tryz.sizeOf35 rfl rfl) rfl fun a hs => ?_
 obtain ⟨rv8, h7, hsh⟩ := bind_t hsh
 refine st_callR hs (ref14_Valid_ok h7 hw.bdom (hw.bE 0 rfl)) (do_call Tryz.call51 rfl) trivial rfl rfl ?_
 intro v12 Sv9 w a h10 h11 hs
 subst h11
 have hw := hw.callB h10
 refine sv hs (y_not rfl) rfl fun a hs => ?_
 refine nl ?_
 refine wp_cond_split (hs.ev rfl) (fun h15 => ?_) (fun h15 => ?_)
 ·have hsh := ite_t hsh h15
  refine sr ?_
  refine sv hs (y_build (vs := []) Bld45 rfl rfl) rfl fun a hs => ?_
  refine w_store (m := 2) (cs' := [.int .i64 0, .int .i64 0]) hs hw 0 rfl rfl rfl Tryz.sizeOf45 rfl rfl rfl rfl trivial ?_
  intro a w hs hw
  refine av hs rfl rfl fun a hs => ?_
  refine nl ?_
  have hsh := oi hsh
  subst hsh
  refine wp_ret ?_
  refine then_ret ?_
  exact ret2 hs rfl (rv_cell hw 0 rfl rfl Tryz.isAgg45 Tryz.sizeOf45 rfl) (rv_tmp rfl) (hw.ret rfl)
 have hsh := ite_f hsh h15
 refine wp_skip ?_
 refine then_normal ?_
 refine wp_seq ?_
 obtain ⟨rv17, h16, hsh⟩ := bind_t hsh
 obtain ⟨rv19, h18, hsh⟩ := bind_t hsh
 refine wp_only (fun a w => ∃ (Sv20 : Nat → Prop), Sl 16 [(2, .pointer (some ⟨b6, 0, none⟩)), (3, .int .i64 0)] a ∧ Wd ⟨w0, S0, []⟩ Sv20 [.box b6 [.int .i64 rv17, .int .i64 rv19] 45] [] w) ?_ ?_
 ·refine h_b (C := Cls [.box b5 [.string r1.Source.Network, .string r1.Source.Station, .string r1.Source.Location, .string r1.Source.Channel, .int .i64 r1.Start, .int .i64 r1.First, .int .i64 r1.Rate.Num, .int .i64 r1.Rate.Den, .int .i64 r1.Error, .int .i64 r1.Run, .int .i64 r1.Seq, .slice p2 r1.Samples.length k3] 35] []) (by kernel_rfl) rfl (hw.drew.cs [1] [] rfl rfl) fun hC => ?_
  have hw := hw.drew
  refine gv hs 0 rfl rfl hC (fun w hC => y_loadBA (hC.ownAt 0 rfl) rfl Tryz.isAgg35 Tryz.sizeOf35 rfl rfl) fun a hs => ?_
  refine gv hs 2 rfl rfl hC (fun w hC => y_loadBA (hC.ownAt 0 rfl) rfl Tryz.isAgg35 Tryz.sizeOf35 rfl rfl) fun a hs => ?_
  refine gv hs 3 rfl rfl hC (fun w hC => y_fieldAddr (o' := 11) Tryz.runUnderlying35 rfl Tryz.sizeOf22 rfl rfl rfl) fun a hs => ?_
  refine gv hs 4 rfl rfl hC (fun w hC => y_loadB1 (hC.ownAt 0 rfl) rfl Tryz.isAgg22 rfl) fun a hs => ?_
  refine gv hs 5 rfl rfl hC (fun w hC => y_len Tryz.runUnderlying22 rfl) fun a hs => ?_
  refine ho 1 rfl ?_
  refine st_callR hs (ref14_Time_ok h16 hw.bdom (hw.bE 0 rfl)) (do_call Tryz.call52 rfl) trivial rfl rfl ?_
  intro v24 Sv21 w a h22 h23 hs
  subst h23
  have hw := hw.callB h22
  refine h_nx (hw.cs [1] [] rfl rfl) fun hC => ?_
  refine ho 6 rfl ?_
  refine st_callR hs (ref14_Time_ok h18 hw.bdom (hw.bE 0 rfl)) (do_call Tryz.call52 rfl) trivial rfl rfl ?_
  intro v29 Sv26 w a h27 h28 hs
  subst h28
  have hw := hw.callB h27
  refine h_nx (hw.cs [1] [] rfl rfl) fun hC => ?_
  refine gv hs 7 rfl rfl hC (fun w hC => y_build (vs := [(0, .int .i64 rv17), (1, .int .i64 rv19)]) Bld45 rfl rfl) fun a hs => ?_
  refine ho 8 rfl ?_
  refine w_store (m := 2) (cs' := [.int .i64 rv17, .int .i64 rv19]) hs hw 0 rfl rfl rfl Tryz.sizeOf45 rfl rfl rfl rfl trivial ?_
  intro a w hs hw
  refine h_nx (hw.cs [1] [] rfl rfl) fun hC => ?_
  refine gv hs 9 rfl rfl hC (fun w hC => y_assign rfl) fun a hs => ?_
  refine h_done (by kernel_rfl) ?_
  exact ⟨S0, (hs.wk rfl), (hw.ft [0] [] (by decide) rfl rfl)⟩
 rintro a w ⟨Sv20, hs, hw⟩
 refine then_normal ?_
 have hsh := oi hsh
 subst hsh
 refine wp_ret ?_
 exact ret2 hs rfl (rv_cell hw 0 rfl rfl Tryz.isAgg45 Tryz.sizeOf45 rfl) (rv_tmp rfl) (hw.ret rfl)

abbrev ref05_Same_rd (w0 : World) (X : List Nat) (r : Bool) : (Nat → Prop) → World → Value → Prop := fun S w v => v = .bool r
set_option maxHeartbeats 4000000 in
set_option maxRecDepth 100000 in
theorem ref05_Same_ok {w0 : World} {S0 : Nat → Prop} {p2 : Option Addr} {k3 : Nat} {p6 : Option Addr} {k7 : Nat} {a1 : (List Int)} {b5 : (List Int)} {r : Bool} (hsh : ref05_Same a1 b5 = some r) (hS : ∀ b, S0 b → b < w0.heap.size) (h4 : (SlA p2 a1.length k3 a1).p S0 w0) (h8 : (SlA p6 b5.length k7 b5).p S0 w0) : Calls Tryz.prog 50 #[.slice p2 a1.length k3, .slice p6 b5.length k7] w0 (Ret ([]) w0 S0 (ref05_Same_rd w0 ([]) r)) := by
 refine calls_of_wp Tryz.func50 rfl ?_
 have hs := Sl.enter #[.slice p2 a1.length k3, .slice p6 b5.length k7] 26 [(0, .slice p2 a1.length k3), (1, .slice p6 b5.length k7)] rfl ⟨rfl, rfl, trivial⟩
 have hw := Wd.enter (E := []) hS (fun _ h => (by cases h))
 have hw := hw.addE h4
 have hw := hw.addE h8
 delta ref05_Same at hsh
 refine sr ?_
 refine av hs rfl rfl fun a hs => ?_
 refine nl ?_
 refine wp_seq ?_
 refine sr ?_
 refine mv hs rfl rfl fun a hs => ?_
 refine sv hs (y_len Tryz.runUnderlying22 rfl) rfl fun a hs => ?_
 refine mv hs rfl rfl fun a hs => ?_
 refine sv hs (y_len Tryz.runUnderlying22 rfl) rfl fun a hs => ?_
 refine sv hs (y_neq rfl rfl) rfl fun a hs => ?_
 refine nl ?_
 refine wp_cond_split (hs.ev rfl) (fun h10 => ?_) (fun h10 => ?_)
 ·have hsh := ite_t hsh h10
  refine sr ?_
  refine av hs rfl rfl fun a hs => ?_
  refine nl ?_
  have hsh := oi hsh
  subst hsh
  refine wp_ret ?_
  refine then_ret ?_
  exact ret1 hs rfl (rv_tmp rfl) (hw.ret rfl)
 have hsh := ite_f hsh h10
 refine wp_skip ?_
 refine then_normal ?_
 refine wp_seq ?_
 refine sr ?_
 refine av hs rfl rfl fun a hs => ?_
 refine nl ?_
 refine wp_block ?_
 refine wp_while (fun sv109 a w => ∃ (Sv173 : Nat → Prop), Sl 26 [(0, .slice p2 a1.length k3), (1, .slice p6 b5.length k7), (5, .int .i64 sv109)] a ∧ Wd ⟨w0, S0, []⟩ Sv173 [] [SlA p2 a1.length k3 a1, SlA p6 b5.length k7 b5] w) 0 hsh ⟨S0, (hs.wk rfl), (hw.ft [] [1, 0] (by decide) rfl rfl)⟩ ?_
 repeat clear hsh
 rintro sv109 a w tv206 ⟨Sv173, hs, hw⟩ hsh hd205
 delta ref05_Same_l2 at hsh
 refine wp_seq ?_
 refine sr ?_
 refine mv hs rfl rfl fun a hs => ?_
 refine mv hs rfl rfl fun a hs => ?_
 refine sv hs (y_len Tryz.runUnderlying22 rfl) rfl fun a hs => ?_
 refine sv hs (y_lss rfl rfl) rfl fun a hs => ?_
 refine nl ?_
 refine wp_cond_split (hs.ev rfl) (fun h210 => ?_) (fun h210 => ?_)
 ·have hsh := ite_t hsh h210
  refine wp_skip ?_
  refine then_normal ?_
  refine wp_seq ?_
  refine wp_block ?_
  refine wp_seq ?_
  obtain ⟨x241, h239, hsh⟩ := bind_t hsh
  obtain ⟨b247, o248, q245, c246, h249, h242, h243, h244, h240⟩ := hw.elemV 0 rfl h239
  have hsv250 := hs
  have hwv251 := hw
  subst h249
  have hs := hsv250
  have hw := hwv251
  obtain ⟨_, rfl, rfl⟩ := h240
  have hw := hw.addE h244
  obtain ⟨x254, h252, hsh⟩ := bind_t hsh
  obtain ⟨b260, o261, q258, c259, h262, h255, h256, h257, h253⟩ := hw.elemV 2 rfl h252
  have hsv263 := hs
  have hwv264 := hw
  subst h262
  have hs := hsv263
  have hw := hwv264
  obtain ⟨_, rfl, rfl⟩ := h253
  have hw := hw.addE h257
  refine wp_only (fun a w => ∃ (Sv265 : Nat → Prop), Sl 26 [(0, .slice (some ⟨b247, o248, none⟩) a1.length k3), (1, .slice (some ⟨b260, o261, none⟩) b5.length k7), (5, .int .i64 sv109), (25, .bool (x241 != x254))] a ∧ Wd ⟨w0, S0, []⟩ Sv265 [] [SlA (some ⟨b247, o248, none⟩) a1.length k3 a1, SlA (some ⟨b260, o261, none⟩) b5.length k7 b5] w) ?_ ?_
  ·refine h_b (C := Cls [] [CeA b260 q258 [.int .i64 x254], CeA b247 q245 [.int .i64 x241]]) (by kernel_rfl) rfl (hw.drew.cs [] [0, 1] rfl rfl) fun hC => ?_
   have hw := hw.drew
   refine gm hs 0 rfl rfl rfl hC fun a hs => ?_
   refine gm hs 1 rfl rfl rfl hC fun a hs => ?_
   refine gv hs 2 rfl rfl hC (fun w hC => y_indexAt Tryz.runUnderlying22 Tryz.sizeOf3 rfl rfl h242.1 h242.2 h243) fun a hs => ?_
   refine gv hs 3 rfl rfl hC (fun w hC => y_loadE1 (j := 0) (hC.ceAt 1 rfl) rfl Tryz.isAgg3 rfl) fun a hs => ?_
   refine gm hs 4 rfl rfl rfl hC fun a hs => ?_
   refine gm hs 5 rfl rfl rfl hC fun a hs => ?_
   refine gv hs 6 rfl rfl hC (fun w hC => y_indexAt Tryz.runUnderlying22 Tryz.sizeOf3 rfl rfl h255.1 h255.2 h256) fun a hs => ?_
   refine gv hs 7 rfl rfl hC (fun w hC => y_loadE1 (j := 0) (hC.ceAt 0 rfl) rfl Tryz.isAgg3 rfl) fun a hs => ?_
   refine gv hs 8 rfl rfl hC (fun w hC => y_neq rfl rfl) fun a hs => ?_
   refine h_done (by kernel_rfl) ?_
   exact ⟨Sv173, (hs.wk rfl), (hw.ft [] [2, 3] (by decide) rfl rfl)⟩
  rintro a w ⟨Sv265, hs, hw⟩
  refine then_normal ?_
  refine wp_cond_split (hs.ev rfl) (fun h267 => ?_) (fun h267 => ?_)
  ·have hsh := ite_t hsh h267
   refine sr ?_
   refine av hs rfl rfl fun a hs => ?_
   refine nl ?_
   have hsh := oi hsh
   subst hsh
   have h268 := hd205 _ rfl
   subst h268
   refine wp_ret ?_
   refine blk_ret ?_
   refine then_ret ?_
   refine then_ret ?_
   refine blk_ret ?_
   refine then_ret ?_
   exact ret1 hs rfl (rv_tmp rfl) (hw.ret rfl)
  have hsh := ite_f hsh h267
  refine wp_skip ?_
  refine blk_normal ?_
  refine then_normal ?_
  refine wp_region_lit ?_
  refine mv hs rfl rfl fun a hs => ?_
  refine sv hs (y_add rfl rfl) rfl fun a hs => ?_
  obtain ⟨i270, h269, hsh⟩ := bind_t hsh
  refine sv hs (y_assignI rfl h269) rfl fun a hs => ?_
  refine nl ?_
  exact ⟨_, (Option.some.inj hsh).symm, Sv265, (hs.wk rfl), (hw.ft [] [0, 1] (by decide) rfl rfl)⟩
 have hsh := ite_f hsh h210
 obtain ⟨rv271, hsh, h272⟩ := map_t hsh
 have h272 := (hd205 _ h272.symm).symm
 subst h272
 refine wp_exit ?_
 refine then_exit ?_
 refine then_exit ?_
 refine blk_exit ?_
 refine then_normal ?_
 refine sr ?_
 refine av hs rfl rfl fun a hs => ?_
 refine nl ?_
 have hsh := oi hsh
 subst hsh
 refine wp_ret ?_
 exact ret1 hs rfl (rv_tmp rfl) (hw.ret rfl)

abbrev ref14_Same_rd (w0 : World) (X : List Nat) (r : Bool) : (Nat → Prop) → World → Value → Prop := fun S w v => v = .bool r
set_option maxHeartbeats 4000000 in
set_option maxRecDepth 100000 in
theorem ref14_Same_ok {w0 : World} {S0 : Nat → Prop} {p2 : Option Addr} {k3 : Nat} {p6 : Option Addr} {k7 : Nat} {a1 : Record} {b5 : Record} {r : Bool} (hsh : ref14_Same a1 b5 = some r) (hS : ∀ b, S0 b → b < w0.heap.size) (h4 : (SlA p2 a1.Samples.length k3 a1.Samples).p S0 w0) (h8 : (SlA p6 b5.Samples.length k7 b5.Samples).p S0 w0) : Calls Tryz.prog 20 #[.agg #[.string a1.Source.Network, .string a1.Source.Station, .string a1.Source.Location, .string a1.Source.Channel, .int .i64 a1.Start, .int .i64 a1.First, .int .i64 a1.Rate.Num, .int .i64 a1.Rate.Den, .int .i64 a1.Error, .int .i64 a1.Run, .int .i64 a1.Seq, .slice p2 a1.Samples.length k3], .agg #[.string b5.Source.Network, .string b5.Source.Station, .string b5.Source.Location, .string b5.Source.Channel, .int .i64 b5.Start, .int .i64 b5.First, .int .i64 b5.Rate.Num, .int .i64 b5.Rate.Den, .int .i64 b5.Error, .int .i64 b5.Run, .int .i64 b5.Seq, .slice p6 b5.Samples.length k7]] w0 (Ret ([]) w0 S0 (ref14_Same_rd w0 ([]) r)) := by
 refine calls_of_wp Tryz.func20 rfl ?_
 have hs := Sl.enter #[.agg #[.string a1.Source.Network, .string a1.Source.Station, .string a1.Source.Location, .string a1.Source.Channel, .int .i64 a1.Start, .int .i64 a1.First, .int .i64 a1.Rate.Num, .int .i64 a1.Rate.Den, .int .i64 a1.Error, .int .i64 a1.Run, .int .i64 a1.Seq, .slice p2 a1.Samples.length k3], .agg #[.string b5.Source.Network, .string b5.Source.Station, .string b5.Source.Location, .string b5.Source.Channel, .int .i64 b5.Start, .int .i64 b5.First, .int .i64 b5.Rate.Num, .int .i64 b5.Rate.Den, .int .i64 b5.Error, .int .i64 b5.Run, .int .i64 b5.Seq, .slice p6 b5.Samples.length k7]] 59 [(0, .agg #[.string a1.Source.Network, .string a1.Source.Station, .string a1.Source.Location, .string a1.Source.Channel, .int .i64 a1.Start, .int .i64 a1.First, .int .i64 a1.Rate.Num, .int .i64 a1.Rate.Den, .int .i64 a1.Error, .int .i64 a1.Run, .int .i64 a1.Seq, .slice p2 a1.Samples.length k3]), (1, .agg #[.string b5.Source.Network, .string b5.Source.Station, .string b5.Source.Location, .string b5.Source.Channel, .int .i64 b5.Start, .int .i64 b5.First, .int .i64 b5.Rate.Num, .int .i64 b5.Rate.Den, .int .i64 b5.Error, .int .i64 b5.Run, .int .i64 b5.Seq, .slice p6 b5.Samples.length k7])] rfl ⟨rfl, rfl, trivial⟩
 have hw := Wd.enter (E := []) hS (fun _ h => (by cases h))
 have hw := hw.addE h4
 have hw := hw.addE h8
 delta ref14_Same at hsh
 refine sr ?_
 refine w_box (cs := [.string a1.Source.Network, .string a1.Source.Station, .string a1.Source.Location, .string a1.Source.Channel, .int .i64 a1.Start, .int .i64 a1.First, .int .i64 a1.Rate.Num, .int .i64 a1.Rate.Den, .int .i64 a1.Error, .int .i64 a1.Run, .int .i64 a1.Seq, .slice p2 a1.Samples.length k3]) hs hw rfl rfl rfl trivial ?_
 intro b9 a w hs hw
 refine w_box (cs := [.string b5.Source.Network, .string b5.Source.Station, .string b5.Source.Location, .string b5.Source.Channel, .int .i64 b5.Start, .int .i64 b5.First, .int .i64 b5.Rate.Num, .int .i64 b5.Rate.Den, .int .i64 b5.Error, .int .i64 b5.Run, .int .i64 b5.Seq, .slice p6 b5.Samples.length k7]) hs hw rfl rfl rfl trivial ?_
 intro b10 a w hs hw
 refine av hs rfl rfl fun a hs => ?_
 refine nl ?_
 refine sr ?_
 refine sv hs (y_fieldAddr (o' := 0) Tryz.runUnderlying35 rfl Tryz.sizeOf31 rfl rfl rfl) rfl fun a hs => ?_
 refine sv hs (y_loadBA (hw.ownAt 1 rfl) rfl Tryz.isAgg31 Tryz.sizeOf31 rfl rfl) rfl fun a hs => ?_
 refine sv hs (y_fieldAddr (o' := 0) Tryz.runUnderlying35 rfl Tryz.sizeOf31 rfl rfl rfl) rfl fun a hs => ?_
 refine sv hs (y_loadBA (hw.ownAt 0 rfl) rfl Tryz.isAgg31 Tryz.sizeOf31 rfl rfl) rfl fun a hs => ?_
 refine sv hs (y_eqlA (by kernel_rfl) rfl rfl (eqv_struct Tryz.runUnderlying31 (by kernel_rfl) (EqF.cons1 rfl Tryz.isAgg9 rfl rfl (eqv_str Tryz.runUnderlying9) (EqF.cons1 rfl Tryz.isAgg9 rfl rfl (eqv_str Tryz.runUnderlying9) (EqF.cons1 rfl Tryz.isAgg9 rfl rfl (eqv_str Tryz.runUnderlying9) (EqF.cons1 rfl Tryz.isAgg9 rfl rfl (eqv_str Tryz.runUnderlying9) EqF.nil)))))) rfl fun a hs => ?_
 refine mv hs rfl rfl fun a hs => ?_
 refine wpl_join 6 (fun a w1 => w = w1 ∧ Sl 59 [(2, .pointer (some ⟨b9, 0, none⟩)), (3, .pointer (some ⟨b10, 0, none⟩)), (16, .bool (((a1.Source.Network == b5.Source.Network) && ((a1.Source.Station == b5.Source.Station) && ((a1.Source.Location == b5.Source.Location) && ((a1.Source.Channel == b5.Source.Channel) && true)))) && (a1.Start == b5.Start)))] a) ?_ ?_
 ·rcases Bool.eq_false_or_eq_true ((a1.Source.Network == b5.Source.Network) && ((a1.Source.Station == b5.Source.Station) && ((a1.Source.Location == b5.Source.Location) && ((a1.Source.Channel == b5.Source.Channel) && true)))) with h11 | h11
  ·have hs := hs.fix 10 (.bool true) rfl (vb h11)
   refine st_val hs (y_fieldAddr (o' := 4) Tryz.runUnderlying35 rfl Tryz.sizeOf3 rfl rfl rfl) ⟨_, rfl, rfl⟩ rfl rfl fun a hs => ?_
   refine st_val hs (y_loadB1 (hw.ownAt 1 rfl) rfl Tryz.isAgg3 rfl) ⟨_, rfl, rfl⟩ rfl rfl fun a hs => ?_
   refine st_val hs (y_fieldAddr (o' := 4) Tryz.runUnderlying35 rfl Tryz.sizeOf3 rfl rfl rfl) ⟨_, rfl, rfl⟩ rfl rfl fun a hs => ?_
   refine st_val hs (y_loadB1 (hw.ownAt 0 rfl) rfl Tryz.isAgg3 rfl) ⟨_, rfl, rfl⟩ rfl rfl fun a hs => ?_
   refine st_val hs (y_eql rfl rfl) ⟨_, rfl, rfl⟩ rfl rfl fun a hs => ?_
   refine sv hs (y_pickT rfl rfl) rfl fun a hs => ?_
   refine nl ?_
   exact ⟨rfl, (hs.fix 16 (.bool (((a1.Source.Network == b5.Source.Network) && ((a1.Source.Station == b5.Source.Station) && ((a1.Source.Location == b5.Source.Location) && ((a1.Source.Channel == b5.Source.Channel) && true)))) && (a1.Start == b5.Start))) rfl (and_t h11)).weaken _ ⟨rfl, rfl, rfl, trivial⟩⟩
  have hs := hs.fix 10 (.bool false) rfl (vb h11)
  refine st_skip hs rfl rfl rfl rfl rfl fun a hs => ?_
  refine st_skip hs rfl rfl rfl rfl rfl fun a hs => ?_
  refine st_skip hs rfl rfl rfl rfl rfl fun a hs => ?_
  refine st_skip hs rfl rfl rfl rfl rfl fun a hs => ?_
  refine st_skip hs rfl rfl rfl rfl rfl fun a hs => ?_
  refine sv hs (y_pickF rfl rfl) rfl fun a hs => ?_
  refine nl ?_
  exact ⟨rfl, (hs.fix 16 (.bool (((a1.Source.Network == b5.Source.Network) && ((a1.Source.Station == b5.Source.Station) && ((a1.Source.Location == b5.Source.Location) && ((a1.Source.Channel == b5.Source.Channel) && true)))) && (a1.Start == b5.Start))) rfl (and_f h11)).weaken _ ⟨rfl, rfl, rfl, trivial⟩⟩
 rintro a w1 ⟨h39, hs⟩
 subst h39
 refine mv hs rfl rfl fun a hs => ?_
 refine wpl_join 6 (fun a w1 => w = w1 ∧ Sl 59 [(2, .pointer (some ⟨b9, 0, none⟩)), (3, .pointer (some ⟨b10, 0, none⟩)), (23, .bool ((((a1.Source.Network == b5.Source.Network) && ((a1.Source.Station == b5.Source.Station) && ((a1.Source.Location == b5.Source.Location) && ((a1.Source.Channel == b5.Source.Channel) && true)))) && (a1.Start == b5.Start)) && (a1.First == b5.First)))] a) ?_ ?_
 ·rcases Bool.eq_false_or_eq_true (((a1.Source.Network == b5.Source.Network) && ((a1.Source.Station == b5.Source.Station) && ((a1.Source.Location == b5.Source.Location) && ((a1.Source.Channel == b5.Source.Channel) && true)))) && (a1.Start == b5.Start)) with h12 | h12
  ·have hs := hs.fix 17 (.bool true) rfl (vb h12)
   refine st_val hs (y_fieldAddr (o' := 5) Tryz.runUnderlying35 rfl Tryz.sizeOf3 rfl rfl rfl) ⟨_, rfl, rfl⟩ rfl rfl fun a hs => ?_
   refine st_val hs (y_loadB1 (hw.ownAt 1 rfl) rfl Tryz.isAgg3 rfl) ⟨_, rfl, rfl⟩ rfl rfl fun a hs => ?_
   refine st_val hs (y_fieldAddr (o' := 5) Tryz.runUnderlying35 rfl Tryz.sizeOf3 rfl rfl rfl) ⟨_, rfl, rfl⟩ rfl rfl fun a hs => ?_
   refine st_val hs (y_loadB1 (hw.ownAt 0 rfl) rfl Tryz.isAgg3 rfl) ⟨_, rfl, rfl⟩ rfl rfl fun a hs => ?_
   refine st_val hs (y_eql rfl rfl) ⟨_, rfl, rfl⟩ rfl rfl fun a hs => ?_
   refine sv hs (y_pickT rfl rfl) rfl fun a hs => ?_
   refine nl ?_
   exact ⟨rfl, (hs.fix 23 (.bool ((((a1.Source.Network == b5.Source.Network) && ((a1.Source.Station == b5.Source.Station) && ((a1.Source.Location == b5.Source.Location) && ((a1.Source.Channel == b5.Source.Channel) && true)))) && (a1.Start == b5.Start)) && (a1.First == b5.First))) rfl (and_t h12)).weaken _ ⟨rfl, rfl, rfl, trivial⟩⟩
  have hs := hs.fix 17 (.bool false) rfl (vb h12)
  refine st_skip hs rfl rfl rfl rfl rfl fun a hs => ?_
  refine st_skip hs rfl rfl rfl rfl rfl fun a hs => ?_
  refine st_skip hs rfl rfl rfl rfl rfl fun a hs => ?_
  refine st_skip hs rfl rfl rfl rfl rfl fun a hs => ?_
  refine st_skip hs rfl rfl rfl rfl rfl fun a hs => ?_
  refine sv hs (y_pickF rfl rfl) rfl fun a hs => ?_
  refine nl ?_
  exact ⟨rfl, (hs.fix 23 (.bool ((((a1.Source.Network == b5.Source.Network) && ((a1.Source.Station == b5.Source.Station) && ((a1.Source.Location == b5.Source.Location) && ((a1.Source.Channel == b5.Source.Channel) && true)))) && (a1.Start == b5.Start)) && (a1.First == b5.First))) rfl (and_f h12)).weaken _ ⟨rfl, rfl, rfl, trivial⟩⟩
 rintro a w1 ⟨h38, hs⟩
 subst h38
 refine mv hs rfl rfl fun a hs => ?_
 refine wpl_join 6 (fun a w1 => w = w1 ∧ Sl 59 [(2, .pointer (some ⟨b9, 0, none⟩)), (3, .pointer (some ⟨b10, 0, none⟩)), (30, .bool (((((a1.Source.Network == b5.Source.Network) && ((a1.Source.Station == b5.Source.Station) && ((a1.Source.Location == b5.Source.Location) && ((a1.Source.Channel == b5.Source.Channel) && true)))) && (a1.Start == b5.Start)) && (a1.First == b5.First)) && ((a1.Rate.Num == b5.Rate.Num) && ((a1.Rate.Den == b5.Rate.Den) && true))))] a) ?_ ?_
 ·rcases Bool.eq_false_or_eq_true ((((a1.Source.Network == b5.Source.Network) && ((a1.Source.Station == b5.Source.Station) && ((a1.Source.Location == b5.Source.Location) && ((a1.Source.Channel == b5.Source.Channel) && true)))) && (a1.Start == b5.Start)) && (a1.First == b5.First)) with h13 | h13
  ·have hs := hs.fix 24 (.bool true) rfl (vb h13)
   refine st_val hs (y_fieldAddr (o' := 6) Tryz.runUnderlying35 rfl Tryz.sizeOf33 rfl rfl rfl) ⟨_, rfl, rfl⟩ rfl rfl fun a hs => ?_
   refine st_val hs (y_loadBA (hw.ownAt 1 rfl) rfl Tryz.isAgg33 Tryz.sizeOf33 rfl rfl) ⟨_, rfl, rfl⟩ rfl rfl fun a hs => ?_
   refine st_val hs (y_fieldAddr (o' := 6) Tryz.runUnderlying35 rfl Tryz.sizeOf33 rfl rfl rfl) ⟨_, rfl, rfl⟩ rfl rfl fun a hs => ?_
   refine st_val hs (y_loadBA (hw.ownAt 0 rfl) rfl Tryz.isAgg33 Tryz.sizeOf33 rfl rfl) ⟨_, rfl, rfl⟩ rfl rfl fun a hs => ?_
   refine st_val hs (y_eqlA (by kernel_rfl) rfl rfl (eqv_struct Tryz.runUnderlying33 (by kernel_rfl) (EqF.cons1 rfl Tryz.isAgg3 rfl rfl (eqv_int Tryz.runUnderlying3) (EqF.cons1 rfl Tryz.isAgg3 rfl rfl (eqv_int Tryz.runUnderlying3) EqF.nil)))) ⟨_, rfl, rfl⟩ rfl rfl fun a hs => ?_
   refine sv hs (y_pickT rfl rfl) rfl fun a hs => ?_
   refine nl ?_
   exact ⟨rfl, (hs.fix 30 (.bool (((((a1.Source.Network == b5.Source.Network) && ((a1.Source.Station == b5.Source.Station) && ((a1.Source.Location == b5.Source.Location) && ((a1.Source.Channel == b5.Source.Channel) && true)))) && (a1.Start == b5.Start)) && (a1.First == b5.First)) && ((a1.Rate.Num == b5.Rate.Num) && ((a1.Rate.Den == b5.Rate.Den) && true)))) rfl (and_t h13)).weaken _ ⟨rfl, rfl, rfl, trivial⟩⟩
  have hs := hs.fix 24 (.bool false) rfl (vb h13)
  refine st_skip hs rfl rfl rfl rfl rfl fun a hs => ?_
  refine st_skip hs rfl rfl rfl rfl rfl fun a hs => ?_
  refine st_skip hs rfl rfl rfl rfl rfl fun a hs => ?_
  refine st_skip hs rfl rfl rfl rfl rfl fun a hs => ?_
  refine st_skip hs rfl rfl rfl rfl rfl fun a hs => ?_
  refine sv hs (y_pickF rfl rfl) rfl fun a hs => ?_
  refine nl ?_
  exact ⟨rfl, (hs.fix 30 (.bool (((((a1.Source.Network == b5.Source.Network) && ((a1.Source.Station == b5.Source.Station) && ((a1.Source.Location == b5.Source.Location) && ((a1.Source.Channel == b5.Source.Channel) && true)))) && (a1.Start == b5.Start)) && (a1.First == b5.First)) && ((a1.Rate.Num == b5.Rate.Num) && ((a1.Rate.Den == b5.Rate.Den) && true)))) rfl (and_f h13)).weaken _ ⟨rfl, rfl, rfl, trivial⟩⟩
 rintro a w1 ⟨h37, hs⟩
 subst h37
 refine mv hs rfl rfl fun a hs => ?_
 refine wpl_join 6 (fun a w1 => w = w1 ∧ Sl 59 [(2, .pointer (some ⟨b9, 0, none⟩)), (3, .pointer (some ⟨b10, 0, none⟩)), (37, .bool ((((((a1.Source.Network == b5.Source.Network) && ((a1.Source.Station == b5.Source.Station) && ((a1.Source.Location == b5.Source.Location) && ((a1.Source.Channel == b5.Source.Channel) && true)))) && (a1.Start == b5.Start)) && (a1.First == b5.First)) && ((a1.Rate.Num == b5.Rate.Num) && ((a1.Rate.Den == b5.Rate.Den) && true))) && (a1.Error == b5.Error)))] a) ?_ ?_
 ·rcases Bool.eq_false_or_eq_true (((((a1.Source.Network == b5.Source.Network) && ((a1.Source.Station == b5.Source.Station) && ((a1.Source.Location == b5.Source.Location) && ((a1.Source.Channel == b5.Source.Channel) && true)))) && (a1.Start == b5.Start)) && (a1.First == b5.First)) && ((a1.Rate.Num == b5.Rate.Num) && ((a1.Rate.Den == b5.Rate.Den) && true))) with h14 | h14
  ·have hs := hs.fix 31 (.bool true) rfl (vb h14)
   refine st_val hs (y_fieldAddr (o' := 8) Tryz.runUnderlying35 rfl Tryz.sizeOf3 rfl rfl rfl) ⟨_, rfl, rfl⟩ rfl rfl fun a hs => ?_
   refine st_val hs (y_loadB1 (hw.ownAt 1 rfl) rfl Tryz.isAgg3 rfl) ⟨_, rfl, rfl⟩ rfl rfl fun a hs => ?_
   refine st_val hs (y_fieldAddr (o' := 8) Tryz.runUnderlying35 rfl Tryz.sizeOf3 rfl rfl rfl) ⟨_, rfl, rfl⟩ rfl rfl fun a hs => ?_
   refine st_val hs (y_loadB1 (hw.ownAt 0 rfl) rfl Tryz.isAgg3 rfl) ⟨_, rfl, rfl⟩ rfl rfl fun a hs => ?_
   refine st_val hs (y_eql rfl rfl) ⟨_, rfl, rfl⟩ rfl rfl fun a hs => ?_
   refine sv hs (y_pickT rfl rfl) rfl fun a hs => ?_
   refine nl ?_
   exact ⟨rfl, (hs.fix 37 (.bool ((((((a1.Source.Network == b5.Source.Network) && ((a1.Source.Station == b5.Source.Station) && ((a1.Source.Location == b5.Source.Location) && ((a1.Source.Channel == b5.Source.Channel) && true)))) && (a1.Start == b5.Start)) && (a1.First == b5.First)) && ((a1.Rate.Num == b5.Rate.Num) && ((a1.Rate.Den == b5.Rate.Den) && true))) && (a1.Error == b5.Error))) rfl (and_t h14)).weaken _ ⟨rfl, rfl, rfl, trivial⟩⟩
  have hs := hs.fix 31 (.bool false) rfl (vb h14)
  refine st_skip hs rfl rfl rfl rfl rfl fun a hs => ?_
  refine st_skip hs rfl rfl rfl rfl rfl fun a hs => ?_
  refine st_skip hs rfl rfl rfl rfl rfl fun a hs => ?_
  refine st_skip hs rfl rfl rfl rfl rfl fun a hs => ?_
  refine st_skip hs rfl rfl rfl rfl rfl fun a hs => ?_
  refine sv hs (y_pickF rfl rfl) rfl fun a hs => ?_
  refine nl ?_
  exact ⟨rfl, (hs.fix 37 (.bool ((((((a1.Source.Network == b5.Source.Network) && ((a1.Source.Station == b5.Source.Station) && ((a1.Source.Location == b5.Source.Location) && ((a1.Source.Channel == b5.Source.Channel) && true)))) && (a1.Start == b5.Start)) && (a1.First == b5.First)) && ((a1.Rate.Num == b5.Rate.Num) && ((a1.Rate.Den == b5.Rate.Den) && true))) && (a1.Error == b5.Error))) rfl (and_f h14)).weaken _ ⟨rfl, rfl, rfl, trivial⟩⟩
 rintro a w1 ⟨h36, hs⟩
 subst h36
 refine mv hs rfl rfl fun a hs => ?_
 refine wpl_join 6 (fun a w1 => w = w1 ∧ Sl 59 [(2, .pointer (some ⟨b9, 0, none⟩)), (3, .pointer (some ⟨b10, 0, none⟩)), (44, .bool (((((((a1.Source.Network == b5.Source.Network) && ((a1.Source.Station == b5.Source.Station) && ((a1.Source.Location == b5.Source.Location) && ((a1.Source.Channel == b5.Source.Channel) && true)))) && (a1.Start == b5.Start)) && (a1.First == b5.First)) && ((a1.Rate.Num == b5.Rate.Num) && ((a1.Rate.Den == b5.Rate.Den) && true))) && (a1.Error == b5.Error)) && (a1.Run == b5.Run)))] a) ?_ ?_
 ·rcases Bool.eq_false_or_eq_true ((((((a1.Source.Network == b5.Source.Network) && ((a1.Source.Station == b5.Source.Station) && ((a1.Source.Location == b5.Source.Location) && ((a1.Source.Channel == b5.Source.Channel) && true)))) && (a1.Start == b5.Start)) && (a1.First == b5.First)) && ((a1.Rate.Num == b5.Rate.Num) && ((a1.Rate.Den == b5.Rate.Den) && true))) && (a1.Error == b5.Error)) with h15 | h15
  ·have hs := hs.fix 38 (.bool true) rfl (vb h15)
   refine st_val hs (y_fieldAddr (o' := 9) Tryz.runUnderlying35 rfl Tryz.sizeOf3 rfl rfl rfl) ⟨_, rfl, rfl⟩ rfl rfl fun a hs => ?_
   refine st_val hs (y_loadB1 (hw.ownAt 1 rfl) rfl Tryz.isAgg3 rfl) ⟨_, rfl, rfl⟩ rfl rfl fun a hs => ?_
   refine st_val hs (y_fieldAddr (o' := 9) Tryz.runUnderlying35 rfl Tryz.sizeOf3 rfl rfl rfl) ⟨_, rfl, rfl⟩ rfl rfl fun a hs => ?_
   refine st_val hs (y_loadB1 (hw.ownAt 0 rfl) rfl Tryz.isAgg3 rfl) ⟨_, rfl, rfl⟩ rfl rfl fun a hs => ?_
   refine st_val hs (y_eql rfl rfl) ⟨_, rfl, rfl⟩ rfl rfl fun a hs => ?_
   refine sv hs (y_pickT rfl rfl) rfl fun a hs => ?_
   refine nl ?_
   exact ⟨rfl, (hs.fix 44 (.bool (((((((a1.Source.Network == b5.Source.Network) && ((a1.Source.Station == b5.Source.Station) && ((a1.Source.Location == b5.Source.Location) && ((a1.Source.Channel == b5.Source.Channel) && true)))) && (a1.Start == b5.Start)) && (a1.First == b5.First)) && ((a1.Rate.Num == b5.Rate.Num) && ((a1.Rate.Den == b5.Rate.Den) && true))) && (a1.Error == b5.Error)) && (a1.Run == b5.Run))) rfl (and_t h15)).weaken _ ⟨rfl, rfl, rfl, trivial⟩⟩
  have hs := hs.fix 38 (.bool false) rfl (vb h15)
  refine st_skip hs rfl rfl rfl rfl rfl fun a hs => ?_
  refine st_skip hs rfl rfl rfl rfl rfl fun a hs => ?_
  refine st_skip hs rfl rfl rfl rfl rfl fun a hs => ?_
  refine st_skip hs rfl rfl rfl rfl rfl fun a hs => ?_
  refine st_skip hs rfl rfl rfl rfl rfl fun a hs => ?_
  refine sv hs (y_pickF rfl rfl) rfl fun a hs => ?_
  refine nl ?_
  exact ⟨rfl, (hs.fix 44 (.bool (((((((a1.Source.Network == b5.Source.Network) && ((a1.Source.Station == b5.Source.Station) && ((a1.Source.Location == b5.Source.Location) && ((a1.Source.Channel == b5.Source.Channel) && true)))) && (a1.Start == b5.Start)) && (a1.First == b5.First)) && ((a1.Rate.Num == b5.Rate.Num) && ((a1.Rate.Den == b5.Rate.Den) && true))) && (a1.Error == b5.Error)) && (a1.Run == b5.Run))) rfl (and_f h15)).weaken _ ⟨rfl, rfl, rfl, trivial⟩⟩
 rintro a w1 ⟨h35, hs⟩
 subst h35
 refine mv hs rfl rfl fun a hs => ?_
 refine wpl_join 6 (fun a w1 => w = w1 ∧ Sl 59 [(2, .pointer (some ⟨b9, 0, none⟩)), (3, .pointer (some ⟨b10, 0, none⟩)), (51, .bool ((((((((a1.Source.Network == b5.Source.Network) && ((a1.Source.Station == b5.Source.Station) && ((a1.Source.Location == b5.Source.Location) && ((a1.Source.Channel == b5.Source.Channel) && true)))) && (a1.Start == b5.Start)) && (a1.First == b5.First)) && ((a1.Rate.Num == b5.Rate.Num) && ((a1.Rate.Den == b5.Rate.Den) && true))) && (a1.Error == b5.Error)) && (a1.Run == b5.Run)) && (a1.Seq == b5.Seq)))] a) ?_ ?_
 ·rcases Bool.eq_false_or_eq_true (((((((a1.Source.Network == b5.Source.Network) && ((a1.Source.Station == b5.Source.Station) && ((a1.Source.Location == b5.Source.Location) && ((a1.Source.Channel == b5.Source.Channel) && true)))) && (a1.Start == b5.Start)) && (a1.First == b5.First)) && ((a1.Rate.Num == b5.Rate.Num) && ((a1.Rate.Den == b5.Rate.Den) && true))) && (a1.Error == b5.Error)) && (a1.Run == b5.Run)) with h16 | h16
  ·have hs := hs.fix 45 (.bool true) rfl (vb h16)
   refine st_val hs (y_fieldAddr (o' := 10) Tryz.runUnderlying35 rfl Tryz.sizeOf3 rfl rfl rfl) ⟨_, rfl, rfl⟩ rfl rfl fun a hs => ?_
   refine st_val hs (y_loadB1 (hw.ownAt 1 rfl) rfl Tryz.isAgg3 rfl) ⟨_, rfl, rfl⟩ rfl rfl fun a hs => ?_
   refine st_val hs (y_fieldAddr (o' := 10) Tryz.runUnderlying35 rfl Tryz.sizeOf3 rfl rfl rfl) ⟨_, rfl, rfl⟩ rfl rfl fun a hs => ?_
   refine st_val hs (y_loadB1 (hw.ownAt 0 rfl) rfl Tryz.isAgg3 rfl) ⟨_, rfl, rfl⟩ rfl rfl fun a hs => ?_
   refine st_val hs (y_eql rfl rfl) ⟨_, rfl, rfl⟩ rfl rfl fun a hs => ?_
   refine sv hs (y_pickT rfl rfl) rfl fun a hs => ?_
   refine nl ?_
   exact ⟨rfl, (hs.fix 51 (.bool ((((((((a1.Source.Network == b5.Source.Network) && ((a1.Source.Station == b5.Source.Station) && ((a1.Source.Location == b5.Source.Location) && ((a1.Source.Channel == b5.Source.Channel) && true)))) && (a1.Start == b5.Start)) && (a1.First == b5.First)) && ((a1.Rate.Num == b5.Rate.Num) && ((a1.Rate.Den == b5.Rate.Den) && true))) && (a1.Error == b5.Error)) && (a1.Run == b5.Run)) && (a1.Seq == b5.Seq))) rfl (and_t h16)).weaken _ ⟨rfl, rfl, rfl, trivial⟩⟩
  have hs := hs.fix 45 (.bool false) rfl (vb h16)
  refine st_skip hs rfl rfl rfl rfl rfl fun a hs => ?_
  refine st_skip hs rfl rfl rfl rfl rfl fun a hs => ?_
  refine st_skip hs rfl rfl rfl rfl rfl fun a hs => ?_
  refine st_skip hs rfl rfl rfl rfl rfl fun a hs => ?_
  refine st_skip hs rfl rfl rfl rfl rfl fun a hs => ?_
  refine sv hs (y_pickF rfl rfl) rfl fun a hs => ?_
  refine nl ?_
  exact ⟨rfl, (hs.fix 51 (.bool ((((((((a1.Source.Network == b5.Source.Network) && ((a1.Source.Station == b5.Source.Station) && ((a1.Source.Location == b5.Source.Location) && ((a1.Source.Channel == b5.Source.Channel) && true)))) && (a1.Start == b5.Start)) && (a1.First == b5.First)) && ((a1.Rate.Num == b5.Rate.Num) && ((a1.Rate.Den == b5.Rate.Den) && true))) && (a1.Error == b5.Error)) && (a1.Run == b5.Run)) && (a1.Seq == b5.Seq))) rfl (and_f h16)).weaken _ ⟨rfl, rfl, rfl, trivial⟩⟩
 rintro a w1 ⟨h34, hs⟩
 subst h34
 refine mv hs rfl rfl fun a hs => ?_
 obtain ⟨c25, hc25, hsh⟩ := bind_t hsh
 refine wpl_join 6 (fun a w => ∃ (Sv26 : Nat → Prop), Sl 59 [(58, .bool c25)] a ∧ Wd ⟨w0, S0, []⟩ Sv26 [] [] w) ?_ ?_
 ·rcases Bool.eq_false_or_eq_true ((((((((a1.Source.Network == b5.Source.Network) && ((a1.Source.Station == b5.Source.Station) && ((a1.Source.Location == b5.Source.Location) && ((a1.Source.Channel == b5.Source.Channel) && true)))) && (a1.Start == b5.Start)) && (a1.First == b5.First)) && ((a1.Rate.Num == b5.Rate.Num) && ((a1.Rate.Den == b5.Rate.Den) && true))) && (a1.Error == b5.Error)) && (a1.Run == b5.Run)) && (a1.Seq == b5.Seq)) with h24 | h24
  ·have hs := hs.fix 52 (.bool true) rfl (vb h24)
   have hsh := ite_t hc25 h24
   refine st_val hs (y_fieldAddr (o' := 11) Tryz.runUnderlying35 rfl Tryz.sizeOf22 rfl rfl rfl) ⟨_, rfl, rfl⟩ rfl rfl fun a hs => ?_
   refine st_val hs (y_loadB1 (hw.ownAt 1 rfl) rfl Tryz.isAgg22 rfl) ⟨_, rfl, rfl⟩ rfl rfl fun a hs => ?_
   refine st_val hs (y_fieldAddr (o' := 11) Tryz.runUnderlying35 rfl Tryz.sizeOf22 rfl rfl rfl) ⟨_, rfl, rfl⟩ rfl rfl fun a hs => ?_
   refine st_val hs (y_loadB1 (hw.ownAt 0 rfl) rfl Tryz.isAgg22 rfl) ⟨_, rfl, rfl⟩ rfl rfl fun a hs => ?_
   obtain ⟨rv28, h27, hsh⟩ := bind_t hsh
   refine st_callR hs (ref05_Same_ok h27 hw.bdom (hw.bE 1 rfl) (hw.bE 0 rfl)) (do_call Tryz.call50 rfl) ⟨_, rfl, rfl⟩ rfl rfl ?_
   intro v32 Sv29 w a h30 h31 hs
   subst h31
   have hw := hw.callB h30
   refine sv hs (y_pickT rfl rfl) rfl fun a hs => ?_
   refine wpList_nil ?_
   have hsh := oi hsh
   subst hsh
   refine then_normal ?_
   exact ⟨S0, (hs.wk rfl), (hw.ft [] [] (by decide) rfl rfl)⟩
  have hs := hs.fix 52 (.bool false) rfl (vb h24)
  have hsh := ite_f hc25 h24
  refine st_skip hs rfl rfl rfl rfl rfl fun a hs => ?_
  refine st_skip hs rfl rfl rfl rfl rfl fun a hs => ?_
  refine st_skip hs rfl rfl rfl rfl rfl fun a hs => ?_
  refine st_skip hs rfl rfl rfl rfl rfl fun a hs => ?_
  refine st_skip hs rfl rfl rfl rfl rfl fun a hs => ?_
  refine sv hs (y_pickF rfl rfl) rfl fun a hs => ?_
  refine wpList_nil ?_
  have hsh := oi hsh
  subst hsh
  refine then_normal ?_
  exact ⟨S0, (hs.wk rfl), (hw.ft [] [] (by decide) rfl rfl)⟩
 rintro a w ⟨Sv26, hs, hw⟩
 refine av hs rfl rfl fun a hs => ?_
 refine nl ?_
 have hsh := oi hsh
 subst hsh
 refine wp_ret ?_
 exact ret1 hs rfl (rv_tmp rfl) (hw.ret rfl)

abbrev ref14_SameList_rd (w0 : World) (X : List Nat) (r : Bool) : (Nat → Prop) → World → Value → Prop := fun S w v => v = .bool r
set_option maxHeartbeats 4000000 in
set_option maxRecDepth 100000 in
theorem ref14_SameList_ok {w0 : World} {S0 : Nat → Prop} {p2 : Option Addr} {k3 : Nat} {p6 : Option Addr} {k7 : Nat} {a1 : (List Record)} {b5 : (List Record)} {r : Bool} (hsh : ref14_SameList a1 b5 = some r) (hS : ∀ b, S0 b → b < w0.heap.size) (h4 : (SlA p2 a1.length k3 a1).p S0 w0) (h8 : (SlA p6 b5.length k7 b5).p S0 w0) : Calls Tryz.prog 18 #[.slice p2 a1.length k3, .slice p6 b5.length k7] w0 (Ret ([]) w0 S0 (ref14_SameList_rd w0 ([]) r)) := by
 refine calls_of_wp Tryz.func18 rfl ?_
 have hs := Sl.enter #[.slice p2 a1.length k3, .slice p6 b5.length k7] 27 [(0, .slice p2 a1.length k3), (1, .slice p6 b5.length k7)] rfl ⟨rfl, rfl, trivial⟩
 have hw := Wd.enter (E := []) hS (fun _ h => (by cases h))
 have hw := hw.addE h4
 have hw := hw.addE h8
 delta ref14_SameList at hsh
 refine sr ?_
 refine av hs rfl rfl fun a hs => ?_
 refine nl ?_
 refine wp_seq ?_
 refine sr ?_
 refine mv hs rfl rfl fun a hs => ?_
 refine sv hs (y_len Tryz.runUnderlying27 rfl) rfl fun a hs => ?_
 refine mv hs rfl rfl fun a hs => ?_
 refine sv hs (y_len Tryz.runUnderlying27 rfl) rfl fun a hs => ?_
 refine sv hs (y_neq rfl rfl) rfl fun a hs => ?_
 refine nl ?_
 refine wp_cond_split (hs.ev rfl) (fun h10 => ?_) (fun h10 => ?_)
 ·have hsh := ite_t hsh h10
  refine sr ?_
  refine av hs rfl rfl fun a hs => ?_
  refine nl ?_
  have hsh := oi hsh
  subst hsh
  refine wp_ret ?_
  refine then_ret ?_
  exact ret1 hs rfl (rv_tmp rfl) (hw.ret rfl)
 have hsh := ite_f hsh h10
 refine wp_skip ?_
 refine then_normal ?_
 refine wp_seq ?_
 refine sr ?_
 refine av hs rfl rfl fun a hs => ?_
 refine nl ?_
 refine wp_block ?_
 refine wp_while (fun sv139 a w => ∃ (Sv223 : Nat → Prop), Sl 27 [(0, .slice p2 a1.length k3), (1, .slice p6 b5.length k7), (5, .int .i64 sv139)] a ∧ Wd ⟨w0, S0, []⟩ Sv223 [] [SlA p2 a1.length k3 a1, SlA p6 b5.length k7 b5] w) 0 hsh ⟨S0, (hs.wk rfl), (hw.ft [] [1, 0] (by decide) rfl rfl)⟩ ?_
 repeat clear hsh
 rintro sv139 a w tv266 ⟨Sv223, hs, hw⟩ hsh hd265
 delta ref14_SameList_l2 at hsh
 refine wp_seq ?_
 refine sr ?_
 refine mv hs rfl rfl fun a hs => ?_
 refine mv hs rfl rfl fun a hs => ?_
 refine sv hs (y_len Tryz.runUnderlying27 rfl) rfl fun a hs => ?_
 refine sv hs (y_lss rfl rfl) rfl fun a hs => ?_
 refine nl ?_
 refine wp_cond_split (hs.ev rfl) (fun h270 => ?_) (fun h270 => ?_)
 ·have hsh := ite_t hsh h270
  refine wp_skip ?_
  refine then_normal ?_
  refine wp_seq ?_
  refine wp_block ?_
  refine wp_seq ?_
  obtain ⟨x311, h309, hsh⟩ := bind_t hsh
  obtain ⟨b317, o318, q315, c316, h319, h312, h313, h314, h310⟩ := hw.elemV 0 rfl h309
  have hsv320 := hs
  have hwv321 := hw
  subst h319
  have hs := hsv320
  have hw := hwv321
  obtain ⟨_, _, _, _, _, _, _, _, _, _, _, _, rfl, rfl, rfl, rfl, rfl, rfl, rfl, rfl, rfl, rfl, rfl, rfl, ⟨p322, n323, k324, rfl, h325⟩⟩ := h310
  obtain rfl := h325.1
  have hw := hw.addE (e := SlA p322 _ k324 x311.Samples) h325
  have hw := hw.addE h314
  obtain ⟨x328, h326, hsh⟩ := bind_t hsh
  obtain ⟨b334, o335, q332, c333, h336, h329, h330, h331, h327⟩ := hw.elemV 3 rfl h326
  have hsv337 := hs
  have hwv338 := hw
  subst h336
  have hs := hsv337
  have hw := hwv338
  obtain ⟨_, _, _, _, _, _, _, _, _, _, _, _, rfl, rfl, rfl, rfl, rfl, rfl, rfl, rfl, rfl, rfl, rfl, rfl, ⟨p339, n340, k341, rfl, h342⟩⟩ := h327
  obtain rfl := h342.1
  have hw := hw.addE (e := SlA p339 _ k341 x328.Samples) h342
  have hw := hw.addE h331
  obtain ⟨rv344, h343, hsh⟩ := bind_t hsh
  refine wp_only (fun a w => ∃ (Sv345 : Nat → Prop), Sl 27 [(0, .slice (some ⟨b317, o318, none⟩) a1.length k3), (1, .slice (some ⟨b334, o335, none⟩) b5.length k7), (5, .int .i64 sv139), (26, .bool (!rv344))] a ∧ Wd ⟨w0, S0, []⟩ Sv345 [] [SlA (some ⟨b317, o318, none⟩) a1.length k3 a1, SlA (some ⟨b334, o335, none⟩) b5.length k7 b5] w) ?_ ?_
  ·refine h_b (C := Cls [] [CeA b334 q332 [.string x328.Source.Network, .string x328.Source.Station, .string x328.Source.Location, .string x328.Source.Channel, .int .i64 x328.Start, .int .i64 x328.First, .int .i64 x328.Rate.Num, .int .i64 x328.Rate.Den, .int .i64 x328.Error, .int .i64 x328.Run, .int .i64 x328.Seq, .slice p339 x328.Samples.length k341], CeA b317 q315 [.string x311.Source.Network, .string x311.Source.Station, .string x311.Source.Location, .string x311.Source.Channel, .int .i64 x311.Start, .int .i64 x311.First, .int .i64 x311.Rate.Num, .int .i64 x311.Rate.Den, .int .i64 x311.Error, .int .i64 x311.Run, .int .i64 x311.Seq, .slice p322 x311.Samples.length k324]]) (by kernel_rfl) rfl (hw.drew.cs [] [0, 2] rfl rfl) fun hC => ?_
   have hw := hw.drew
   refine gm hs 0 rfl rfl rfl hC fun a hs => ?_
   refine gm hs 1 rfl rfl rfl hC fun a hs => ?_
   refine gv hs 2 rfl rfl hC (fun w hC => y_indexAt Tryz.runUnderlying27 Tryz.sizeOf35 rfl rfl h312.1 h312.2 h313) fun a hs => ?_
   refine gv hs 3 rfl rfl hC (fun w hC => y_loadEA (j := 0) (hC.ceAt 1 rfl) rfl Tryz.isAgg35 Tryz.sizeOf35 rfl rfl) fun a hs => ?_
   refine gm hs 4 rfl rfl rfl hC fun a hs => ?_
   refine gm hs 5 rfl rfl rfl hC fun a hs => ?_
   refine gv hs 6 rfl rfl hC (fun w hC => y_indexAt Tryz.runUnderlying27 Tryz.sizeOf35 rfl rfl h329.1 h329.2 h330) fun a hs => ?_
   refine gv hs 7 rfl rfl hC (fun w hC => y_loadEA (j := 0) (hC.ceAt 0 rfl) rfl Tryz.isAgg35 Tryz.sizeOf35 rfl rfl) fun a hs => ?_
   refine ho 8 rfl ?_
   refine st_callR hs (ref14_Same_ok h343 hw.bdom (hw.bE 3 rfl) (hw.bE 1 rfl)) (do_call Tryz.call20 rfl) trivial rfl rfl ?_
   intro v349 Sv346 w a h347 h348 hs
   subst h348
   have hw := hw.callB h347
   refine h_nx (hw.cs [] [0, 2] rfl rfl) fun hC => ?_
   refine gv hs 9 rfl rfl hC (fun w hC => y_not rfl) fun a hs => ?_
   refine h_done (by kernel_rfl) ?_
   exact ⟨Sv223, (hs.wk rfl), (hw.ft [] [4, 5] (by decide) rfl rfl)⟩
  rintro a w ⟨Sv345, hs, hw⟩
  refine then_normal ?_
  refine wp_cond_split (hs.ev rfl) (fun h352 => ?_) (fun h352 => ?_)
  ·have hsh := ite_t hsh h352
   refine sr ?_
   refine av hs rfl rfl fun a hs => ?_
   refine nl ?_
   have hsh := oi hsh
   subst hsh
   have h353 := hd265 _ rfl
   subst h353
   refine wp_ret ?_
   refine blk_ret ?_
   refine then_ret ?_
   refine then_ret ?_
   refine blk_ret ?_
   refine then_ret ?_
   exact ret1 hs rfl (rv_tmp rfl) (hw.ret rfl)
  have hsh := ite_f hsh h352
  refine wp_skip ?_
  refine blk_normal ?_
  refine then_normal ?_
  refine wp_region_lit ?_
  refine mv hs rfl rfl fun a hs => ?_
  refine sv hs (y_add rfl rfl) rfl fun a hs => ?_
  obtain ⟨i355, h354, hsh⟩ := bind_t hsh
  refine sv hs (y_assignI rfl h354) rfl fun a hs => ?_
  refine nl ?_
  exact ⟨_, (Option.some.inj hsh).symm, Sv345, (hs.wk rfl), (hw.ft [] [0, 1] (by decide) rfl rfl)⟩
 have hsh := ite_f hsh h270
 obtain ⟨rv356, hsh, h357⟩ := map_t hsh
 have h357 := (hd265 _ h357.symm).symm
 subst h357
 refine wp_exit ?_
 refine then_exit ?_
 refine then_exit ?_
 refine blk_exit ?_
 refine then_normal ?_
 refine sr ?_
 refine av hs rfl rfl fun a hs => ?_
 refine nl ?_
 have hsh := oi hsh
 subst hsh
 refine wp_ret ?_
 exact ret1 hs rfl (rv_tmp rfl) (hw.ret rfl)

abbrev ref08_Same_rd (w0 : World) (X : List Nat) (r : Bool) : (Nat → Prop) → World → Value → Prop := fun S w v => v = .bool r
set_option maxHeartbeats 4000000 in
set_option maxRecDepth 100000 in
theorem ref08_Same_ok {w0 : World} {S0 : Nat → Prop} {p2 : Option Addr} {k3 : Nat} {p6 : Option Addr} {k7 : Nat} {a1 : (List Span)} {b5 : (List Span)} {r : Bool} (hsh : ref08_Same a1 b5 = some r) (hS : ∀ b, S0 b → b < w0.heap.size) (h4 : (SlA p2 a1.length k3 a1).p S0 w0) (h8 : (SlA p6 b5.length k7 b5).p S0 w0) : Calls Tryz.prog 32 #[.slice p2 a1.length k3, .slice p6 b5.length k7] w0 (Ret ([]) w0 S0 (ref08_Same_rd w0 ([]) r)) := by
 refine calls_of_wp Tryz.func32 rfl ?_
 have hs := Sl.enter #[.slice p2 a1.length k3, .slice p6 b5.length k7] 26 [(0, .slice p2 a1.length k3), (1, .slice p6 b5.length k7)] rfl ⟨rfl, rfl, trivial⟩
 have hw := Wd.enter (E := []) hS (fun _ h => (by cases h))
 have hw := hw.addE h4
 have hw := hw.addE h8
 delta ref08_Same at hsh
 refine sr ?_
 refine av hs rfl rfl fun a hs => ?_
 refine nl ?_
 refine wp_seq ?_
 refine sr ?_
 refine mv hs rfl rfl fun a hs => ?_
 refine sv hs (y_len Tryz.runUnderlying52 rfl) rfl fun a hs => ?_
 refine mv hs rfl rfl fun a hs => ?_
 refine sv hs (y_len Tryz.runUnderlying52 rfl) rfl fun a hs => ?_
 refine sv hs (y_neq rfl rfl) rfl fun a hs => ?_
 refine nl ?_
 refine wp_cond_split (hs.ev rfl) (fun h10 => ?_) (fun h10 => ?_)
 ·have hsh := ite_t hsh h10
  refine sr ?_
  refine av hs rfl rfl fun a hs => ?_
  refine nl ?_
  have hsh := oi hsh
  subst hsh
  refine wp_ret ?_
  refine then_ret ?_
  exact ret1 hs rfl (rv_tmp rfl) (hw.ret rfl)
 have hsh := ite_f hsh h10
 refine wp_skip ?_
 refine then_normal ?_
 refine wp_seq ?_
 refine sr ?_
 refine av hs rfl rfl fun a hs => ?_
 refine nl ?_
 refine wp_block ?_
 refine wp_while (fun sv109 a w => ∃ (Sv173 : Nat → Prop), Sl 26 [(0, .slice p2 a1.length k3), (1, .slice p6 b5.length k7), (5, .int .i64 sv109)] a ∧ Wd ⟨w0, S0, []⟩ Sv173 [] [SlA p2 a1.length k3 a1, SlA p6 b5.length k7 b5] w) 0 hsh ⟨S0, (hs.wk rfl), (hw.ft [] [1, 0] (by decide) rfl rfl)⟩ ?_
 repeat clear hsh
 rintro sv109 a w tv206 ⟨Sv173, hs, hw⟩ hsh hd205
 delta ref08_Same_l2 at hsh
 refine wp_seq ?_
 refine sr ?_
 refine mv hs rfl rfl fun a hs => ?_
 refine mv hs rfl rfl fun a hs => ?_
 refine sv hs (y_len Tryz.runUnderlying52 rfl) rfl fun a hs => ?_
 refine sv hs (y_lss rfl rfl) rfl fun a hs => ?_
 refine nl ?_
 refine wp_cond_split (hs.ev rfl) (fun h210 => ?_) (fun h210 => ?_)
 ·have hsh := ite_t hsh h210
  refine wp_skip ?_
  refine then_normal ?_
  refine wp_seq ?_
  refine wp_block ?_
  refine wp_seq ?_
  obtain ⟨x241, h239, hsh⟩ := bind_t hsh
  obtain ⟨b247, o248, q245, c246, h249, h242, h243, h244, h240⟩ := hw.elemV 0 rfl h239
  have hsv250 := hs
  have hwv251 := hw
  subst h249
  have hs := hsv250
  have hw := hwv251
  obtain ⟨_, _, rfl, rfl, rfl⟩ := h240
  have hw := hw.addE h244
  obtain ⟨x254, h252, hsh⟩ := bind_t hsh
  obtain ⟨b260, o261, q258, c259, h262, h255, h256, h257, h253⟩ := hw.elemV 2 rfl h252
  have hsv263 := hs
  have hwv264 := hw
  subst h262
  have hs := hsv263
  have hw := hwv264
  obtain ⟨_, _, rfl, rfl, rfl⟩ := h253
  have hw := hw.addE h257
  refine wp_only (fun a w => ∃ (Sv265 : Nat → Prop), Sl 26 [(0, .slice (some ⟨b247, o248, none⟩) a1.length k3), (1, .slice (some ⟨b260, o261, none⟩) b5.length k7), (5, .int .i64 sv109), (25, .bool (!((x241.From == x254.From) && ((x241.To == x254.To) && true))))] a ∧ Wd ⟨w0, S0, []⟩ Sv265 [] [SlA (some ⟨b247, o248, none⟩) a1.length k3 a1, SlA (some ⟨b260, o261, none⟩) b5.length k7 b5] w) ?_ ?_
  ·refine h_b (C := Cls [] [CeA b260 q258 [.int .i64 x254.From, .int .i64 x254.To], CeA b247 q245 [.int .i64 x241.From, .int .i64 x241.To]]) (by kernel_rfl) rfl (hw.drew.cs [] [0, 1] rfl rfl) fun hC => ?_
   have hw := hw.drew
   refine gm hs 0 rfl rfl rfl hC fun a hs => ?_
   refine gm hs 1 rfl rfl rfl hC fun a hs => ?_
   refine gv hs 2 rfl rfl hC (fun w hC => y_indexAt Tryz.runUnderlying52 Tryz.sizeOf45 rfl rfl h242.1 h242.2 h243) fun a hs => ?_
   refine gv hs 3 rfl rfl hC (fun w hC => y_loadEA (j := 0) (hC.ceAt 1 rfl) rfl Tryz.isAgg45 Tryz.sizeOf45 rfl rfl) fun a hs => ?_
   refine gm hs 4 rfl rfl rfl hC fun a hs => ?_
   refine gm hs 5 rfl rfl rfl hC fun a hs => ?_
   refine gv hs 6 rfl rfl hC (fun w hC => y_indexAt Tryz.runUnderlying52 Tryz.sizeOf45 rfl rfl h255.1 h255.2 h256) fun a hs => ?_
   refine gv hs 7 rfl rfl hC (fun w hC => y_loadEA (j := 0) (hC.ceAt 0 rfl) rfl Tryz.isAgg45 Tryz.sizeOf45 rfl rfl) fun a hs => ?_
   refine gv hs 8 rfl rfl hC (fun w hC => y_neqA (by kernel_rfl) rfl rfl (eqv_struct Tryz.runUnderlying45 (by kernel_rfl) (EqF.cons1 rfl Tryz.isAgg3 rfl rfl (eqv_int Tryz.runUnderlying3) (EqF.cons1 rfl Tryz.isAgg3 rfl rfl (eqv_int Tryz.runUnderlying3) EqF.nil)))) fun a hs => ?_
   refine h_done (by kernel_rfl) ?_
   exact ⟨Sv173, (hs.wk rfl), (hw.ft [] [2, 3] (by decide) rfl rfl)⟩
  rintro a w ⟨Sv265, hs, hw⟩
  refine then_normal ?_
  refine wp_cond_split (hs.ev rfl) (fun h267 => ?_) (fun h267 => ?_)
  ·have hsh := ite_t hsh h267
   refine sr ?_
   refine av hs rfl rfl fun a hs => ?_
   refine nl ?_
   have hsh := oi hsh
   subst hsh
   have h268 := hd205 _ rfl
   subst h268
   refine wp_ret ?_
   refine blk_ret ?_
   refine then_ret ?_
   refine then_ret ?_
   refine blk_ret ?_
   refine then_ret ?_
   exact ret1 hs rfl (rv_tmp rfl) (hw.ret rfl)
  have hsh := ite_f hsh h267
  refine wp_skip ?_
  refine blk_normal ?_
  refine then_normal ?_
  refine wp_region_lit ?_
  refine mv hs rfl rfl fun a hs => ?_
  refine sv hs (y_add rfl rfl) rfl fun a hs => ?_
  obtain ⟨i270, h269, hsh⟩ := bind_t hsh
  refine sv hs (y_assignI rfl h269) rfl fun a hs => ?_
  refine nl ?_
  exact ⟨_, (Option.some.inj hsh).symm, Sv265, (hs.wk rfl), (hw.ft [] [0, 1] (by decide) rfl rfl)⟩
 have hsh := ite_f hsh h210
 obtain ⟨rv271, hsh, h272⟩ := map_t hsh
 have h272 := (hd205 _ h272.symm).symm
 subst h272
 refine wp_exit ?_
 refine then_exit ?_
 refine then_exit ?_
 refine blk_exit ?_
 refine then_normal ?_
 refine sr ?_
 refine av hs rfl rfl fun a hs => ?_
 refine nl ?_
 have hsh := oi hsh
 subst hsh
 refine wp_ret ?_
 exact ret1 hs rfl (rv_tmp rfl) (hw.ret rfl)

abbrev law15_ComposeBest_rd (w0 : World) (X : List Nat) (r : Bool) : (Nat → Prop) → World → Value → Prop := fun S w v => v = .bool r
set_option maxHeartbeats 4000000 in
set_option maxRecDepth 100000 in
theorem law15_ComposeBest_ok {w0 : World} {S0 : Nat → Prop} {p2 : Option Addr} {k3 : Nat} {t1 : (List Int)} {r : Bool} (hsh : law15_ComposeBest t1 = some r) (hS : ∀ b, S0 b → b < w0.heap.size) (h4 : (SlA p2 t1.length k3 t1).p S0 w0) : Calls Tryz.prog 6 #[.slice p2 t1.length k3] w0 (Ret ([]) w0 S0 (law15_ComposeBest_rd w0 ([]) r)) := by
 refine calls_of_wp Tryz.func6 rfl ?_
 have hs := Sl.enter #[.slice p2 t1.length k3] 140 [(0, .slice p2 t1.length k3)] rfl ⟨rfl, trivial⟩
 have hw := Wd.enter (E := []) hS (fun _ h => (by cases h))
 have hw := hw.addE h4
 delta law15_ComposeBest at hsh
 refine sr ?_
 refine av hs rfl rfl fun a hs => ?_
 refine nl ?_
 refine wp_seq ?_
 refine sr ?_
 refine mv hs rfl rfl fun a hs => ?_
 obtain ⟨rv6, h5, hsh⟩ := bind_t hsh
 refine st_callR hs (made_Light_ok h5 hw.bdom (hw.bE 0 rfl)) (do_call Tryz.call11 rfl) trivial rfl rfl ?_
 intro v10 Sv7 w a h8 h9 hs
 subst h9
 have hw := hw.callB h8
 refine sv hs (y_not rfl) rfl fun a hs => ?_
 refine nl ?_
 refine wp_cond_split (hs.ev rfl) (fun h20 => ?_) (fun h20 => ?_)
 ·have hsh := ite_t hsh h20
  refine sr ?_
  obtain ⟨rv22, h21, hsh⟩ := bind_t hsh
  refine st_callR hs (law15_sane_ok h21 hw.bdom) (do_call Tryz.call12 rfl) trivial rfl rfl ?_
  intro v26 Sv23 w a h24 h25 hs
  subst h25
  have hw := hw.callB h24
  refine av hs rfl rfl fun a hs => ?_
  refine nl ?_
  have hsh := oi hsh
  subst hsh
  refine wp_ret ?_
  refine then_ret ?_
  exact ret1 hs rfl (rv_tmp rfl) (hw.ret rfl)
 have hsh := ite_f hsh h20
 refine wp_skip ?_
 refine then_normal ?_
 refine sr ?_
 refine mv hs rfl rfl fun a hs => ?_
 obtain ⟨rv29, h28, hsh⟩ := bind_t hsh
 refine st_callR hs (made_Roll_ok h28 hw.dom (hw.envAt 0 rfl)) (do_call Tryz.call13 rfl) trivial rfl rfl ?_
 intro v37 Sv34 w a h35 h36 hs
 obtain ⟨b30, p31, k32, rfl, h38, h33⟩ := h36
 have hw := hw.callN h35 h38
 have hw := hw.addE (e := SlA p31 rv29.L.length k32 rv29.L) h33
 refine av hs rfl rfl fun a hs => ?_
 refine nl ?_
 refine sr ?_
 refine mv hs rfl rfl fun a hs => ?_
 obtain ⟨rv40, h39, hsh⟩ := bind_t hsh
 refine st_callR hs (made_Dice_Records_ok h39 hw.dom (hw.ins [0] (by decide) rfl) (hw.envAt 0 rfl)) (do_call Tryz.call14 rfl) trivial rfl rfl ?_
 intro v51 Sv48 w a h49 h50 hs
 obtain ⟨p41, k42, c44, p45, k46, rfl, h52, h43, h47⟩ := h50
 have hw := hw.callO [0] [] (by decide) rfl h49 h52
 have hw := hw.addE (e := RowA c44 rv40.1) h43
 have hw := hw.addE (e := SlA p45 rv40.2.L.length k46 rv40.2.L) h47
 refine av hs rfl rfl fun a hs => ?_
 refine nl ?_
 refine sr ?_
 refine mv hs rfl rfl fun a hs => ?_
 obtain ⟨rv54, h53, hsh⟩ := bind_t hsh
 obtain ⟨Sv59, hw⟩ := w_share (α := Record) hw 0 rfl 1 rfl
 refine st_callR hs (compose_Compose_ok h53 hw.dom (hw.envAt 0 rfl)) (do_call Tryz.call17 rfl) trivial rfl rfl ?_
 intro v63 Sv60 w a h61 h62 hs
 obtain ⟨p55, k56, c58, rfl, h64, h57⟩ := h62
 have hw := hw.callN h61 h64
 have hw := hw.addE (e := RowA c58 rv54.1) h57
 refine mv hs rfl rfl fun a hs => ?_
 refine sv hs (y_extract rfl rfl) rfl fun a hs => ?_
 refine sv hs (y_extract rfl rfl) rfl fun a hs => ?_
 refine av hs rfl rfl fun a hs => ?_
 refine av hs rfl rfl fun a hs => ?_
 refine nl ?_
 refine wp_seq ?_
 refine sr ?_
 refine mv hs rfl rfl fun a hs => ?_
 refine sv hs (y_neq rfl rfl) rfl fun a hs => ?_
 refine nl ?_
 refine wp_cond_split (hs.ev rfl) (fun h66 => ?_) (fun h66 => ?_)
 ·have hsh := ite_t hsh h66
  refine sr ?_
  refine av hs rfl rfl fun a hs => ?_
  refine nl ?_
  have hsh := oi hsh
  subst hsh
  refine wp_ret ?_
  refine then_ret ?_
  exact ret1 hs rfl (rv_tmp rfl) (hw.ret rfl)
 have hsh := ite_f hsh h66
 refine wp_skip ?_
 refine then_normal ?_
 refine wp_seq ?_
 refine sr ?_
 refine mv hs rfl rfl fun a hs => ?_
 refine sv hs (y_len Tryz.runUnderlying27 rfl) rfl fun a hs => ?_
 refine mv hs rfl rfl fun a hs => ?_
 refine nl ?_
 refine wp_block ?_
 refine wp_while (fun sv702 a w => ∃ (Sv1124 : Nat → Prop), Sl 140 [(3, .pointer (some ⟨b30, 0, none⟩)), (4, .slice p41 rv40.1.length k42), (5, .slice p55 rv54.1.length k56), (41, .slice p41 rv40.1.length k42), (42, .int .i64 (rv40.1.length : Int)), (43, .int .i64 sv702)] a ∧ Wd ⟨w0, S0, []⟩ Sv1124 [.box b30 [.slice p45 rv40.2.L.length k46, .int .i64 rv40.2.At] 75, .row p55 rv54.1.length k56 c58 35 12] [SlA p41 rv40.1.length k42 rv40.1, SlA p45 rv40.2.L.length k46 rv40.2.L, RowA c58 rv54.1] w) 0 hsh ⟨Sv60, (hs.wk rfl), (hw.ft [1, 0] [1, 2, 0] (by decide) rfl rfl)⟩ ?_
 repeat clear hsh
 rintro sv702 a w tv1336 ⟨Sv1124, hs, hw⟩ hsh hd1335
 delta law15_ComposeBest_l12 at hsh
 refine sr ?_
 refine sv hs (y_lss rfl rfl) rfl fun a hs => ?_
 refine nl ?_
 refine wp_seq ?_
 refine wp_cond_split (hs.ev rfl) (fun h1340 => ?_) (fun h1340 => ?_)
 ·have hsh := ite_t hsh h1340
  refine wp_skip ?_
  refine then_normal ?_
  refine wp_seq ?_
  refine wp_join (fun a w => ∃ (Sv1549 : Nat → Prop), law15_ComposeBest_j1 sv702 = some tv1336 ∧ Sl 140 [(3, .pointer (some ⟨b30, 0, none⟩)), (4, .slice p41 rv40.1.length k42), (5, .slice p55 rv54.1.length k56), (41, .slice p41 rv40.1.length k42), (42, .int .i64 (rv40.1.length : Int)), (43, .int .i64 sv702)] a ∧ Wd ⟨w0, S0, []⟩ Sv1549 [.box b30 [.slice p45 rv40.2.L.length k46, .int .i64 rv40.2.At] 75, .row p55 rv54.1.length k56 c58 35 12] [SlA p41 rv40.1.length k42 rv40.1, SlA p45 rv40.2.L.length k46 rv40.2.L, RowA c58 rv54.1] w) ?_ ?_
  ·refine wp_block ?_
   refine sr ?_
   obtain ⟨x1552, h1550, hsh⟩ := bind_t hsh
   obtain ⟨b1558, o1559, q1556, c1557, h1560, h1553, h1554, h1555, h1551⟩ := hw.elemV 0 rfl h1550
   have hsv1561 := hs
   have hwv1562 := hw
   subst h1560
   have hs := hsv1561
   have hw := hwv1562
   obtain ⟨_, _, _, _, _, _, _, _, _, _, _, _, rfl, rfl, rfl, rfl, rfl, rfl, rfl, rfl, rfl, rfl, rfl, rfl, ⟨p1563, n1564, k1565, rfl, h1566⟩⟩ := h1551
   obtain rfl := h1566.1
   have hw := hw.addE (e := SlA p1563 _ k1565 x1552.Samples) h1566
   have hw := hw.addE h1555
   refine sv hs (y_indexAt Tryz.runUnderlying27 Tryz.sizeOf35 rfl rfl h1553.1 h1553.2 h1554) rfl fun a hs => ?_
   refine sv hs (y_loadEA (j := 0) (hw.ceAt 0 rfl) rfl Tryz.isAgg35 Tryz.sizeOf35 rfl rfl) rfl fun a hs => ?_
   refine w_alloc (cs := [.string ByteArray.empty, .string ByteArray.empty, .string ByteArray.empty, .string ByteArray.empty, .int .i64 0, .int .i64 0, .int .i64 0, .int .i64 0, .int .i64 0, .int .i64 0, .int .i64 0, .slice none ([] : List Int).length 0]) hs hw Tryz.zeroValue35 rfl rfl trivial ?_
   intro b1567 a w hs hw
   refine w_store (m := 12) (cs' := [.string x1552.Source.Network, .string x1552.Source.Station, .string x1552.Source.Location, .string x1552.Source.Channel, .int .i64 x1552.Start, .int .i64 x1552.First, .int .i64 x1552.Rate.Num, .int .i64 x1552.Rate.Den, .int .i64 x1552.Error, .int .i64 x1552.Run, .int .i64 x1552.Seq, .slice p1563 x1552.Samples.length k1565]) hs hw 0 rfl rfl rfl Tryz.sizeOf35 rfl rfl rfl rfl trivial ?_
   intro a w hs hw
   refine nl ?_
   refine sr ?_
   refine av hs rfl rfl fun a hs => ?_
   refine nl ?_
   refine wp_seq ?_
   refine sr ?_
   refine mv hs rfl rfl fun a hs => ?_
   refine sv hs (y_len Tryz.runUnderlying27 rfl) rfl fun a hs => ?_
   refine mv hs rfl rfl fun a hs => ?_
   refine nl ?_
   obtain ⟨e1657, h1989, hsh⟩ := bind_t hsh
   refine wp_join (fun a w => ∃ (Sv1658 : Nat → Prop), Sl 140 [(3, .pointer (some ⟨b30, 0, none⟩)), (4, .slice (some ⟨b1558, o1559, none⟩) rv40.1.length k42), (5, .slice p55 rv54.1.length k56), (8, .pointer (some ⟨b1567, 0, none⟩)), (9, .bool e1657), (41, .slice (some ⟨b1558, o1559, none⟩) rv40.1.length k42), (42, .int .i64 (rv40.1.length : Int)), (43, .int .i64 sv702)] a ∧ Wd ⟨w0, S0, []⟩ Sv1658 [.box b30 [.slice p45 rv40.2.L.length k46, .int .i64 rv40.2.At] 75, .box b1567 [.string x1552.Source.Network, .string x1552.Source.Station, .string x1552.Source.Location, .string x1552.Source.Channel, .int .i64 x1552.Start, .int .i64 x1552.First, .int .i64 x1552.Rate.Num, .int .i64 x1552.Rate.Den, .int .i64 x1552.Error, .int .i64 x1552.Run, .int .i64 x1552.Seq, .slice p1563 x1552.Samples.length k1565] 35, .row p55 rv54.1.length k56 c58 35 12] [SlA (some ⟨b1558, o1559, none⟩) rv40.1.length k42 rv40.1, SlA p45 rv40.2.L.length k46 rv40.2.L, SlA p1563 x1552.Samples.length k1565 x1552.Samples, RowA c58 rv54.1] w) ?_ ?_
   ·refine wp_block ?_
    refine wp_while (fun sv1568 a w => ∃ (Sv1622 : Nat → Prop), Sl 140 [(3, .pointer (some ⟨b30, 0, none⟩)), (4, .slice (some ⟨b1558, o1559, none⟩) rv40.1.length k42), (5, .slice p55 rv54.1.length k56), (8, .pointer (some ⟨b1567, 0, none⟩)), (9, .bool sv1568.1), (41, .slice (some ⟨b1558, o1559, none⟩) rv40.1.length k42), (42, .int .i64 (rv40.1.length : Int)), (43, .int .i64 sv702), (47, .slice (some ⟨b1558, o1559, none⟩) rv40.1.length k42), (48, .int .i64 (rv40.1.length : Int)), (49, .int .i64 sv1568.2)] a ∧ Wd ⟨w0, S0, []⟩ Sv1622 [.box b30 [.slice p45 rv40.2.L.length k46, .int .i64 rv40.2.At] 75, .box b1567 [.string x1552.Source.Network, .string x1552.Source.Station, .string x1552.Source.Location, .string x1552.Source.Channel, .int .i64 x1552.Start, .int .i64 x1552.First, .int .i64 x1552.Rate.Num, .int .i64 x1552.Rate.Den, .int .i64 x1552.Error, .int .i64 x1552.Run, .int .i64 x1552.Seq, .slice p1563 x1552.Samples.length k1565] 35, .row p55 rv54.1.length k56 c58 35 12] [SlA (some ⟨b1558, o1559, none⟩) rv40.1.length k42 rv40.1, SlA p45 rv40.2.L.length k46 rv40.2.L, SlA p1563 x1552.Samples.length k1565 x1552.Samples, RowA c58 rv54.1] w) (true, 0) h1989 ⟨Sv1124, (hs.wk rfl), (hw.ft [1, 0, 2] [2, 3, 1, 4] (by decide) rfl rfl)⟩ ?_
    clear h1989
    repeat clear hsh
    rintro sv1568 a w tv1655 ⟨Sv1622, hs, hw⟩ hsh hd1654
    delta law15_ComposeBest_l17 at hsh
    refine sr ?_
    refine sv hs (y_lss rfl rfl) rfl fun a hs => ?_
    refine nl ?_
    refine wp_seq ?_
    refine wp_cond_split (hs.ev rfl) (fun h1660 => ?_) (fun h1660 => ?_)
    ·have hsh := ite_t hsh h1660
     refine wp_skip ?_
     refine then_normal ?_
     refine wp_seq ?_
     refine wp_block ?_
     refine sr ?_
     obtain ⟨x1693, h1691, hsh⟩ := bind_t hsh
     obtain ⟨q1697, c1698, h1694, h1695, h1696, h1692⟩ := hw.elemK 0 rfl h1691
     obtain ⟨_, _, _, _, _, _, _, _, _, _, _, _, rfl, rfl, rfl, rfl, rfl, rfl, rfl, rfl, rfl, rfl, rfl, rfl, ⟨p1699, n1700, k1701, rfl, h1702⟩⟩ := h1692
     obtain rfl := h1702.1
     have hw := hw.addE (e := SlA p1699 _ k1701 x1693.Samples) h1702
     have hw := hw.addE h1696
     refine sv hs (y_indexAt Tryz.runUnderlying27 Tryz.sizeOf35 rfl rfl h1694.1 h1694.2 h1695) rfl fun a hs => ?_
     refine sv hs (y_loadEA (j := 0) (hw.ceAt 0 rfl) rfl Tryz.isAgg35 Tryz.sizeOf35 rfl rfl) rfl fun a hs => ?_
     refine w_alloc (cs := [.string ByteArray.empty, .string ByteArray.empty, .string ByteArray.empty, .string ByteArray.empty, .int .i64 0, .int .i64 0, .int .i64 0, .int .i64 0, .int .i64 0, .int .i64 0, .int .i64 0, .slice none ([] : List Int).length 0]) hs hw Tryz.zeroValue35 rfl rfl trivial ?_
     intro b1703 a w hs hw
     refine w_store (m := 12) (cs' := [.string x1693.Source.Network, .string x1693.Source.Station, .string x1693.Source.Location, .string x1693.Source.Channel, .int .i64 x1693.Start, .int .i64 x1693.First, .int .i64 x1693.Rate.Num, .int .i64 x1693.Rate.Den, .int .i64 x1693.Error, .int .i64 x1693.Run, .int .i64 x1693.Seq, .slice p1699 x1693.Samples.length k1701]) hs hw 0 rfl rfl rfl Tryz.sizeOf35 rfl rfl rfl rfl trivial ?_
     intro a w hs hw
     refine nl ?_
     refine wp_region_lit ?_
     refine mv hs rfl rfl fun a hs => ?_
     refine mv hs rfl rfl fun a hs => ?_
     obtain ⟨c1712, hc1712, hsh⟩ := bind_t hsh
     refine wpl_join 5 (fun a w => ∃ (Sv1713 : Nat → Prop), Sl 140 [(3, .pointer (some ⟨b30, 0, none⟩)), (4, .slice (some ⟨b1558, o1559, none⟩) rv40.1.length k42), (5, .slice p55 rv54.1.length k56), (8, .pointer (some ⟨b1567, 0, none⟩)), (41, .slice (some ⟨b1558, o1559, none⟩) rv40.1.length k42), (42, .int .i64 (rv40.1.length : Int)), (43, .int .i64 sv702), (47, .slice (some ⟨b1558, o1559, none⟩) rv40.1.length k42), (48, .int .i64 (rv40.1.length : Int)), (49, .int .i64 sv1568.2), (59, .bool c1712)] a ∧ Wd ⟨w0, S0, []⟩ Sv1713 [.box b30 [.slice p45 rv40.2.L.length k46, .int .i64 rv40.2.At] 75, .box b1567 [.string x1552.Source.Network, .string x1552.Source.Station, .string x1552.Source.Location, .string x1552.Source.Channel, .int .i64 x1552.Start, .int .i64 x1552.First, .int .i64 x1552.Rate.Num, .int .i64 x1552.Rate.Den, .int .i64 x1552.Error, .int .i64 x1552.Run, .int .i64 x1552.Seq, .slice p1563 x1552.Samples.length k1565] 35, .row p55 rv54.1.length k56 c58 35 12] [SlA (some ⟨b1558, o1559, none⟩) rv40.1.length k42 rv40.1, SlA p45 rv40.2.L.length k46 rv40.2.L, SlA p1563 x1552.Samples.length k1565 x1552.Samples, RowA c58 rv54.1] w) ?_ ?_
     ·rcases Bool.eq_false_or_eq_true sv1568.1 with h1711 | h1711
      ·have hs := hs.fix 54 (.bool true) rfl (vb h1711)
       have hsh := ite_t hc1712 h1711
       refine st_val hs (y_loadBA (hw.ownAt 0 rfl) rfl Tryz.isAgg35 Tryz.sizeOf35 rfl rfl) ⟨_, rfl, rfl⟩ rfl rfl fun a hs => ?_
       refine st_val hs (y_loadBA (hw.ownAt 2 rfl) rfl Tryz.isAgg35 Tryz.sizeOf35 rfl rfl) ⟨_, rfl, rfl⟩ rfl rfl fun a hs => ?_
       obtain ⟨rv1715, h1714, hsh⟩ := bind_t hsh
       refine st_callR hs (ref14_Better_ok h1714 hw.bdom (hw.bE 1 rfl) (hw.bE 4 rfl)) (do_call Tryz.call29 rfl) ⟨_, rfl, rfl⟩ rfl rfl ?_
       intro v1719 Sv1716 w a h1717 h1718 hs
       subst h1718
       have hw := hw.callB h1717
       refine st_val hs (y_not rfl) ⟨_, rfl, rfl⟩ rfl rfl fun a hs => ?_
       refine sv hs (y_pickT rfl rfl) rfl fun a hs => ?_
       refine wpList_nil ?_
       have hsh := oi hsh
       subst hsh
       refine then_normal ?_
       exact ⟨Sv1622, (hs.wk rfl), (hw.ft [1, 2, 3] [2, 3, 4, 5] (by decide) rfl rfl)⟩
      have hs := hs.fix 54 (.bool false) rfl (vb h1711)
      have hsh := ite_f hc1712 h1711
      refine st_skip hs rfl rfl rfl rfl rfl fun a hs => ?_
      refine st_skip hs rfl rfl rfl rfl rfl fun a hs => ?_
      refine st_skip hs rfl rfl rfl rfl rfl fun a hs => ?_
      refine st_skip hs rfl rfl rfl rfl rfl fun a hs => ?_
      refine sv hs (y_pickF rfl rfl) rfl fun a hs => ?_
      refine wpList_nil ?_
      have hsh := oi hsh
      subst hsh
      refine then_normal ?_
      exact ⟨Sv1622, (hs.wk rfl), (hw.ft [1, 2, 3] [2, 3, 4, 5] (by decide) rfl rfl)⟩
     rintro a w ⟨Sv1713, hs, hw⟩
     refine av hs rfl rfl fun a hs => ?_
     refine wpList_nil ?_
     refine blk_normal ?_
     refine then_normal ?_
     refine wp_region_lit ?_
     refine sv hs (y_add rfl rfl) rfl fun a hs => ?_
     refine mv hs rfl rfl fun a hs => ?_
     refine nl ?_
     exact ⟨_, (Option.some.inj hsh).symm, Sv1713, (hs.wk rfl), (hw.ft [0, 1, 2] [0, 1, 2, 3] (by decide) rfl rfl)⟩
    have hsh := ite_f hsh h1660
    refine wp_exit ?_
    refine then_exit ?_
    refine then_exit ?_
    refine blk_exit ?_
    have hsh := oi hsh
    subst hsh
    have h1721 := hd1654 _ rfl
    subst h1721
    refine then_normal ?_
    exact ⟨Sv1622, (hs.wk rfl), (hw.ft [0, 1, 2] [0, 1, 2, 3] (by decide) rfl rfl)⟩
   rintro a w ⟨Sv1658, hs, hw⟩
   refine then_normal ?_
   refine wp_seq ?_
   refine sr ?_
   refine mv hs rfl rfl fun a hs => ?_
   refine sv hs (y_not rfl) rfl fun a hs => ?_
   refine nl ?_
   refine wp_cond_split (hs.ev rfl) (fun h1723 => ?_) (fun h1723 => ?_)
   ·have hsh := ite_t hsh h1723
    refine wp_exit ?_
    refine then_exit ?_
    refine blk_exit ?_
    refine then_normal ?_
    exact ⟨Sv1658, hsh, (hs.wk rfl), (hw.ft [0, 2] [0, 1, 3] (by decide) rfl rfl)⟩
   have hsh := ite_f hsh h1723
   refine wp_skip ?_
   refine then_normal ?_
   refine sr ?_
   refine sv hs (y_fieldAddr (o' := 11) Tryz.runUnderlying35 rfl Tryz.sizeOf22 rfl rfl rfl) rfl fun a hs => ?_
   refine sv hs (y_loadB1 (hw.ownAt 1 rfl) rfl Tryz.isAgg22 rfl) rfl fun a hs => ?_
   refine sv hs (y_len Tryz.runUnderlying22 rfl) rfl fun a hs => ?_
   refine mv hs rfl rfl fun a hs => ?_
   refine nl ?_
   refine wp_block ?_
   refine wp_while (fun sv1822 a w => ∃ (Sv1886 : Nat → Prop), Sl 140 [(3, .pointer (some ⟨b30, 0, none⟩)), (4, .slice (some ⟨b1558, o1559, none⟩) rv40.1.length k42), (5, .slice p55 rv54.1.length k56), (8, .pointer (some ⟨b1567, 0, none⟩)), (41, .slice (some ⟨b1558, o1559, none⟩) rv40.1.length k42), (42, .int .i64 (rv40.1.length : Int)), (43, .int .i64 sv702), (64, .slice p1563 x1552.Samples.length k1565), (65, .int .i64 (x1552.Samples.length : Int)), (66, .int .i64 sv1822)] a ∧ Wd ⟨w0, S0, []⟩ Sv1886 [.box b30 [.slice p45 rv40.2.L.length k46, .int .i64 rv40.2.At] 75, .box b1567 [.string x1552.Source.Network, .string x1552.Source.Station, .string x1552.Source.Location, .string x1552.Source.Channel, .int .i64 x1552.Start, .int .i64 x1552.First, .int .i64 x1552.Rate.Num, .int .i64 x1552.Rate.Den, .int .i64 x1552.Error, .int .i64 x1552.Run, .int .i64 x1552.Seq, .slice p1563 x1552.Samples.length k1565] 35, .row p55 rv54.1.length k56 c58 35 12] [SlA (some ⟨b1558, o1559, none⟩) rv40.1.length k42 rv40.1, SlA p1563 x1552.Samples.length k1565 x1552.Samples, SlA p45 rv40.2.L.length k46 rv40.2.L, RowA c58 rv54.1] w) 0 hsh ⟨Sv1658, (hs.wk rfl), (hw.ft [0, 1, 2] [0, 2, 1, 3] (by decide) rfl rfl)⟩ ?_
   repeat clear hsh
   rintro sv1822 a w tv1919 ⟨Sv1886, hs, hw⟩ hsh hd1918
   delta law15_ComposeBest_l19 at hsh
   refine sr ?_
   refine sv hs (y_lss rfl rfl) rfl fun a hs => ?_
   refine nl ?_
   refine wp_seq ?_
   refine wp_cond_split (hs.ev rfl) (fun h1923 => ?_) (fun h1923 => ?_)
   ·have hsh := ite_t hsh h1923
    refine wp_skip ?_
    refine then_normal ?_
    refine wp_seq ?_
    refine wp_block ?_
    refine sr ?_
    refine mv hs rfl rfl fun a hs => ?_
    obtain ⟨x1956, h1954, hsh⟩ := bind_t hsh
    obtain ⟨b1962, o1963, q1960, c1961, h1964, h1957, h1958, h1959, h1955⟩ := hw.elemV 1 rfl h1954
    have hsv1965 := hs
    have hwv1966 := hw
    subst h1964
    have hs := hsv1965
    have hw := hwv1966
    obtain ⟨_, rfl, rfl⟩ := h1955
    have hw := hw.addE h1959
    refine sv hs (y_indexAt Tryz.runUnderlying22 Tryz.sizeOf3 rfl rfl h1957.1 h1957.2 h1958) rfl fun a hs => ?_
    refine sv hs (y_loadE1 (j := 0) (hw.ceAt 0 rfl) rfl Tryz.isAgg3 rfl) rfl fun a hs => ?_
    refine av hs rfl rfl fun a hs => ?_
    refine av hs rfl rfl fun a hs => ?_
    refine nl ?_
    refine sr ?_
    refine sv hs (y_loadBA (hw.ownAt 1 rfl) rfl Tryz.isAgg35 Tryz.sizeOf35 rfl rfl) rfl fun a hs => ?_
    refine mv hs rfl rfl fun a hs => ?_
    obtain ⟨rv1968, h1967, hsh⟩ := bind_t hsh
    refine st_callR hs (ref14_At_ok h1967 hw.bdom (hw.bE 2 rfl)) (do_call Tryz.call23 rfl) trivial rfl rfl ?_
    intro v1972 Sv1969 w a h1970 h1971 hs
    subst h1971
    have hw := hw.callB h1970
    refine mv hs rfl rfl fun a hs => ?_
    refine sv hs (y_extract rfl rfl) rfl fun a hs => ?_
    refine sv hs (y_extract rfl rfl) rfl fun a hs => ?_
    refine av hs rfl rfl fun a hs => ?_
    refine av hs rfl rfl fun a hs => ?_
    refine nl ?_
    refine sr ?_
    refine mv hs rfl rfl fun a hs => ?_
    refine mv hs rfl rfl fun a hs => ?_
    obtain ⟨rv1975, h1974, hsh⟩ := bind_t hsh
    refine st_callR hs (compose_Value_ok h1974 hw.bdom (hw.bE 1 rfl)) (do_call Tryz.call24 rfl) trivial rfl rfl ?_
    intro v1979 Sv1976 w a h1977 h1978 hs
    subst h1978
    have hw := hw.callB h1977
    refine mv hs rfl rfl fun a hs => ?_
    refine sv hs (y_extract rfl rfl) rfl fun a hs => ?_
    refine sv hs (y_extract rfl rfl) rfl fun a hs => ?_
    refine av hs rfl rfl fun a hs => ?_
    refine av hs rfl rfl fun a hs => ?_
    refine nl ?_
    refine sr ?_
    refine mv hs rfl rfl fun a hs => ?_
    refine sv hs (y_not rfl) rfl fun a hs => ?_
    refine mv hs rfl rfl fun a hs => ?_
    refine wpl_join 4 (fun a w1 => w = w1 ∧ Sl 140 [(3, .pointer (some ⟨b30, 0, none⟩)), (4, .slice (some ⟨b1558, o1559, none⟩) rv40.1.length k42), (5, .slice p55 rv54.1.length k56), (8, .pointer (some ⟨b1567, 0, none⟩)), (41, .slice (some ⟨b1558, o1559, none⟩) rv40.1.length k42), (42, .int .i64 (rv40.1.length : Int)), (43, .int .i64 sv702), (64, .slice (some ⟨b1962, o1963, none⟩) x1552.Samples.length k1565), (65, .int .i64 (x1552.Samples.length : Int)), (66, .int .i64 sv1822), (89, .bool ((!rv1975.2) || (rv1975.1 != x1956)))] a) ?_ ?_
    ·rcases Bool.eq_false_or_eq_true (!rv1975.2) with h1981 | h1981
     ·have hs := hs.fix 85 (.bool true) rfl (vb h1981)
      refine st_skip hs rfl rfl rfl rfl rfl fun a hs => ?_
      refine st_skip hs rfl rfl rfl rfl rfl fun a hs => ?_
      refine st_skip hs rfl rfl rfl rfl rfl fun a hs => ?_
      refine sv hs (y_pickT rfl rfl) rfl fun a hs => ?_
      refine nl ?_
      exact ⟨rfl, (hs.fix 89 (.bool ((!rv1975.2) || (rv1975.1 != x1956))) rfl (or_t h1981)).weaken _ ⟨rfl, rfl, rfl, rfl, rfl, rfl, rfl, rfl, rfl, rfl, rfl, trivial⟩⟩
     have hs := hs.fix 85 (.bool false) rfl (vb h1981)
     refine st_val hs (y_move rfl) ⟨_, rfl, rfl⟩ rfl rfl fun a hs => ?_
     refine st_val hs (y_move rfl) ⟨_, rfl, rfl⟩ rfl rfl fun a hs => ?_
     refine st_val hs (y_neq rfl rfl) ⟨_, rfl, rfl⟩ rfl rfl fun a hs => ?_
     refine sv hs (y_pickF rfl rfl) rfl fun a hs => ?_
     refine nl ?_
     exact ⟨rfl, (hs.fix 89 (.bool ((!rv1975.2) || (rv1975.1 != x1956))) rfl (or_f h1981)).weaken _ ⟨rfl, rfl, rfl, rfl, rfl, rfl, rfl, rfl, rfl, rfl, rfl, trivial⟩⟩
    rintro a w1 ⟨h1986, hs⟩
    subst h1986
    refine nl ?_
    refine wp_cond_split (hs.ev rfl) (fun h1983 => ?_) (fun h1983 => ?_)
    ·have hsh := ite_t hsh h1983
     refine sr ?_
     refine av hs rfl rfl fun a hs => ?_
     refine nl ?_
     have hsh := oi hsh
     subst hsh
     have h1984 := hd1918 _ rfl
     subst h1984
     have h1985 := hd1335 _ rfl
     subst h1985
     refine wp_ret ?_
     refine blk_ret ?_
     refine then_ret ?_
     refine then_ret ?_
     refine blk_ret ?_
     refine blk_ret ?_
     refine then_ret ?_
     refine then_ret ?_
     refine then_ret ?_
     refine blk_ret ?_
     refine then_ret ?_
     exact ret1 hs rfl (rv_tmp rfl) (hw.ret rfl)
    have hsh := ite_f hsh h1983
    refine wp_skip ?_
    refine blk_normal ?_
    refine then_normal ?_
    refine wp_region_lit ?_
    refine sv hs (y_add rfl rfl) rfl fun a hs => ?_
    refine mv hs rfl rfl fun a hs => ?_
    refine nl ?_
    exact ⟨_, (Option.some.inj hsh).symm, Sv1886, (hs.wk rfl), (hw.ft [0, 1, 2] [1, 2, 3, 4] (by decide) rfl rfl)⟩
   have hsh := ite_f hsh h1923
   obtain ⟨rv1987, hsh, h1988⟩ := map_t hsh
   have h1988 := (hd1918 _ h1988.symm).symm
   subst h1988
   refine wp_exit ?_
   refine then_exit ?_
   refine then_exit ?_
   refine blk_exit ?_
   refine blk_normal ?_
   refine then_normal ?_
   exact ⟨Sv1886, hsh, (hs.wk rfl), (hw.ft [0, 2] [0, 2, 3] (by decide) rfl rfl)⟩
  rintro a w ⟨Sv1549, hsh, hs, hw⟩
  delta law15_ComposeBest_j1 at hsh
  refine then_normal ?_
  refine wp_region_lit ?_
  refine sv hs (y_add rfl rfl) rfl fun a hs => ?_
  refine mv hs rfl rfl fun a hs => ?_
  refine nl ?_
  exact ⟨_, (Option.some.inj hsh).symm, Sv1549, (hs.wk rfl), (hw.ft [0, 1] [0, 1, 2] (by decide) rfl rfl)⟩
 have hsh := ite_f hsh h1340
 obtain ⟨rv2098, hsh, h2099⟩ := map_t hsh
 have h2099 := (hd1335 _ h2099.symm).symm
 subst h2099
 refine wp_exit ?_
 refine then_exit ?_
 refine then_exit ?_
 refine blk_exit ?_
 refine then_normal ?_
 refine sr ?_
 refine mv hs rfl rfl fun a hs => ?_
 obtain ⟨rv1991, h1990, hsh⟩ := bind_t hsh
 refine st_callR hs (made_Dice_Grid_ok h1990 hw.dom (hw.ins [0] (by decide) rfl) (hw.envAt 1 rfl)) (do_call Tryz.call30 rfl) trivial rfl rfl ?_
 intro v2005 Sv2002 w a h2003 h2004 hs
 obtain ⟨p1992, k1993, p1995, k1996, c1998, p1999, k2000, rfl, h2006, h1994, h1997, h2001⟩ := h2004
 have hw := hw.callO [0] [1] (by decide) rfl h2003 h2006
 have hw := hw.addE (e := SlA p1992 rv1991.1.Samples.length k1993 rv1991.1.Samples) h1994
 have hw := hw.addE (e := RowA c1998 rv1991.2.1) h1997
 have hw := hw.addE (e := SlA p1999 rv1991.2.2.L.length k2000 rv1991.2.2.L) h2001
 refine mv hs rfl rfl fun a hs => ?_
 refine sv hs (y_extract rfl rfl) rfl fun a hs => ?_
 refine sv hs (y_extract rfl rfl) rfl fun a hs => ?_
 refine w_alloc (cs := [.string ByteArray.empty, .string ByteArray.empty, .string ByteArray.empty, .string ByteArray.empty, .int .i64 0, .int .i64 0, .int .i64 0, .int .i64 0, .int .i64 0, .int .i64 0, .int .i64 0, .slice none ([] : List Int).length 0]) hs hw Tryz.zeroValue35 rfl rfl trivial ?_
 intro b2007 a w hs hw
 refine w_store (m := 12) (cs' := [.string rv1991.1.Source.Network, .string rv1991.1.Source.Station, .string rv1991.1.Source.Location, .string rv1991.1.Source.Channel, .int .i64 rv1991.1.Start, .int .i64 rv1991.1.First, .int .i64 rv1991.1.Rate.Num, .int .i64 rv1991.1.Rate.Den, .int .i64 rv1991.1.Error, .int .i64 rv1991.1.Run, .int .i64 rv1991.1.Seq, .slice p1992 rv1991.1.Samples.length k1993]) hs hw 0 rfl rfl rfl Tryz.sizeOf35 rfl rfl rfl rfl trivial ?_
 intro a w hs hw
 refine av hs rfl rfl fun a hs => ?_
 refine nl ?_
 refine sr ?_
 refine mv hs rfl rfl fun a hs => ?_
 obtain ⟨rv2009, h2008, hsh⟩ := bind_t hsh
 obtain ⟨Sv2014, hw⟩ := w_share (α := Record) hw 1 rfl 1 rfl
 refine st_callR hs (compose_Compose_ok h2008 hw.dom (hw.envAt 0 rfl)) (do_call Tryz.call17 rfl) trivial rfl rfl ?_
 intro v2018 Sv2015 w a h2016 h2017 hs
 obtain ⟨p2010, k2011, c2013, rfl, h2019, h2012⟩ := h2017
 have hw := hw.callN h2016 h2019
 have hw := hw.addE (e := RowA c2013 rv2009.1) h2012
 refine mv hs rfl rfl fun a hs => ?_
 refine sv hs (y_extract rfl rfl) rfl fun a hs => ?_
 refine sv hs (y_extract rfl rfl) rfl fun a hs => ?_
 refine av hs rfl rfl fun a hs => ?_
 refine av hs rfl rfl fun a hs => ?_
 refine nl ?_
 refine sr ?_
 refine mv hs rfl rfl fun a hs => ?_
 obtain ⟨rv2021, h2020, hsh⟩ := bind_t hsh
 refine st_callR hs (compose_Covered_ok h2020 hw.dom (hw.envAt 1 rfl)) (do_call Tryz.call31 rfl) trivial rfl rfl ?_
 intro v2029 Sv2026 w a h2027 h2028 hs
 obtain ⟨p2022, k2023, c2025, rfl, h2030, h2024⟩ := h2028
 have hw := hw.callN h2027 h2030
 have hw := hw.addE (e := RowA c2025 rv2021.1) h2024
 refine mv hs rfl rfl fun a hs => ?_
 refine sv hs (y_extract rfl rfl) rfl fun a hs => ?_
 refine sv hs (y_extract rfl rfl) rfl fun a hs => ?_
 refine av hs rfl rfl fun a hs => ?_
 refine av hs rfl rfl fun a hs => ?_
 refine nl ?_
 refine sr ?_
 refine sv hs (y_loadBA (hw.ownAt 2 rfl) rfl Tryz.isAgg35 Tryz.sizeOf35 rfl rfl) rfl fun a hs => ?_
 obtain ⟨rv2032, h2031, hsh⟩ := bind_t hsh
 refine st_callR hs (ref14_Span_ok h2031 hw.bdom (hw.bE 5 rfl)) (do_call Tryz.call22 rfl) trivial rfl rfl ?_
 intro v2036 Sv2033 w a h2034 h2035 hs
 subst h2035
 have hw := hw.callB h2034
 refine mv hs rfl rfl fun a hs => ?_
 refine sv hs (y_extract rfl rfl) rfl fun a hs => ?_
 refine sv hs (y_extract rfl rfl) rfl fun a hs => ?_
 refine w_alloc (cs := [.int .i64 0, .int .i64 0]) hs hw Tryz.zeroValue45 rfl rfl trivial ?_
 intro b2038 a w hs hw
 refine w_store (m := 2) (cs' := [.int .i64 rv2032.1.From, .int .i64 rv2032.1.To]) hs hw 0 rfl rfl rfl Tryz.sizeOf45 rfl rfl rfl rfl trivial ?_
 intro a w hs hw
 refine av hs rfl rfl fun a hs => ?_
 refine nl ?_
 refine sr ?_
 refine mv hs rfl rfl fun a hs => ?_
 refine sv hs (y_eql rfl rfl) rfl fun a hs => ?_
 refine mv hs rfl rfl fun a hs => ?_
 refine wpl_join 3 (fun a w1 => w = w1 ∧ Sl 140 [(4, .slice p41 rv40.1.length k42), (5, .slice p55 rv54.1.length k56), (19, .slice p1995 rv1991.2.1.length k1996), (20, .slice p2010 rv2009.1.length k2011), (22, .slice p2022 rv2021.1.length k2023), (24, .pointer (some ⟨b2038, 0, none⟩)), (117, .bool ((rv2009.2 == 0) && (rv2021.2 == 0)))] a) ?_ ?_
 ·rcases Bool.eq_false_or_eq_true (rv2009.2 == 0) with h2039 | h2039
  ·have hs := hs.fix 114 (.bool true) rfl (vb h2039)
   refine st_val hs (y_move rfl) ⟨_, rfl, rfl⟩ rfl rfl fun a hs => ?_
   refine st_val hs (y_eql rfl rfl) ⟨_, rfl, rfl⟩ rfl rfl fun a hs => ?_
   refine sv hs (y_pickT rfl rfl) rfl fun a hs => ?_
   refine nl ?_
   exact ⟨rfl, (hs.fix 117 (.bool ((rv2009.2 == 0) && (rv2021.2 == 0))) rfl (and_t h2039)).weaken _ ⟨rfl, rfl, rfl, rfl, rfl, rfl, rfl, trivial⟩⟩
  have hs := hs.fix 114 (.bool false) rfl (vb h2039)
  refine st_skip hs rfl rfl rfl rfl rfl fun a hs => ?_
  refine st_skip hs rfl rfl rfl rfl rfl fun a hs => ?_
  refine sv hs (y_pickF rfl rfl) rfl fun a hs => ?_
  refine nl ?_
  exact ⟨rfl, (hs.fix 117 (.bool ((rv2009.2 == 0) && (rv2021.2 == 0))) rfl (and_f h2039)).weaken _ ⟨rfl, rfl, rfl, rfl, rfl, rfl, rfl, trivial⟩⟩
 rintro a w1 ⟨h2097, hs⟩
 subst h2097
 refine mv hs rfl rfl fun a hs => ?_
 obtain ⟨c2048, hc2048, hsh⟩ := bind_t hsh
 refine wpl_join 4 (fun a w => ∃ (Sv2049 : Nat → Prop), Sl 140 [(4, .slice p41 rv40.1.length k42), (5, .slice p55 rv54.1.length k56), (22, .slice p2022 rv2021.1.length k2023), (24, .pointer (some ⟨b2038, 0, none⟩)), (122, .bool c2048)] a ∧ Wd ⟨w0, S0, []⟩ Sv2049 [.box b2038 [.int .i64 rv2032.1.From, .int .i64 rv2032.1.To] 45, .row p55 rv54.1.length k56 c58 35 12, .row p2022 rv2021.1.length k2023 c2025 45 2] [SlA p41 rv40.1.length k42 rv40.1, RowA c58 rv54.1, RowA c2025 rv2021.1] w) ?_ ?_
 ·rcases Bool.eq_false_or_eq_true ((rv2009.2 == 0) && (rv2021.2 == 0)) with h2047 | h2047
  ·have hs := hs.fix 118 (.bool true) rfl (vb h2047)
   have hsh := ite_t hc2048 h2047
   refine st_val hs (y_move rfl) ⟨_, rfl, rfl⟩ rfl rfl fun a hs => ?_
   refine st_val hs (y_move rfl) ⟨_, rfl, rfl⟩ rfl rfl fun a hs => ?_
   obtain ⟨rv2051, h2050, hsh⟩ := bind_t hsh
   refine st_callR hs (ref14_SameList_ok h2050 hw.bdom (hw.bRow 2 rfl 1 rfl) (hw.bE 2 rfl)) (do_call Tryz.call18 rfl) ⟨_, rfl, rfl⟩ rfl rfl ?_
   intro v2055 Sv2052 w a h2053 h2054 hs
   subst h2054
   have hw := hw.callB h2053
   refine sv hs (y_pickT rfl rfl) rfl fun a hs => ?_
   refine wpList_nil ?_
   have hsh := oi hsh
   subst hsh
   refine then_normal ?_
   exact ⟨Sv2026, (hs.wk rfl), (hw.ft [0, 5, 1] [6, 8, 0] (by decide) rfl rfl)⟩
  have hs := hs.fix 118 (.bool false) rfl (vb h2047)
  have hsh := ite_f hc2048 h2047
  refine st_skip hs rfl rfl rfl rfl rfl fun a hs => ?_
  refine st_skip hs rfl rfl rfl rfl rfl fun a hs => ?_
  refine st_skip hs rfl rfl rfl rfl rfl fun a hs => ?_
  refine sv hs (y_pickF rfl rfl) rfl fun a hs => ?_
  refine wpList_nil ?_
  have hsh := oi hsh
  subst hsh
  refine then_normal ?_
  exact ⟨Sv2026, (hs.wk rfl), (hw.ft [0, 5, 1] [6, 8, 0] (by decide) rfl rfl)⟩
 rintro a w ⟨Sv2049, hs, hw⟩
 refine mv hs rfl rfl fun a hs => ?_
 obtain ⟨c2067, hc2067, hsh⟩ := bind_t hsh
 refine wpl_join 5 (fun a w => ∃ (Sv2068 : Nat → Prop), Sl 140 [(4, .slice p41 rv40.1.length k42), (5, .slice p55 rv54.1.length k56), (128, .bool c2067)] a ∧ Wd ⟨w0, S0, []⟩ Sv2068 [.row p55 rv54.1.length k56 c58 35 12] [SlA p41 rv40.1.length k42 rv40.1, RowA c58 rv54.1] w) ?_ ?_
 ·rcases Bool.eq_false_or_eq_true c2048 with h2066 | h2066
  ·have hs := hs.fix 123 (.bool true) rfl (vb h2066)
   have hsh := ite_t hc2067 h2066
   refine st_val hs (y_move rfl) ⟨_, rfl, rfl⟩ rfl rfl fun a hs => ?_
   refine st_val hs (y_loadBA (hw.ownAt 0 rfl) rfl Tryz.isAgg45 Tryz.sizeOf45 rfl rfl) ⟨_, rfl, rfl⟩ rfl rfl fun a hs => ?_
   refine w_litSlice (α := Span) (vs := [.agg #[.int .i64 rv2032.1.From, .int .i64 rv2032.1.To]]) (cs := [.int .i64 rv2032.1.From, .int .i64 rv2032.1.To]) (xs := ([rv2032.1] : List Span)) hs hw El52 rfl rfl rfl rfl rfl rfl ⟨⟨_, _, rfl, rfl, rfl⟩, rfl⟩ rfl ⟨_, rfl, rfl⟩ rfl fun b2070 a w hs hw => ?_
   obtain ⟨rv2072, h2071, hsh⟩ := bind_t hsh
   refine st_callR hs (ref08_Same_ok h2071 hw.bdom (hw.bRow 3 rfl 3 rfl) (hw.bRow 0 rfl 0 rfl)) (do_call Tryz.call32 rfl) ⟨_, rfl, rfl⟩ rfl rfl ?_
   intro v2076 Sv2073 w a h2074 h2075 hs
   subst h2075
   have hw := hw.callB h2074
   refine sv hs (y_pickT rfl rfl) rfl fun a hs => ?_
   refine wpList_nil ?_
   have hsh := oi hsh
   subst hsh
   refine then_normal ?_
   exact ⟨Sv2049, (hs.wk rfl), (hw.ft [2] [1, 2] (by decide) rfl rfl)⟩
  have hs := hs.fix 123 (.bool false) rfl (vb h2066)
  have hsh := ite_f hc2067 h2066
  refine st_skip hs rfl rfl rfl rfl rfl fun a hs => ?_
  refine st_skip hs rfl rfl rfl rfl rfl fun a hs => ?_
  refine st_skip hs rfl rfl rfl rfl rfl fun a hs => ?_
  refine st_skip hs rfl rfl rfl rfl rfl fun a hs => ?_
  refine sv hs (y_pickF rfl rfl) rfl fun a hs => ?_
  refine wpList_nil ?_
  have hsh := oi hsh
  subst hsh
  refine then_normal ?_
  exact ⟨Sv2049, (hs.wk rfl), (hw.ft [1] [0, 1] (by decide) rfl rfl)⟩
 rintro a w ⟨Sv2068, hs, hw⟩
 refine mv hs rfl rfl fun a hs => ?_
 refine wpl_join 7 (fun a w1 => w = w1 ∧ Sl 140 [(136, .bool (c2067 && (decide ((min (rv40.1.length : Int) 1) ≤ (rv54.1.length : Int)))))] a) ?_ ?_
 ·rcases Bool.eq_false_or_eq_true c2067 with h2078 | h2078
  ·have hs := hs.fix 129 (.bool true) rfl (vb h2078)
   refine st_val hs (y_move rfl) ⟨_, rfl, rfl⟩ rfl rfl fun a hs => ?_
   refine st_val hs (y_len Tryz.runUnderlying27 rfl) ⟨_, rfl, rfl⟩ rfl rfl fun a hs => ?_
   refine st_val hs (y_move rfl) ⟨_, rfl, rfl⟩ rfl rfl fun a hs => ?_
   refine st_val hs (y_len Tryz.runUnderlying27 rfl) ⟨_, rfl, rfl⟩ rfl rfl fun a hs => ?_
   refine st_val hs (y_min rfl rfl) ⟨_, rfl, rfl⟩ rfl rfl fun a hs => ?_
   refine st_val hs (y_geq rfl rfl) ⟨_, rfl, rfl⟩ rfl rfl fun a hs => ?_
   refine sv hs (y_pickT rfl rfl) rfl fun a hs => ?_
   refine nl ?_
   exact ⟨rfl, (hs.fix 136 (.bool (c2067 && (decide ((min (rv40.1.length : Int) 1) ≤ (rv54.1.length : Int))))) rfl (and_t h2078)).weaken _ ⟨rfl, trivial⟩⟩
  have hs := hs.fix 129 (.bool false) rfl (vb h2078)
  refine st_skip hs rfl rfl rfl rfl rfl fun a hs => ?_
  refine st_skip hs rfl rfl rfl rfl rfl fun a hs => ?_
  refine st_skip hs rfl rfl rfl rfl rfl fun a hs => ?_
  refine st_skip hs rfl rfl rfl rfl rfl fun a hs => ?_
  refine st_skip hs rfl rfl rfl rfl rfl fun a hs => ?_
  refine st_skip hs rfl rfl rfl rfl rfl fun a hs => ?_
  refine sv hs (y_pickF rfl rfl) rfl fun a hs => ?_
  refine nl ?_
  exact ⟨rfl, (hs.fix 136 (.bool (c2067 && (decide ((min (rv40.1.length : Int) 1) ≤ (rv54.1.length : Int))))) rfl (and_f h2078)).weaken _ ⟨rfl, trivial⟩⟩
 rintro a w1 ⟨h2096, hs⟩
 subst h2096
 refine mv hs rfl rfl fun a hs => ?_
 obtain ⟨c2087, hc2087, hsh⟩ := bind_t hsh
 refine wpl_join 2 (fun a w => ∃ (Sv2088 : Nat → Prop), Sl 140 [(139, .bool c2087)] a ∧ Wd ⟨w0, S0, []⟩ Sv2088 [] [] w) ?_ ?_
 ·rcases Bool.eq_false_or_eq_true (c2067 && (decide ((min (rv40.1.length : Int) 1) ≤ (rv54.1.length : Int)))) with h2086 | h2086
  ·have hs := hs.fix 137 (.bool true) rfl (vb h2086)
   have hsh := ite_t hc2087 h2086
   obtain ⟨rv2090, h2089, hsh⟩ := bind_t hsh
   refine st_callR hs (law15_sane_ok h2089 hw.bdom) (do_call Tryz.call12 rfl) ⟨_, rfl, rfl⟩ rfl rfl ?_
   intro v2094 Sv2091 w a h2092 h2093 hs
   subst h2093
   have hw := hw.callB h2092
   refine sv hs (y_pickT rfl rfl) rfl fun a hs => ?_
   refine wpList_nil ?_
   have hsh := oi hsh
   subst hsh
   refine then_normal ?_
   exact ⟨Sv2068, (hs.wk rfl), (hw.ft [] [] (by decide) rfl rfl)⟩
  have hs := hs.fix 137 (.bool false) rfl (vb h2086)
  have hsh := ite_f hc2087 h2086
  refine st_skip hs rfl rfl rfl rfl rfl fun a hs => ?_
  refine sv hs (y_pickF rfl rfl) rfl fun a hs => ?_
  refine wpList_nil ?_
  have hsh := oi hsh
  subst hsh
  refine then_normal ?_
  exact ⟨Sv2068, (hs.wk rfl), (hw.ft [] [] (by decide) rfl rfl)⟩
 rintro a w ⟨Sv2088, hs, hw⟩
 refine av hs rfl rfl fun a hs => ?_
 refine nl ?_
 have hsh := oi hsh
 subst hsh
 refine wp_ret ?_
 exact ret1 hs rfl (rv_tmp rfl) (hw.ret rfl)

end Go.Proofs.YthdimlepjpnncaaGreat.Wk

/- The walks of PickerExact, part 2: each Go function computes what its plain program computes. Printed by a program of ours. -/
import Derived.Test.YtmlekplbmfengaaGreatProg
import Derived.Test.YtmlekplbmfengaaGreatDat
import Derived.Test.YtmlekplbmfengaaGreatSh
import Derived.Test.YtmlekplbmfengaaGreatLibL
import Derived.Test.YtmlekplbmfengaaGreatLibZ
import Derived.Test.YtmlekplbmfengaaGreatLibQ
import Derived.KernelRfl
import Derived.Test.YtmlekplbmfengaaGreatLibU
import Derived.Shelf.SlLaysF0
import Derived.Test.YtmlekplbmfengaaGreatWPickerExact1
namespace Go.Proofs.YtmlekplbmfengaaGreat.Wk
open Go Go.RowKit Go.Proofs Go.Proofs.YtmlekplbmfengaaGreat.Sh
set_option linter.unusedVariables false
set_option linter.unusedSimpArgs false
abbrev detector_window_look_rd (w0 : World) (X : List Nat) (b2 : Nat) (r : Detector_window) : (Nat → Prop) → World → Value → Prop := fun S w v => ∃ (pq0_4 : Option Addr) (kq0_4 : Nat) (cq0_4 : List Value) (pq0_11 : Option Addr) (kq0_11 : Nat) (cq0_11 : List Value), v = .tuple #[] ∧ Outs X w0 S w [.box b2 [.int .i64 r.Watch.Detector.Short, .int .i64 r.Watch.Detector.Long, .int .i64 r.Watch.Detector.On, .int .i64 r.Watch.Detector.Off, .slice pq0_4 r.Watch.Past.length kq0_4, .int .i64 r.Watch.Count, .int .i64 r.Watch.Open.On, .int .i64 r.Watch.Open.Off, .int .i64 r.Watch.Open.Peak, .int .i64 r.short_, .int .i64 r.long_, .slice pq0_11 r.ended_.length kq0_11] 112, .rowo pq0_4 r.Watch.Past.length kq0_4 cq0_4 3 1, .row pq0_11 r.ended_.length kq0_11 cq0_11 28 3] ∧ (RowA cq0_4 r.Watch.Past).p S w ∧ (RowA cq0_11 r.ended_).p S w
set_option maxHeartbeats 4000000 in
set_option maxRecDepth 100000 in
theorem detector_window_look_ok {w0 : World} {S0 : Nat → Prop} {b2 : Nat} {p3 : Option Addr} {k4 : Nat} {c5 : List Value} {p6 : Option Addr} {k7 : Nat} {c8 : List Value} {wv1 : Detector_window} {x11 : Int} {r : Detector_window} (hsh : detector_window_look wv1 x11 = some r) (hS : ∀ b, S0 b → b < w0.heap.size) (hin : Ins S0 w0 [.box b2 [.int .i64 wv1.Watch.Detector.Short, .int .i64 wv1.Watch.Detector.Long, .int .i64 wv1.Watch.Detector.On, .int .i64 wv1.Watch.Detector.Off, .slice p3 wv1.Watch.Past.length k4, .int .i64 wv1.Watch.Count, .int .i64 wv1.Watch.Open.On, .int .i64 wv1.Watch.Open.Off, .int .i64 wv1.Watch.Open.Peak, .int .i64 wv1.short_, .int .i64 wv1.long_, .slice p6 wv1.ended_.length k7] 112, .rowo p3 wv1.Watch.Past.length k4 c5 3 1, .row p6 wv1.ended_.length k7 c8 28 3]) (h9 : (RowA c5 wv1.Watch.Past).p S0 w0) (h10 : (RowA c8 wv1.ended_).p S0 w0) : Calls Tryz.prog 72 #[.pointer (some ⟨b2, 0, none⟩), .int .i64 x11] w0 (Ret (blks [.box b2 [.int .i64 wv1.Watch.Detector.Short, .int .i64 wv1.Watch.Detector.Long, .int .i64 wv1.Watch.Detector.On, .int .i64 wv1.Watch.Detector.Off, .slice p3 wv1.Watch.Past.length k4, .int .i64 wv1.Watch.Count, .int .i64 wv1.Watch.Open.On, .int .i64 wv1.Watch.Open.Off, .int .i64 wv1.Watch.Open.Peak, .int .i64 wv1.short_, .int .i64 wv1.long_, .slice p6 wv1.ended_.length k7] 112, .rowo p3 wv1.Watch.Past.length k4 c5 3 1, .row p6 wv1.ended_.length k7 c8 28 3]) w0 S0 (detector_window_look_rd w0 (blks [.box b2 [.int .i64 wv1.Watch.Detector.Short, .int .i64 wv1.Watch.Detector.Long, .int .i64 wv1.Watch.Detector.On, .int .i64 wv1.Watch.Detector.Off, .slice p3 wv1.Watch.Past.length k4, .int .i64 wv1.Watch.Count, .int .i64 wv1.Watch.Open.On, .int .i64 wv1.Watch.Open.Off, .int .i64 wv1.Watch.Open.Peak, .int .i64 wv1.short_, .int .i64 wv1.long_, .slice p6 wv1.ended_.length k7] 112, .rowo p3 wv1.Watch.Past.length k4 c5 3 1, .row p6 wv1.ended_.length k7 c8 28 3]) b2 r)) := by
 refine calls_of_wp Tryz.func72 rfl ?_
 have hs := Sl.enter #[.pointer (some ⟨b2, 0, none⟩), .int .i64 x11] 227 [(0, .pointer (some ⟨b2, 0, none⟩)), (1, .int .i64 x11)] rfl ⟨rfl, rfl, trivial⟩
 have hw := Wd.enterI hS hin
 have hw := hw.addE h9
 have hw := hw.addE h10
 delta detector_window_look at hsh
 refine sr ?_
 refine mv hs rfl rfl fun a hs => ?_
 refine sv hs (y_nilCheck rfl) rfl fun a hs => ?_
 refine sv hs (y_fieldAddr (o' := 0) Tryz.runUnderlying112 rfl Tryz.sizeOf105 rfl rfl rfl) rfl fun a hs => ?_
 refine sv hs (y_fieldAddr (o' := 0) Tryz.runUnderlying105 rfl Tryz.sizeOf24 rfl rfl rfl) rfl fun a hs => ?_
 refine sv hs (y_loadBA (hw.ownAt 0 rfl) rfl Tryz.isAgg24 Tryz.sizeOf24 rfl rfl) rfl fun a hs => ?_
 refine w_alloc (cs := [.int .i64 0, .int .i64 0, .int .i64 0, .int .i64 0]) hs hw Tryz.zeroValue24 rfl rfl trivial ?_
 intro b12 a w hs hw
 refine w_store (m := 4) (cs' := [.int .i64 wv1.Watch.Detector.Short, .int .i64 wv1.Watch.Detector.Long, .int .i64 wv1.Watch.Detector.On, .int .i64 wv1.Watch.Detector.Off]) hs hw 0 rfl rfl rfl Tryz.sizeOf24 rfl rfl rfl rfl trivial ?_
 intro a w hs hw
 refine nl ?_
 refine sr ?_
 refine mv hs rfl rfl fun a hs => ?_
 obtain ⟨rv14, h13, hsh⟩ := bind_t hsh
 refine st_callR hs (detector_abs_ok h13 hw.bdom) (do_call Tryz.call83 rfl) trivial rfl rfl ?_
 intro v18 Sv15 w a h16 h17 hs
 subst h17
 have hw := hw.callB h16
 refine av hs rfl rfl fun a hs => ?_
 refine nl ?_
 refine wp_seq ?_
 refine wp_only (fun a w => ∃ (Sv20 : Nat → Prop), Sl 227 [(0, .pointer (some ⟨b2, 0, none⟩)), (1, .int .i64 rv14), (4, .pointer (some ⟨b12, 0, none⟩))] a ∧ Wd ⟨w0, S0, blks [.box b2 [.int .i64 wv1.Watch.Detector.Short, .int .i64 wv1.Watch.Detector.Long, .int .i64 wv1.Watch.Detector.On, .int .i64 wv1.Watch.Detector.Off, .slice p3 wv1.Watch.Past.length k4, .int .i64 wv1.Watch.Count, .int .i64 wv1.Watch.Open.On, .int .i64 wv1.Watch.Open.Off, .int .i64 wv1.Watch.Open.Peak, .int .i64 wv1.short_, .int .i64 wv1.long_, .slice p6 wv1.ended_.length k7] 112, .rowo p3 wv1.Watch.Past.length k4 c5 3 1, .row p6 wv1.ended_.length k7 c8 28 3]⟩ Sv20 [.box b2 [.int .i64 wv1.Watch.Detector.Short, .int .i64 wv1.Watch.Detector.Long, .int .i64 wv1.Watch.Detector.On, .int .i64 wv1.Watch.Detector.Off, .slice p3 wv1.Watch.Past.length k4, .int .i64 wv1.Watch.Count, .int .i64 wv1.Watch.Open.On, .int .i64 wv1.Watch.Open.Off, .int .i64 wv1.Watch.Open.Peak, .int .i64 (w64 (wv1.short_ + rv14)), .int .i64 (w64 (wv1.long_ + rv14)), .slice p6 wv1.ended_.length k7] 112, .box b12 [.int .i64 wv1.Watch.Detector.Short, .int .i64 wv1.Watch.Detector.Long, .int .i64 wv1.Watch.Detector.On, .int .i64 wv1.Watch.Detector.Off] 24, .rowo p3 wv1.Watch.Past.length k4 c5 3 1, .row p6 wv1.ended_.length k7 c8 28 3] [RowA c5 wv1.Watch.Past, RowA c8 wv1.ended_] w) ?_ ?_
 ·refine h_b (C := Cls [.box b12 [.int .i64 wv1.Watch.Detector.Short, .int .i64 wv1.Watch.Detector.Long, .int .i64 wv1.Watch.Detector.On, .int .i64 wv1.Watch.Detector.Off] 24, .rowo p3 wv1.Watch.Past.length k4 c5 3 1, .row p6 wv1.ended_.length k7 c8 28 3] []) (by kernel_rfl) rfl (hw.drew.cs [0, 2, 3] [] rfl rfl) fun hC => ?_
  have hw := hw.drew
  refine gm hs 0 rfl rfl rfl hC fun a hs => ?_
  refine gm hs 1 rfl rfl rfl hC fun a hs => ?_
  refine gm hs 2 rfl rfl rfl hC fun a hs => ?_
  refine gv hs 3 rfl rfl hC (fun w hC => y_nilCheck rfl) fun a hs => ?_
  refine gv hs 4 rfl rfl hC (fun w hC => y_fieldAddr (o' := 9) Tryz.runUnderlying112 rfl Tryz.sizeOf3 rfl rfl rfl) fun a hs => ?_
  refine gm hs 6 rfl rfl rfl hC fun a hs => ?_
  refine gm hs 8 rfl rfl rfl hC fun a hs => ?_
  refine gv hs 9 rfl rfl hC (fun w hC => y_nilCheck rfl) fun a hs => ?_
  refine gv hs 10 rfl rfl hC (fun w hC => y_fieldAddr (o' := 10) Tryz.runUnderlying112 rfl Tryz.sizeOf3 rfl rfl rfl) fun a hs => ?_
  refine gm hs 12 rfl rfl rfl hC fun a hs => ?_
  refine h_all (rs := [5, 11]) (by kernel_rfl) rfl ?_
  refine AllH.cons rfl ?_ ?_
  ·refine sv hs (y_loadB1 (hw.ownAt 1 rfl) rfl Tryz.isAgg3 rfl) rfl fun a hs => ?_
   refine h_nx (hw.cs [0, 2, 3] [] rfl rfl) fun hC => ?_
   refine gv hs 7 rfl rfl hC (fun w hC => y_add rfl rfl) fun a hs => ?_
   refine ho 11 rfl ?_
   refine sv hs (y_loadB1 (hw.ownAt 1 rfl) rfl Tryz.isAgg3 rfl) rfl fun a hs => ?_
   refine h_nx (hw.cs [0, 2, 3] [] rfl rfl) fun hC => ?_
   refine gv hs 13 rfl rfl hC (fun w hC => y_add rfl rfl) fun a hs => ?_
   refine gv hs 14 rfl rfl hC (fun w hC => y_nilCheck rfl) fun a hs => ?_
   refine gv hs 15 rfl rfl hC (fun w hC => y_fieldAddr (o' := 9) Tryz.runUnderlying112 rfl Tryz.sizeOf3 rfl rfl rfl) fun a hs => ?_
   refine ho 16 rfl ?_
   refine w_store (m := 1) (cs' := [.int .i64 wv1.Watch.Detector.Short, .int .i64 wv1.Watch.Detector.Long, .int .i64 wv1.Watch.Detector.On, .int .i64 wv1.Watch.Detector.Off, .slice p3 wv1.Watch.Past.length k4, .int .i64 wv1.Watch.Count, .int .i64 wv1.Watch.Open.On, .int .i64 wv1.Watch.Open.Off, .int .i64 wv1.Watch.Open.Peak, .int .i64 (w64 (wv1.short_ + rv14)), .int .i64 wv1.long_, .slice p6 wv1.ended_.length k7]) hs hw 1 rfl rfl rfl Tryz.sizeOf3 rfl rfl rfl rfl trivial ?_
   intro a w hs hw
   refine h_nx (hw.cs [0, 2, 3] [] rfl rfl) fun hC => ?_
   refine gv hs 17 rfl rfl hC (fun w hC => y_nilCheck rfl) fun a hs => ?_
   refine gv hs 18 rfl rfl hC (fun w hC => y_fieldAddr (o' := 10) Tryz.runUnderlying112 rfl Tryz.sizeOf3 rfl rfl rfl) fun a hs => ?_
   refine ho 19 rfl ?_
   refine w_store (m := 1) (cs' := [.int .i64 wv1.Watch.Detector.Short, .int .i64 wv1.Watch.Detector.Long, .int .i64 wv1.Watch.Detector.On, .int .i64 wv1.Watch.Detector.Off, .slice p3 wv1.Watch.Past.length k4, .int .i64 wv1.Watch.Count, .int .i64 wv1.Watch.Open.On, .int .i64 wv1.Watch.Open.Off, .int .i64 wv1.Watch.Open.Peak, .int .i64 (w64 (wv1.short_ + rv14)), .int .i64 (w64 (wv1.long_ + rv14)), .slice p6 wv1.ended_.length k7]) hs hw 1 rfl rfl rfl Tryz.sizeOf3 rfl rfl rfl rfl trivial ?_
   intro a w hs hw
   refine h_nx (hw.cs [0, 2, 3] [] rfl rfl) fun hC => ?_
   refine h_done (by kernel_rfl) ?_
   exact ⟨S0, (hs.wk rfl), (hw.ft [1, 0, 2, 3] [1, 0] (by decide) rfl rfl)⟩
  refine AllH.cons rfl ?_ ?_
  ·refine sv hs (y_loadB1 (hw.ownAt 1 rfl) rfl Tryz.isAgg3 rfl) rfl fun a hs => ?_
   refine h_nx (hw.cs [0, 2, 3] [] rfl rfl) fun hC => ?_
   refine gv hs 13 rfl rfl hC (fun w hC => y_add rfl rfl) fun a hs => ?_
   refine ho 5 rfl ?_
   refine sv hs (y_loadB1 (hw.ownAt 1 rfl) rfl Tryz.isAgg3 rfl) rfl fun a hs => ?_
   refine h_nx (hw.cs [0, 2, 3] [] rfl rfl) fun hC => ?_
   refine gv hs 7 rfl rfl hC (fun w hC => y_add rfl rfl) fun a hs => ?_
   refine gv hs 14 rfl rfl hC (fun w hC => y_nilCheck rfl) fun a hs => ?_
   refine gv hs 15 rfl rfl hC (fun w hC => y_fieldAddr (o' := 9) Tryz.runUnderlying112 rfl Tryz.sizeOf3 rfl rfl rfl) fun a hs => ?_
   refine ho 16 rfl ?_
   refine w_store (m := 1) (cs' := [.int .i64 wv1.Watch.Detector.Short, .int .i64 wv1.Watch.Detector.Long, .int .i64 wv1.Watch.Detector.On, .int .i64 wv1.Watch.Detector.Off, .slice p3 wv1.Watch.Past.length k4, .int .i64 wv1.Watch.Count, .int .i64 wv1.Watch.Open.On, .int .i64 wv1.Watch.Open.Off, .int .i64 wv1.Watch.Open.Peak, .int .i64 (w64 (wv1.short_ + rv14)), .int .i64 wv1.long_, .slice p6 wv1.ended_.length k7]) hs hw 1 rfl rfl rfl Tryz.sizeOf3 rfl rfl rfl rfl trivial ?_
   intro a w hs hw
   refine h_nx (hw.cs [0, 2, 3] [] rfl rfl) fun hC => ?_
   refine gv hs 17 rfl rfl hC (fun w hC => y_nilCheck rfl) fun a hs => ?_
   refine gv hs 18 rfl rfl hC (fun w hC => y_fieldAddr (o' := 10) Tryz.runUnderlying112 rfl Tryz.sizeOf3 rfl rfl rfl) fun a hs => ?_
   refine ho 19 rfl ?_
   refine w_store (m := 1) (cs' := [.int .i64 wv1.Watch.Detector.Short, .int .i64 wv1.Watch.Detector.Long, .int .i64 wv1.Watch.Detector.On, .int .i64 wv1.Watch.Detector.Off, .slice p3 wv1.Watch.Past.length k4, .int .i64 wv1.Watch.Count, .int .i64 wv1.Watch.Open.On, .int .i64 wv1.Watch.Open.Off, .int .i64 wv1.Watch.Open.Peak, .int .i64 (w64 (wv1.short_ + rv14)), .int .i64 (w64 (wv1.long_ + rv14)), .slice p6 wv1.ended_.length k7]) hs hw 1 rfl rfl rfl Tryz.sizeOf3 rfl rfl rfl rfl trivial ?_
   intro a w hs hw
   refine h_nx (hw.cs [0, 2, 3] [] rfl rfl) fun hC => ?_
   refine h_done (by kernel_rfl) ?_
   exact ⟨S0, (hs.wk rfl), (hw.ft [1, 0, 2, 3] [1, 0] (by decide) rfl rfl)⟩
  exact AllH.nil
 rintro a w ⟨Sv20, hs, hw⟩
 refine then_normal ?_
 refine wp_seq ?_
 refine sr ?_
 refine mv hs rfl rfl fun a hs => ?_
 refine sv hs (y_nilCheck rfl) rfl fun a hs => ?_
 refine sv hs (y_fieldAddr (o' := 0) Tryz.runUnderlying112 rfl Tryz.sizeOf105 rfl rfl rfl) rfl fun a hs => ?_
 refine sv hs (y_fieldAddr (o' := 5) Tryz.runUnderlying105 rfl Tryz.sizeOf3 rfl rfl rfl) rfl fun a hs => ?_
 refine sv hs (y_loadB1 (hw.ownAt 0 rfl) rfl Tryz.isAgg3 rfl) rfl fun a hs => ?_
 refine sv hs (y_add rfl rfl) rfl fun a hs => ?_
 refine sv hs (y_nilCheck rfl) rfl fun a hs => ?_
 refine sv hs (y_fieldAddr (o' := 0) Tryz.runUnderlying112 rfl Tryz.sizeOf105 rfl rfl rfl) rfl fun a hs => ?_
 refine sv hs (y_fieldAddr (o' := 5) Tryz.runUnderlying105 rfl Tryz.sizeOf3 rfl rfl rfl) rfl fun a hs => ?_
 refine w_store (m := 1) (cs' := [.int .i64 wv1.Watch.Detector.Short, .int .i64 wv1.Watch.Detector.Long, .int .i64 wv1.Watch.Detector.On, .int .i64 wv1.Watch.Detector.Off, .slice p3 wv1.Watch.Past.length k4, .int .i64 (w64 (wv1.Watch.Count + 1)), .int .i64 wv1.Watch.Open.On, .int .i64 wv1.Watch.Open.Off, .int .i64 wv1.Watch.Open.Peak, .int .i64 (w64 (wv1.short_ + rv14)), .int .i64 (w64 (wv1.long_ + rv14)), .slice p6 wv1.ended_.length k7]) hs hw 0 rfl rfl rfl Tryz.sizeOf3 rfl rfl rfl rfl trivial ?_
 intro a w hs hw
 refine nl ?_
 refine wp_seq ?_
 refine wp_only (fun a w => ∃ (Sv21 : Nat → Prop), Sl 227 [(0, .pointer (some ⟨b2, 0, none⟩)), (1, .int .i64 rv14), (4, .pointer (some ⟨b12, 0, none⟩)), (47, .bool (decide (wv1.Watch.Detector.Long ≤ (w64 (wv1.Watch.Count + 1)))))] a ∧ Wd ⟨w0, S0, blks [.box b2 [.int .i64 wv1.Watch.Detector.Short, .int .i64 wv1.Watch.Detector.Long, .int .i64 wv1.Watch.Detector.On, .int .i64 wv1.Watch.Detector.Off, .slice p3 wv1.Watch.Past.length k4, .int .i64 wv1.Watch.Count, .int .i64 wv1.Watch.Open.On, .int .i64 wv1.Watch.Open.Off, .int .i64 wv1.Watch.Open.Peak, .int .i64 wv1.short_, .int .i64 wv1.long_, .slice p6 wv1.ended_.length k7] 112, .rowo p3 wv1.Watch.Past.length k4 c5 3 1, .row p6 wv1.ended_.length k7 c8 28 3]⟩ Sv21 [.box b2 [.int .i64 wv1.Watch.Detector.Short, .int .i64 wv1.Watch.Detector.Long, .int .i64 wv1.Watch.Detector.On, .int .i64 wv1.Watch.Detector.Off, .slice p3 wv1.Watch.Past.length k4, .int .i64 (w64 (wv1.Watch.Count + 1)), .int .i64 wv1.Watch.Open.On, .int .i64 wv1.Watch.Open.Off, .int .i64 wv1.Watch.Open.Peak, .int .i64 (w64 (wv1.short_ + rv14)), .int .i64 (w64 (wv1.long_ + rv14)), .slice p6 wv1.ended_.length k7] 112, .box b12 [.int .i64 wv1.Watch.Detector.Short, .int .i64 wv1.Watch.Detector.Long, .int .i64 wv1.Watch.Detector.On, .int .i64 wv1.Watch.Detector.Off] 24, .rowo p3 wv1.Watch.Past.length k4 c5 3 1, .row p6 wv1.ended_.length k7 c8 28 3] [RowA c5 wv1.Watch.Past, RowA c8 wv1.ended_] w) ?_ ?_
 ·refine h_b (C := Cls [.box b2 [.int .i64 wv1.Watch.Detector.Short, .int .i64 wv1.Watch.Detector.Long, .int .i64 wv1.Watch.Detector.On, .int .i64 wv1.Watch.Detector.Off, .slice p3 wv1.Watch.Past.length k4, .int .i64 (w64 (wv1.Watch.Count + 1)), .int .i64 wv1.Watch.Open.On, .int .i64 wv1.Watch.Open.Off, .int .i64 wv1.Watch.Open.Peak, .int .i64 (w64 (wv1.short_ + rv14)), .int .i64 (w64 (wv1.long_ + rv14)), .slice p6 wv1.ended_.length k7] 112, .box b12 [.int .i64 wv1.Watch.Detector.Short, .int .i64 wv1.Watch.Detector.Long, .int .i64 wv1.Watch.Detector.On, .int .i64 wv1.Watch.Detector.Off] 24, .rowo p3 wv1.Watch.Past.length k4 c5 3 1, .row p6 wv1.ended_.length k7 c8 28 3] []) (by kernel_rfl) rfl (hw.drew.cs [0, 1, 2, 3] [] rfl rfl) fun hC => ?_
  have hw := hw.drew
  refine gm hs 0 rfl rfl rfl hC fun a hs => ?_
  refine gv hs 1 rfl rfl hC (fun w hC => y_nilCheck rfl) fun a hs => ?_
  refine gv hs 2 rfl rfl hC (fun w hC => y_fieldAddr (o' := 0) Tryz.runUnderlying112 rfl Tryz.sizeOf105 rfl rfl rfl) fun a hs => ?_
  refine gv hs 3 rfl rfl hC (fun w hC => y_fieldAddr (o' := 5) Tryz.runUnderlying105 rfl Tryz.sizeOf3 rfl rfl rfl) fun a hs => ?_
  refine gv hs 4 rfl rfl hC (fun w hC => y_loadB1 (hC.ownAt 0 rfl) rfl Tryz.isAgg3 rfl) fun a hs => ?_
  refine gv hs 5 rfl rfl hC (fun w hC => y_fieldAddr (o' := 1) Tryz.runUnderlying24 rfl Tryz.sizeOf3 rfl rfl rfl) fun a hs => ?_
  refine gv hs 6 rfl rfl hC (fun w hC => y_loadB1 (hC.ownAt 1 rfl) rfl Tryz.isAgg3 rfl) fun a hs => ?_
  refine gv hs 7 rfl rfl hC (fun w hC => y_geq rfl rfl) fun a hs => ?_
  refine h_done (by kernel_rfl) ?_
  exact ⟨Sv20, (hs.wk rfl), (hw.ft [0, 1, 2, 3] [0, 1] (by decide) rfl rfl)⟩
 rintro a w ⟨Sv21, hs, hw⟩
 refine then_normal ?_
 refine wp_join (fun a w => ∃ (x57 : Int) (x58 : Int) (x59 : Int) (x60 : (List Trigger)) (c53 : List Value) (p54 : Option Addr) (k55 : Nat) (Sv56 : Nat → Prop), detector_window_look_j1 wv1 rv14 x57 x58 x59 x60 = some r ∧ Sl 227 [(0, .pointer (some ⟨b2, 0, none⟩)), (1, .int .i64 rv14), (4, .pointer (some ⟨b12, 0, none⟩))] a ∧ Wd ⟨w0, S0, blks [.box b2 [.int .i64 wv1.Watch.Detector.Short, .int .i64 wv1.Watch.Detector.Long, .int .i64 wv1.Watch.Detector.On, .int .i64 wv1.Watch.Detector.Off, .slice p3 wv1.Watch.Past.length k4, .int .i64 wv1.Watch.Count, .int .i64 wv1.Watch.Open.On, .int .i64 wv1.Watch.Open.Off, .int .i64 wv1.Watch.Open.Peak, .int .i64 wv1.short_, .int .i64 wv1.long_, .slice p6 wv1.ended_.length k7] 112, .rowo p3 wv1.Watch.Past.length k4 c5 3 1, .row p6 wv1.ended_.length k7 c8 28 3]⟩ Sv56 [.box b2 [.int .i64 wv1.Watch.Detector.Short, .int .i64 wv1.Watch.Detector.Long, .int .i64 wv1.Watch.Detector.On, .int .i64 wv1.Watch.Detector.Off, .slice p3 wv1.Watch.Past.length k4, .int .i64 (w64 (wv1.Watch.Count + 1)), .int .i64 x57, .int .i64 x58, .int .i64 x59, .int .i64 (w64 (wv1.short_ + rv14)), .int .i64 (w64 (wv1.long_ + rv14)), .slice p54 x60.length k55] 112, .box b12 [.int .i64 wv1.Watch.Detector.Short, .int .i64 wv1.Watch.Detector.Long, .int .i64 wv1.Watch.Detector.On, .int .i64 wv1.Watch.Detector.Off] 24, .rowo p3 wv1.Watch.Past.length k4 c5 3 1, .row p54 x60.length k55 c53 28 3] [RowA c5 wv1.Watch.Past, RowA c53 x60] w) ?_ ?_
 ·refine wp_cond_split (hs.ev rfl) (fun h157 => ?_) (fun h157 => ?_)
  ·have hsh := ite_t hsh h157
   refine wp_block ?_
   refine wp_seq ?_
   obtain ⟨c190, hc190, hsh⟩ := bind_t hsh
   refine wp_only (fun a w => ∃ (Sv191 : Nat → Prop), Sl 227 [(0, .pointer (some ⟨b2, 0, none⟩)), (1, .int .i64 rv14), (4, .pointer (some ⟨b12, 0, none⟩)), (48, .bool c190)] a ∧ Wd ⟨w0, S0, blks [.box b2 [.int .i64 wv1.Watch.Detector.Short, .int .i64 wv1.Watch.Detector.Long, .int .i64 wv1.Watch.Detector.On, .int .i64 wv1.Watch.Detector.Off, .slice p3 wv1.Watch.Past.length k4, .int .i64 wv1.Watch.Count, .int .i64 wv1.Watch.Open.On, .int .i64 wv1.Watch.Open.Off, .int .i64 wv1.Watch.Open.Peak, .int .i64 wv1.short_, .int .i64 wv1.long_, .slice p6 wv1.ended_.length k7] 112, .rowo p3 wv1.Watch.Past.length k4 c5 3 1, .row p6 wv1.ended_.length k7 c8 28 3]⟩ Sv191 [.box b2 [.int .i64 wv1.Watch.Detector.Short, .int .i64 wv1.Watch.Detector.Long, .int .i64 wv1.Watch.Detector.On, .int .i64 wv1.Watch.Detector.Off, .slice p3 wv1.Watch.Past.length k4, .int .i64 (w64 (wv1.Watch.Count + 1)), .int .i64 wv1.Watch.Open.On, .int .i64 wv1.Watch.Open.Off, .int .i64 wv1.Watch.Open.Peak, .int .i64 (w64 (wv1.short_ + rv14)), .int .i64 (w64 (wv1.long_ + rv14)), .slice p6 wv1.ended_.length k7] 112, .box b12 [.int .i64 wv1.Watch.Detector.Short, .int .i64 wv1.Watch.Detector.Long, .int .i64 wv1.Watch.Detector.On, .int .i64 wv1.Watch.Detector.Off] 24, .rowo p3 wv1.Watch.Past.length k4 c5 3 1, .row p6 wv1.ended_.length k7 c8 28 3] [RowA c5 wv1.Watch.Past, RowA c8 wv1.ended_] w) ?_ ?_
   ·rcases Bool.eq_false_or_eq_true (decide (0 ≤ wv1.Watch.Open.On)) with h192 | h192
    ·have h193 := ite_t hc190 h192
     obtain ⟨rv195, h194, h193⟩ := bind_t h193
     refine h_b (C := Cls [.box b2 [.int .i64 wv1.Watch.Detector.Short, .int .i64 wv1.Watch.Detector.Long, .int .i64 wv1.Watch.Detector.On, .int .i64 wv1.Watch.Detector.Off, .slice p3 wv1.Watch.Past.length k4, .int .i64 (w64 (wv1.Watch.Count + 1)), .int .i64 wv1.Watch.Open.On, .int .i64 wv1.Watch.Open.Off, .int .i64 wv1.Watch.Open.Peak, .int .i64 (w64 (wv1.short_ + rv14)), .int .i64 (w64 (wv1.long_ + rv14)), .slice p6 wv1.ended_.length k7] 112, .box b12 [.int .i64 wv1.Watch.Detector.Short, .int .i64 wv1.Watch.Detector.Long, .int .i64 wv1.Watch.Detector.On, .int .i64 wv1.Watch.Detector.Off] 24, .rowo p3 wv1.Watch.Past.length k4 c5 3 1, .row p6 wv1.ended_.length k7 c8 28 3] []) (by kernel_rfl) rfl (hw.drew.cs [0, 1, 2, 3] [] rfl rfl) fun hC => ?_
     have hw := hw.drew
     refine gm hs 0 rfl rfl rfl hC fun a hs => ?_
     refine gv hs 1 rfl rfl hC (fun w hC => y_nilCheck rfl) fun a hs => ?_
     refine gv hs 2 rfl rfl hC (fun w hC => y_fieldAddr (o' := 0) Tryz.runUnderlying112 rfl Tryz.sizeOf105 rfl rfl rfl) fun a hs => ?_
     refine gv hs 3 rfl rfl hC (fun w hC => y_fieldAddr (o' := 6) Tryz.runUnderlying105 rfl Tryz.sizeOf28 rfl rfl rfl) fun a hs => ?_
     refine gv hs 4 rfl rfl hC (fun w hC => y_fieldAddr (o' := 6) Tryz.runUnderlying28 rfl Tryz.sizeOf3 rfl rfl rfl) fun a hs => ?_
     refine gv hs 5 rfl rfl hC (fun w hC => y_loadB1 (hC.ownAt 0 rfl) rfl Tryz.isAgg3 rfl) fun a hs => ?_
     refine gv hs 6 rfl rfl hC (fun w hC => y_geq rfl rfl) fun a hs => ?_
     refine gm hs 7 rfl rfl rfl hC fun a hs => ?_
     have hs := hs.fix 56 (.bool true) rfl (vb h192)
     refine gt hs 8 rfl ⟨_, rfl, rfl⟩ rfl hC (fun w hC => y_loadBA (hC.ownAt 1 rfl) rfl Tryz.isAgg24 Tryz.sizeOf24 rfl rfl) fun a hs => ?_
     refine gt hs 9 rfl ⟨_, rfl, rfl⟩ rfl hC (fun w hC => y_move rfl) fun a hs => ?_
     refine gt hs 10 rfl ⟨_, rfl, rfl⟩ rfl hC (fun w hC => y_nilCheck rfl) fun a hs => ?_
     refine gt hs 11 rfl ⟨_, rfl, rfl⟩ rfl hC (fun w hC => y_fieldAddr (o' := 9) Tryz.runUnderlying112 rfl Tryz.sizeOf3 rfl rfl rfl) fun a hs => ?_
     refine gt hs 12 rfl ⟨_, rfl, rfl⟩ rfl hC (fun w hC => y_loadB1 (hC.ownAt 0 rfl) rfl Tryz.isAgg3 rfl) fun a hs => ?_
     refine gt hs 13 rfl ⟨_, rfl, rfl⟩ rfl hC (fun w hC => y_move rfl) fun a hs => ?_
     refine gt hs 14 rfl ⟨_, rfl, rfl⟩ rfl hC (fun w hC => y_nilCheck rfl) fun a hs => ?_
     refine gt hs 15 rfl ⟨_, rfl, rfl⟩ rfl hC (fun w hC => y_fieldAddr (o' := 10) Tryz.runUnderlying112 rfl Tryz.sizeOf3 rfl rfl rfl) fun a hs => ?_
     refine gt hs 16 rfl ⟨_, rfl, rfl⟩ rfl hC (fun w hC => y_loadB1 (hC.ownAt 0 rfl) rfl Tryz.isAgg3 rfl) fun a hs => ?_
     refine gt hs 17 rfl ⟨_, rfl, rfl⟩ rfl hC (fun w hC => y_fieldAddr (o' := 3) Tryz.runUnderlying24 rfl Tryz.sizeOf3 rfl rfl rfl) fun a hs => ?_
     refine gt hs 18 rfl ⟨_, rfl, rfl⟩ rfl hC (fun w hC => y_loadB1 (hC.ownAt 1 rfl) rfl Tryz.isAgg3 rfl) fun a hs => ?_
     refine ho 19 rfl ?_
     refine st_callR hs (detector_reaches_ok h194 hw.bdom) (do_call Tryz.call89 rfl) ⟨_, rfl, rfl⟩ rfl rfl ?_
     intro v199 Sv196 w a h197 h198 hs
     subst h198
     have hw := hw.callB h197
     refine h_nx (hw.cs [0, 1, 2, 3] [] rfl rfl) fun hC => ?_
     refine gt hs 20 rfl ⟨_, rfl, rfl⟩ rfl hC (fun w hC => y_not rfl) fun a hs => ?_
     refine gv hs 21 rfl rfl hC (fun w hC => y_pickTE (v := .bool c190) rfl rfl (vbs h193)) fun a hs => ?_
     refine gv hs 22 rfl rfl hC (fun w hC => y_assign rfl) fun a hs => ?_
     refine h_done (by kernel_rfl) ?_
     exact ⟨Sv21, (hs.wk rfl), (hw.ft [0, 1, 2, 3] [0, 1] (by decide) rfl rfl)⟩
    have h201 := ite_f hc190 h192
    refine h_b (C := Cls [.box b2 [.int .i64 wv1.Watch.Detector.Short, .int .i64 wv1.Watch.Detector.Long, .int .i64 wv1.Watch.Detector.On, .int .i64 wv1.Watch.Detector.Off, .slice p3 wv1.Watch.Past.length k4, .int .i64 (w64 (wv1.Watch.Count + 1)), .int .i64 wv1.Watch.Open.On, .int .i64 wv1.Watch.Open.Off, .int .i64 wv1.Watch.Open.Peak, .int .i64 (w64 (wv1.short_ + rv14)), .int .i64 (w64 (wv1.long_ + rv14)), .slice p6 wv1.ended_.length k7] 112, .box b12 [.int .i64 wv1.Watch.Detector.Short, .int .i64 wv1.Watch.Detector.Long, .int .i64 wv1.Watch.Detector.On, .int .i64 wv1.Watch.Detector.Off] 24, .rowo p3 wv1.Watch.Past.length k4 c5 3 1, .row p6 wv1.ended_.length k7 c8 28 3] []) (by kernel_rfl) rfl (hw.drew.cs [0, 1, 2, 3] [] rfl rfl) fun hC => ?_
    have hw := hw.drew
    refine gm hs 0 rfl rfl rfl hC fun a hs => ?_
    refine gv hs 1 rfl rfl hC (fun w hC => y_nilCheck rfl) fun a hs => ?_
    refine gv hs 2 rfl rfl hC (fun w hC => y_fieldAddr (o' := 0) Tryz.runUnderlying112 rfl Tryz.sizeOf105 rfl rfl rfl) fun a hs => ?_
    refine gv hs 3 rfl rfl hC (fun w hC => y_fieldAddr (o' := 6) Tryz.runUnderlying105 rfl Tryz.sizeOf28 rfl rfl rfl) fun a hs => ?_
    refine gv hs 4 rfl rfl hC (fun w hC => y_fieldAddr (o' := 6) Tryz.runUnderlying28 rfl Tryz.sizeOf3 rfl rfl rfl) fun a hs => ?_
    refine gv hs 5 rfl rfl hC (fun w hC => y_loadB1 (hC.ownAt 0 rfl) rfl Tryz.isAgg3 rfl) fun a hs => ?_
    refine gv hs 6 rfl rfl hC (fun w hC => y_geq rfl rfl) fun a hs => ?_
    refine gm hs 7 rfl rfl rfl hC fun a hs => ?_
    have hs := hs.fix 56 (.bool false) rfl (vb h192)
    refine gs hs 8 rfl rfl rfl rfl hC fun a hs => ?_
    refine gs hs 9 rfl rfl rfl rfl hC fun a hs => ?_
    refine gs hs 10 rfl rfl rfl rfl hC fun a hs => ?_
    refine gs hs 11 rfl rfl rfl rfl hC fun a hs => ?_
    refine gs hs 12 rfl rfl rfl rfl hC fun a hs => ?_
    refine gs hs 13 rfl rfl rfl rfl hC fun a hs => ?_
    refine gs hs 14 rfl rfl rfl rfl hC fun a hs => ?_
    refine gs hs 15 rfl rfl rfl rfl hC fun a hs => ?_
    refine gs hs 16 rfl rfl rfl rfl hC fun a hs => ?_
    refine gs hs 17 rfl rfl rfl rfl hC fun a hs => ?_
    refine gs hs 18 rfl rfl rfl rfl hC fun a hs => ?_
    refine gs hs 19 rfl rfl rfl rfl hC fun a hs => ?_
    refine gs hs 20 rfl rfl rfl rfl hC fun a hs => ?_
    refine gv hs 21 rfl rfl hC (fun w hC => y_pickFE (v := .bool c190) rfl rfl (vbs h201)) fun a hs => ?_
    refine gv hs 22 rfl rfl hC (fun w hC => y_assign rfl) fun a hs => ?_
    refine h_done (by kernel_rfl) ?_
    exact ⟨Sv21, (hs.wk rfl), (hw.ft [0, 1, 2, 3] [0, 1] (by decide) rfl rfl)⟩
   rintro a w ⟨Sv191, hs, hw⟩
   refine then_normal ?_
   refine wp_join (fun a w => ∃ (x224 : Int) (x225 : Int) (x226 : Int) (x227 : (List Trigger)) (c220 : List Value) (p221 : Option Addr) (k222 : Nat) (Sv223 : Nat → Prop), detector_window_look_j5 wv1 rv14 x224 x225 x226 x227 = some r ∧ Sl 227 [(0, .pointer (some ⟨b2, 0, none⟩)), (1, .int .i64 rv14), (4, .pointer (some ⟨b12, 0, none⟩))] a ∧ Wd ⟨w0, S0, blks [.box b2 [.int .i64 wv1.Watch.Detector.Short, .int .i64 wv1.Watch.Detector.Long, .int .i64 wv1.Watch.Detector.On, .int .i64 wv1.Watch.Detector.Off, .slice p3 wv1.Watch.Past.length k4, .int .i64 wv1.Watch.Count, .int .i64 wv1.Watch.Open.On, .int .i64 wv1.Watch.Open.Off, .int .i64 wv1.Watch.Open.Peak, .int .i64 wv1.short_, .int .i64 wv1.long_, .slice p6 wv1.ended_.length k7] 112, .rowo p3 wv1.Watch.Past.length k4 c5 3 1, .row p6 wv1.ended_.length k7 c8 28 3]⟩ Sv223 [.box b2 [.int .i64 wv1.Watch.Detector.Short, .int .i64 wv1.Watch.Detector.Long, .int .i64 wv1.Watch.Detector.On, .int .i64 wv1.Watch.Detector.Off, .slice p3 wv1.Watch.Past.length k4, .int .i64 (w64 (wv1.Watch.Count + 1)), .int .i64 x224, .int .i64 x225, .int .i64 x226, .int .i64 (w64 (wv1.short_ + rv14)), .int .i64 (w64 (wv1.long_ + rv14)), .slice p221 x227.length k222] 112, .box b12 [.int .i64 wv1.Watch.Detector.Short, .int .i64 wv1.Watch.Detector.Long, .int .i64 wv1.Watch.Detector.On, .int .i64 wv1.Watch.Detector.Off] 24, .rowo p3 wv1.Watch.Past.length k4 c5 3 1, .row p221 x227.length k222 c220 28 3] [RowA c5 wv1.Watch.Past, RowA c220 x227] w) ?_ ?_
   ·refine wp_cond_split (hs.ev rfl) (fun h228 => ?_) (fun h228 => ?_)
    ·have hsh := ite_t hsh h228
     refine sr ?_
     refine mv hs rfl rfl fun a hs => ?_
     refine mv hs rfl rfl fun a hs => ?_
     refine sv hs (y_nilCheck rfl) rfl fun a hs => ?_
     refine sv hs (y_fieldAddr (o' := 0) Tryz.runUnderlying112 rfl Tryz.sizeOf105 rfl rfl rfl) rfl fun a hs => ?_
     refine sv hs (y_fieldAddr (o' := 5) Tryz.runUnderlying105 rfl Tryz.sizeOf3 rfl rfl rfl) rfl fun a hs => ?_
     refine sv hs (y_loadB1 (hw.ownAt 0 rfl) rfl Tryz.isAgg3 rfl) rfl fun a hs => ?_
     refine sv hs (y_sub rfl rfl) rfl fun a hs => ?_
     refine sv hs (y_nilCheck rfl) rfl fun a hs => ?_
     refine sv hs (y_fieldAddr (o' := 0) Tryz.runUnderlying112 rfl Tryz.sizeOf105 rfl rfl rfl) rfl fun a hs => ?_
     refine sv hs (y_fieldAddr (o' := 6) Tryz.runUnderlying105 rfl Tryz.sizeOf28 rfl rfl rfl) rfl fun a hs => ?_
     refine sv hs (y_fieldAddr (o' := 7) Tryz.runUnderlying28 rfl Tryz.sizeOf3 rfl rfl rfl) rfl fun a hs => ?_
     refine w_store (m := 1) (cs' := [.int .i64 wv1.Watch.Detector.Short, .int .i64 wv1.Watch.Detector.Long, .int .i64 wv1.Watch.Detector.On, .int .i64 wv1.Watch.Detector.Off, .slice p3 wv1.Watch.Past.length k4, .int .i64 (w64 (wv1.Watch.Count + 1)), .int .i64 wv1.Watch.Open.On, .int .i64 (w64 ((w64 (wv1.Watch.Count + 1)) - 1)), .int .i64 wv1.Watch.Open.Peak, .int .i64 (w64 (wv1.short_ + rv14)), .int .i64 (w64 (wv1.long_ + rv14)), .slice p6 wv1.ended_.length k7]) hs hw 0 rfl rfl rfl Tryz.sizeOf3 rfl rfl rfl rfl trivial ?_
     intro a w hs hw
     refine nl ?_
     refine wp_seq ?_
     obtain ⟨l232, h231, hsh⟩ := bind_t hsh
     refine wp_only (fun a w => ∃ (Sv236 : Nat → Prop) (c235 : List Value) (k234 : Nat) (p233 : Option Addr), Sl 227 [(0, .pointer (some ⟨b2, 0, none⟩)), (1, .int .i64 rv14), (4, .pointer (some ⟨b12, 0, none⟩))] a ∧ Wd ⟨w0, S0, blks [.box b2 [.int .i64 wv1.Watch.Detector.Short, .int .i64 wv1.Watch.Detector.Long, .int .i64 wv1.Watch.Detector.On, .int .i64 wv1.Watch.Detector.Off, .slice p3 wv1.Watch.Past.length k4, .int .i64 wv1.Watch.Count, .int .i64 wv1.Watch.Open.On, .int .i64 wv1.Watch.Open.Off, .int .i64 wv1.Watch.Open.Peak, .int .i64 wv1.short_, .int .i64 wv1.long_, .slice p6 wv1.ended_.length k7] 112, .rowo p3 wv1.Watch.Past.length k4 c5 3 1, .row p6 wv1.ended_.length k7 c8 28 3]⟩ Sv236 [.box b2 [.int .i64 wv1.Watch.Detector.Short, .int .i64 wv1.Watch.Detector.Long, .int .i64 wv1.Watch.Detector.On, .int .i64 wv1.Watch.Detector.Off, .slice p3 wv1.Watch.Past.length k4, .int .i64 (w64 (wv1.Watch.Count + 1)), .int .i64 wv1.Watch.Open.On, .int .i64 (w64 ((w64 (wv1.Watch.Count + 1)) - 1)), .int .i64 wv1.Watch.Open.Peak, .int .i64 (w64 (wv1.short_ + rv14)), .int .i64 (w64 (wv1.long_ + rv14)), .slice p233 l232.length k234] 112, .box b12 [.int .i64 wv1.Watch.Detector.Short, .int .i64 wv1.Watch.Detector.Long, .int .i64 wv1.Watch.Detector.On, .int .i64 wv1.Watch.Detector.Off] 24, .rowo p3 wv1.Watch.Past.length k4 c5 3 1, .row p233 l232.length k234 c235 28 3] [RowA c5 wv1.Watch.Past, RowA c235 l232] w) ?_ ?_
     ·refine h_b (C := Cls [.box b12 [.int .i64 wv1.Watch.Detector.Short, .int .i64 wv1.Watch.Detector.Long, .int .i64 wv1.Watch.Detector.On, .int .i64 wv1.Watch.Detector.Off] 24, .rowo p3 wv1.Watch.Past.length k4 c5 3 1] []) (by kernel_rfl) rfl (hw.drew.cs [1, 2] [] rfl rfl) fun hC => ?_
      have hw := hw.drew
      refine gm hs 0 rfl rfl rfl hC fun a hs => ?_
      refine gm hs 1 rfl rfl rfl hC fun a hs => ?_
      refine gv hs 2 rfl rfl hC (fun w hC => y_nilCheck rfl) fun a hs => ?_
      refine gv hs 3 rfl rfl hC (fun w hC => y_fieldAddr (o' := 11) Tryz.runUnderlying112 rfl Tryz.sizeOf47 rfl rfl rfl) fun a hs => ?_
      refine gm hs 5 rfl rfl rfl hC fun a hs => ?_
      refine gv hs 6 rfl rfl hC (fun w hC => y_nilCheck rfl) fun a hs => ?_
      refine gv hs 7 rfl rfl hC (fun w hC => y_fieldAddr (o' := 0) Tryz.runUnderlying112 rfl Tryz.sizeOf105 rfl rfl rfl) fun a hs => ?_
      refine gv hs 8 rfl rfl hC (fun w hC => y_fieldAddr (o' := 6) Tryz.runUnderlying105 rfl Tryz.sizeOf28 rfl rfl rfl) fun a hs => ?_
      refine h_all (rs := [4, 9]) (by kernel_rfl) rfl ?_
      refine AllH.cons rfl ?_ ?_
      ·refine sv hs (y_loadB1 (hw.ownAt 0 rfl) rfl Tryz.isAgg47 rfl) rfl fun a hs => ?_
       refine h_nx (hw.cs [1, 2] [] rfl rfl) fun hC => ?_
       refine ho 9 rfl ?_
       refine sv hs (y_loadBA (hw.ownAt 0 rfl) rfl Tryz.isAgg28 Tryz.sizeOf28 rfl rfl) rfl fun a hs => ?_
       refine h_nx (hw.cs [1, 2] [] rfl rfl) fun hC => ?_
       refine ho 10 rfl ?_
       refine w_litSlice (α := Trigger) (vs := [.agg #[.int .i64 wv1.Watch.Open.On, .int .i64 (w64 ((w64 (wv1.Watch.Count + 1)) - 1)), .int .i64 wv1.Watch.Open.Peak]]) (cs := [.int .i64 wv1.Watch.Open.On, .int .i64 (w64 ((w64 (wv1.Watch.Count + 1)) - 1)), .int .i64 wv1.Watch.Open.Peak]) (xs := ([(⟨wv1.Watch.Open.On, (w64 ((w64 (wv1.Watch.Count + 1)) - 1)), wv1.Watch.Open.Peak⟩ : Trigger)] : List Trigger)) hs hw El47 rfl rfl rfl rfl rfl rfl ⟨⟨_, _, _, rfl, rfl, rfl, rfl⟩, rfl⟩ rfl trivial rfl fun b230 a w hs hw => ?_
       refine h_nx (hw.cs [2, 3] [] rfl rfl) fun hC => ?_
       refine h_st (C' := Cls [.box b12 [.int .i64 wv1.Watch.Detector.Short, .int .i64 wv1.Watch.Detector.Long, .int .i64 wv1.Watch.Detector.On, .int .i64 wv1.Watch.Detector.Off] 24, .rowo p3 wv1.Watch.Past.length k4 c5 3 1, .row (some ⟨b230, 0, none⟩) ([(⟨wv1.Watch.Open.On, (w64 ((w64 (wv1.Watch.Count + 1)) - 1)), wv1.Watch.Open.Peak⟩ : Trigger)] : List Trigger).length ([(⟨wv1.Watch.Open.On, (w64 ((w64 (wv1.Watch.Count + 1)) - 1)), wv1.Watch.Open.Peak⟩ : Trigger)] : List Trigger).length [.int .i64 wv1.Watch.Open.On, .int .i64 (w64 ((w64 (wv1.Watch.Count + 1)) - 1)), .int .i64 wv1.Watch.Open.Peak] 28 3] []) (fun _ h => by exact h.sub [0, 1] (Sel.of rfl) (AllIn.of [] rfl)) (hw.cs [2, 3, 0] [] rfl rfl) fun hC => ?_
       refine ho 11 rfl ?_
       refine w_appendR (α := Trigger) hs hw El47 4 rfl rfl rfl 2 rfl 0 rfl 0 rfl h231 rfl trivial ?_
       intro p233 k234 c235 a w hs hw
       refine h_nx (hw.cs [2, 3, 0] [] rfl rfl) fun hC => ?_
       refine gv hs 12 rfl rfl hC (fun w hC => y_nilCheck rfl) fun a hs => ?_
       refine gv hs 13 rfl rfl hC (fun w hC => y_fieldAddr (o' := 11) Tryz.runUnderlying112 rfl Tryz.sizeOf47 rfl rfl rfl) fun a hs => ?_
       refine ho 14 rfl ?_
       refine w_store (m := 1) (cs' := [.int .i64 wv1.Watch.Detector.Short, .int .i64 wv1.Watch.Detector.Long, .int .i64 wv1.Watch.Detector.On, .int .i64 wv1.Watch.Detector.Off, .slice p3 wv1.Watch.Past.length k4, .int .i64 (w64 (wv1.Watch.Count + 1)), .int .i64 wv1.Watch.Open.On, .int .i64 (w64 ((w64 (wv1.Watch.Count + 1)) - 1)), .int .i64 wv1.Watch.Open.Peak, .int .i64 (w64 (wv1.short_ + rv14)), .int .i64 (w64 (wv1.long_ + rv14)), .slice p233 l232.length k234]) hs hw 1 rfl rfl rfl Tryz.sizeOf47 rfl rfl rfl rfl trivial ?_
       intro a w hs hw
       refine h_nx (hw.cs [2, 3, 0] [] rfl rfl) fun hC => ?_
       refine h_done (by kernel_rfl) ?_
       exact ⟨Sv191, c235, k234, p233, (hs.wk rfl), (hw.ft [1, 2, 3, 4] [2, 0] (by decide) rfl rfl)⟩
      refine AllH.cons rfl ?_ ?_
      ·refine sv hs (y_loadBA (hw.ownAt 0 rfl) rfl Tryz.isAgg28 Tryz.sizeOf28 rfl rfl) rfl fun a hs => ?_
       refine h_nx (hw.cs [1, 2] [] rfl rfl) fun hC => ?_
       refine h_all (rs := [4, 10]) (by kernel_rfl) rfl ?_
       refine AllH.cons rfl ?_ ?_
       ·refine sv hs (y_loadB1 (hw.ownAt 0 rfl) rfl Tryz.isAgg47 rfl) rfl fun a hs => ?_
        refine h_nx (hw.cs [1, 2] [] rfl rfl) fun hC => ?_
        refine ho 10 rfl ?_
        refine w_litSlice (α := Trigger) (vs := [.agg #[.int .i64 wv1.Watch.Open.On, .int .i64 (w64 ((w64 (wv1.Watch.Count + 1)) - 1)), .int .i64 wv1.Watch.Open.Peak]]) (cs := [.int .i64 wv1.Watch.Open.On, .int .i64 (w64 ((w64 (wv1.Watch.Count + 1)) - 1)), .int .i64 wv1.Watch.Open.Peak]) (xs := ([(⟨wv1.Watch.Open.On, (w64 ((w64 (wv1.Watch.Count + 1)) - 1)), wv1.Watch.Open.Peak⟩ : Trigger)] : List Trigger)) hs hw El47 rfl rfl rfl rfl rfl rfl ⟨⟨_, _, _, rfl, rfl, rfl, rfl⟩, rfl⟩ rfl trivial rfl fun b230 a w hs hw => ?_
        refine h_nx (hw.cs [2, 3] [] rfl rfl) fun hC => ?_
        refine h_st (C' := Cls [.box b12 [.int .i64 wv1.Watch.Detector.Short, .int .i64 wv1.Watch.Detector.Long, .int .i64 wv1.Watch.Detector.On, .int .i64 wv1.Watch.Detector.Off] 24, .rowo p3 wv1.Watch.Past.length k4 c5 3 1, .row (some ⟨b230, 0, none⟩) ([(⟨wv1.Watch.Open.On, (w64 ((w64 (wv1.Watch.Count + 1)) - 1)), wv1.Watch.Open.Peak⟩ : Trigger)] : List Trigger).length ([(⟨wv1.Watch.Open.On, (w64 ((w64 (wv1.Watch.Count + 1)) - 1)), wv1.Watch.Open.Peak⟩ : Trigger)] : List Trigger).length [.int .i64 wv1.Watch.Open.On, .int .i64 (w64 ((w64 (wv1.Watch.Count + 1)) - 1)), .int .i64 wv1.Watch.Open.Peak] 28 3] []) (fun _ h => by exact h.sub [0, 1] (Sel.of rfl) (AllIn.of [] rfl)) (hw.cs [2, 3, 0] [] rfl rfl) fun hC => ?_
        refine ho 11 rfl ?_
        refine w_appendR (α := Trigger) hs hw El47 4 rfl rfl rfl 2 rfl 0 rfl 0 rfl h231 rfl trivial ?_
        intro p233 k234 c235 a w hs hw
        refine h_nx (hw.cs [2, 3, 0] [] rfl rfl) fun hC => ?_
        refine gv hs 12 rfl rfl hC (fun w hC => y_nilCheck rfl) fun a hs => ?_
        refine gv hs 13 rfl rfl hC (fun w hC => y_fieldAddr (o' := 11) Tryz.runUnderlying112 rfl Tryz.sizeOf47 rfl rfl rfl) fun a hs => ?_
        refine ho 14 rfl ?_
        refine w_store (m := 1) (cs' := [.int .i64 wv1.Watch.Detector.Short, .int .i64 wv1.Watch.Detector.Long, .int .i64 wv1.Watch.Detector.On, .int .i64 wv1.Watch.Detector.Off, .slice p3 wv1.Watch.Past.length k4, .int .i64 (w64 (wv1.Watch.Count + 1)), .int .i64 wv1.Watch.Open.On, .int .i64 (w64 ((w64 (wv1.Watch.Count + 1)) - 1)), .int .i64 wv1.Watch.Open.Peak, .int .i64 (w64 (wv1.short_ + rv14)), .int .i64 (w64 (wv1.long_ + rv14)), .slice p233 l232.length k234]) hs hw 1 rfl rfl rfl Tryz.sizeOf47 rfl rfl rfl rfl trivial ?_
        intro a w hs hw
        refine h_nx (hw.cs [2, 3, 0] [] rfl rfl) fun hC => ?_
        refine h_done (by kernel_rfl) ?_
        exact ⟨Sv191, c235, k234, p233, (hs.wk rfl), (hw.ft [1, 2, 3, 4] [2, 0] (by decide) rfl rfl)⟩
       refine AllH.cons rfl ?_ ?_
       ·refine w_litSlice (α := Trigger) (vs := [.agg #[.int .i64 wv1.Watch.Open.On, .int .i64 (w64 ((w64 (wv1.Watch.Count + 1)) - 1)), .int .i64 wv1.Watch.Open.Peak]]) (cs := [.int .i64 wv1.Watch.Open.On, .int .i64 (w64 ((w64 (wv1.Watch.Count + 1)) - 1)), .int .i64 wv1.Watch.Open.Peak]) (xs := ([(⟨wv1.Watch.Open.On, (w64 ((w64 (wv1.Watch.Count + 1)) - 1)), wv1.Watch.Open.Peak⟩ : Trigger)] : List Trigger)) hs hw El47 rfl rfl rfl rfl rfl rfl ⟨⟨_, _, _, rfl, rfl, rfl, rfl⟩, rfl⟩ rfl trivial rfl fun b230 a w hs hw => ?_
        refine h_nx (hw.cs [2, 3] [] rfl rfl) fun hC => ?_
        refine h_st (C' := Cls [.box b12 [.int .i64 wv1.Watch.Detector.Short, .int .i64 wv1.Watch.Detector.Long, .int .i64 wv1.Watch.Detector.On, .int .i64 wv1.Watch.Detector.Off] 24, .rowo p3 wv1.Watch.Past.length k4 c5 3 1, .row (some ⟨b230, 0, none⟩) ([(⟨wv1.Watch.Open.On, (w64 ((w64 (wv1.Watch.Count + 1)) - 1)), wv1.Watch.Open.Peak⟩ : Trigger)] : List Trigger).length ([(⟨wv1.Watch.Open.On, (w64 ((w64 (wv1.Watch.Count + 1)) - 1)), wv1.Watch.Open.Peak⟩ : Trigger)] : List Trigger).length [.int .i64 wv1.Watch.Open.On, .int .i64 (w64 ((w64 (wv1.Watch.Count + 1)) - 1)), .int .i64 wv1.Watch.Open.Peak] 28 3] []) (fun _ h => by exact h.sub [0, 1] (Sel.of rfl) (AllIn.of [] rfl)) (hw.cs [2, 3, 0] [] rfl rfl) fun hC => ?_
        refine ho 4 rfl ?_
        refine sv hs (y_loadB1 (hw.ownAt 1 rfl) rfl Tryz.isAgg47 rfl) rfl fun a hs => ?_
        refine h_nx (hw.cs [2, 3, 0] [] rfl rfl) fun hC => ?_
        refine ho 11 rfl ?_
        refine w_appendR (α := Trigger) hs hw El47 4 rfl rfl rfl 2 rfl 0 rfl 0 rfl h231 rfl trivial ?_
        intro p233 k234 c235 a w hs hw
        refine h_nx (hw.cs [2, 3, 0] [] rfl rfl) fun hC => ?_
        refine gv hs 12 rfl rfl hC (fun w hC => y_nilCheck rfl) fun a hs => ?_
        refine gv hs 13 rfl rfl hC (fun w hC => y_fieldAddr (o' := 11) Tryz.runUnderlying112 rfl Tryz.sizeOf47 rfl rfl rfl) fun a hs => ?_
        refine ho 14 rfl ?_
        refine w_store (m := 1) (cs' := [.int .i64 wv1.Watch.Detector.Short, .int .i64 wv1.Watch.Detector.Long, .int .i64 wv1.Watch.Detector.On, .int .i64 wv1.Watch.Detector.Off, .slice p3 wv1.Watch.Past.length k4, .int .i64 (w64 (wv1.Watch.Count + 1)), .int .i64 wv1.Watch.Open.On, .int .i64 (w64 ((w64 (wv1.Watch.Count + 1)) - 1)), .int .i64 wv1.Watch.Open.Peak, .int .i64 (w64 (wv1.short_ + rv14)), .int .i64 (w64 (wv1.long_ + rv14)), .slice p233 l232.length k234]) hs hw 1 rfl rfl rfl Tryz.sizeOf47 rfl rfl rfl rfl trivial ?_
        intro a w hs hw
        refine h_nx (hw.cs [2, 3, 0] [] rfl rfl) fun hC => ?_
        refine h_done (by kernel_rfl) ?_
        exact ⟨Sv191, c235, k234, p233, (hs.wk rfl), (hw.ft [1, 2, 3, 4] [2, 0] (by decide) rfl rfl)⟩
       exact AllH.nil
      exact AllH.nil
     rintro a w ⟨Sv236, c235, k234, p233, hs, hw⟩
     refine then_normal ?_
     refine wp_region_lit ?_
     refine mv hs rfl rfl fun a hs => ?_
     refine sv hs (y_build (vs := [(0, .int .i64 (-1))]) Bld28 rfl rfl) rfl fun a hs => ?_
     refine sv hs (y_nilCheck rfl) rfl fun a hs => ?_
     refine sv hs (y_fieldAddr (o' := 0) Tryz.runUnderlying112 rfl Tryz.sizeOf105 rfl rfl rfl) rfl fun a hs => ?_
     refine sv hs (y_fieldAddr (o' := 6) Tryz.runUnderlying105 rfl Tryz.sizeOf28 rfl rfl rfl) rfl fun a hs => ?_
     refine w_store (m := 3) (cs' := [.int .i64 wv1.Watch.Detector.Short, .int .i64 wv1.Watch.Detector.Long, .int .i64 wv1.Watch.Detector.On, .int .i64 wv1.Watch.Detector.Off, .slice p3 wv1.Watch.Past.length k4, .int .i64 (w64 (wv1.Watch.Count + 1)), .int .i64 (-1), .int .i64 0, .int .i64 0, .int .i64 (w64 (wv1.short_ + rv14)), .int .i64 (w64 (wv1.long_ + rv14)), .slice p233 l232.length k234]) hs hw 0 rfl rfl rfl Tryz.sizeOf28 rfl rfl rfl rfl trivial ?_
     intro a w hs hw
     refine nl ?_
     exact ⟨(-1), 0, 0, l232, c235, p233, k234, Sv236, hsh, (hs.wk rfl), (hw.ft [0, 1, 2, 3] [0, 1] (by decide) rfl rfl)⟩
    have hsh := ite_f hsh h228
    refine wp_seq ?_
    obtain ⟨c239, hc239, hsh⟩ := bind_t hsh
    refine wp_only (fun a w => ∃ (Sv240 : Nat → Prop), Sl 227 [(0, .pointer (some ⟨b2, 0, none⟩)), (1, .int .i64 rv14), (4, .pointer (some ⟨b12, 0, none⟩)), (101, .bool c239)] a ∧ Wd ⟨w0, S0, blks [.box b2 [.int .i64 wv1.Watch.Detector.Short, .int .i64 wv1.Watch.Detector.Long, .int .i64 wv1.Watch.Detector.On, .int .i64 wv1.Watch.Detector.Off, .slice p3 wv1.Watch.Past.length k4, .int .i64 wv1.Watch.Count, .int .i64 wv1.Watch.Open.On, .int .i64 wv1.Watch.Open.Off, .int .i64 wv1.Watch.Open.Peak, .int .i64 wv1.short_, .int .i64 wv1.long_, .slice p6 wv1.ended_.length k7] 112, .rowo p3 wv1.Watch.Past.length k4 c5 3 1, .row p6 wv1.ended_.length k7 c8 28 3]⟩ Sv240 [.box b2 [.int .i64 wv1.Watch.Detector.Short, .int .i64 wv1.Watch.Detector.Long, .int .i64 wv1.Watch.Detector.On, .int .i64 wv1.Watch.Detector.Off, .slice p3 wv1.Watch.Past.length k4, .int .i64 (w64 (wv1.Watch.Count + 1)), .int .i64 wv1.Watch.Open.On, .int .i64 wv1.Watch.Open.Off, .int .i64 wv1.Watch.Open.Peak, .int .i64 (w64 (wv1.short_ + rv14)), .int .i64 (w64 (wv1.long_ + rv14)), .slice p6 wv1.ended_.length k7] 112, .box b12 [.int .i64 wv1.Watch.Detector.Short, .int .i64 wv1.Watch.Detector.Long, .int .i64 wv1.Watch.Detector.On, .int .i64 wv1.Watch.Detector.Off] 24, .rowo p3 wv1.Watch.Past.length k4 c5 3 1, .row p6 wv1.ended_.length k7 c8 28 3] [RowA c5 wv1.Watch.Past, RowA c8 wv1.ended_] w) ?_ ?_
    ·rcases Bool.eq_false_or_eq_true (decide (wv1.Watch.Open.On < 0)) with h241 | h241
     ·have h242 := ite_t hc239 h241
      obtain ⟨rv244, h243, h242⟩ := bind_t h242
      refine h_b (C := Cls [.box b2 [.int .i64 wv1.Watch.Detector.Short, .int .i64 wv1.Watch.Detector.Long, .int .i64 wv1.Watch.Detector.On, .int .i64 wv1.Watch.Detector.Off, .slice p3 wv1.Watch.Past.length k4, .int .i64 (w64 (wv1.Watch.Count + 1)), .int .i64 wv1.Watch.Open.On, .int .i64 wv1.Watch.Open.Off, .int .i64 wv1.Watch.Open.Peak, .int .i64 (w64 (wv1.short_ + rv14)), .int .i64 (w64 (wv1.long_ + rv14)), .slice p6 wv1.ended_.length k7] 112, .box b12 [.int .i64 wv1.Watch.Detector.Short, .int .i64 wv1.Watch.Detector.Long, .int .i64 wv1.Watch.Detector.On, .int .i64 wv1.Watch.Detector.Off] 24, .rowo p3 wv1.Watch.Past.length k4 c5 3 1, .row p6 wv1.ended_.length k7 c8 28 3] []) (by kernel_rfl) rfl (hw.drew.cs [0, 1, 2, 3] [] rfl rfl) fun hC => ?_
      have hw := hw.drew
      refine gm hs 0 rfl rfl rfl hC fun a hs => ?_
      refine gv hs 1 rfl rfl hC (fun w hC => y_nilCheck rfl) fun a hs => ?_
      refine gv hs 2 rfl rfl hC (fun w hC => y_fieldAddr (o' := 0) Tryz.runUnderlying112 rfl Tryz.sizeOf105 rfl rfl rfl) fun a hs => ?_
      refine gv hs 3 rfl rfl hC (fun w hC => y_fieldAddr (o' := 6) Tryz.runUnderlying105 rfl Tryz.sizeOf28 rfl rfl rfl) fun a hs => ?_
      refine gv hs 4 rfl rfl hC (fun w hC => y_fieldAddr (o' := 6) Tryz.runUnderlying28 rfl Tryz.sizeOf3 rfl rfl rfl) fun a hs => ?_
      refine gv hs 5 rfl rfl hC (fun w hC => y_loadB1 (hC.ownAt 0 rfl) rfl Tryz.isAgg3 rfl) fun a hs => ?_
      refine gv hs 6 rfl rfl hC (fun w hC => y_lss rfl rfl) fun a hs => ?_
      refine gm hs 7 rfl rfl rfl hC fun a hs => ?_
      have hs := hs.fix 109 (.bool true) rfl (vb h241)
      refine gt hs 8 rfl ⟨_, rfl, rfl⟩ rfl hC (fun w hC => y_loadBA (hC.ownAt 1 rfl) rfl Tryz.isAgg24 Tryz.sizeOf24 rfl rfl) fun a hs => ?_
      refine gt hs 9 rfl ⟨_, rfl, rfl⟩ rfl hC (fun w hC => y_move rfl) fun a hs => ?_
      refine gt hs 10 rfl ⟨_, rfl, rfl⟩ rfl hC (fun w hC => y_nilCheck rfl) fun a hs => ?_
      refine gt hs 11 rfl ⟨_, rfl, rfl⟩ rfl hC (fun w hC => y_fieldAddr (o' := 9) Tryz.runUnderlying112 rfl Tryz.sizeOf3 rfl rfl rfl) fun a hs => ?_
      refine gt hs 12 rfl ⟨_, rfl, rfl⟩ rfl hC (fun w hC => y_loadB1 (hC.ownAt 0 rfl) rfl Tryz.isAgg3 rfl) fun a hs => ?_
      refine gt hs 13 rfl ⟨_, rfl, rfl⟩ rfl hC (fun w hC => y_move rfl) fun a hs => ?_
      refine gt hs 14 rfl ⟨_, rfl, rfl⟩ rfl hC (fun w hC => y_nilCheck rfl) fun a hs => ?_
      refine gt hs 15 rfl ⟨_, rfl, rfl⟩ rfl hC (fun w hC => y_fieldAddr (o' := 10) Tryz.runUnderlying112 rfl Tryz.sizeOf3 rfl rfl rfl) fun a hs => ?_
      refine gt hs 16 rfl ⟨_, rfl, rfl⟩ rfl hC (fun w hC => y_loadB1 (hC.ownAt 0 rfl) rfl Tryz.isAgg3 rfl) fun a hs => ?_
      refine gt hs 17 rfl ⟨_, rfl, rfl⟩ rfl hC (fun w hC => y_fieldAddr (o' := 2) Tryz.runUnderlying24 rfl Tryz.sizeOf3 rfl rfl rfl) fun a hs => ?_
      refine gt hs 18 rfl ⟨_, rfl, rfl⟩ rfl hC (fun w hC => y_loadB1 (hC.ownAt 1 rfl) rfl Tryz.isAgg3 rfl) fun a hs => ?_
      refine ho 19 rfl ?_
      refine st_callR hs (detector_reaches_ok h243 hw.bdom) (do_call Tryz.call89 rfl) ⟨_, rfl, rfl⟩ rfl rfl ?_
      intro v248 Sv245 w a h246 h247 hs
      subst h247
      have hw := hw.callB h246
      refine h_nx (hw.cs [0, 1, 2, 3] [] rfl rfl) fun hC => ?_
      refine gv hs 20 rfl rfl hC (fun w hC => y_pickTE (v := .bool c239) rfl rfl (vbs h242)) fun a hs => ?_
      refine gv hs 21 rfl rfl hC (fun w hC => y_assign rfl) fun a hs => ?_
      refine h_done (by kernel_rfl) ?_
      exact ⟨Sv191, (hs.wk rfl), (hw.ft [0, 1, 2, 3] [0, 1] (by decide) rfl rfl)⟩
     have h250 := ite_f hc239 h241
     refine h_b (C := Cls [.box b2 [.int .i64 wv1.Watch.Detector.Short, .int .i64 wv1.Watch.Detector.Long, .int .i64 wv1.Watch.Detector.On, .int .i64 wv1.Watch.Detector.Off, .slice p3 wv1.Watch.Past.length k4, .int .i64 (w64 (wv1.Watch.Count + 1)), .int .i64 wv1.Watch.Open.On, .int .i64 wv1.Watch.Open.Off, .int .i64 wv1.Watch.Open.Peak, .int .i64 (w64 (wv1.short_ + rv14)), .int .i64 (w64 (wv1.long_ + rv14)), .slice p6 wv1.ended_.length k7] 112, .box b12 [.int .i64 wv1.Watch.Detector.Short, .int .i64 wv1.Watch.Detector.Long, .int .i64 wv1.Watch.Detector.On, .int .i64 wv1.Watch.Detector.Off] 24, .rowo p3 wv1.Watch.Past.length k4 c5 3 1, .row p6 wv1.ended_.length k7 c8 28 3] []) (by kernel_rfl) rfl (hw.drew.cs [0, 1, 2, 3] [] rfl rfl) fun hC => ?_
     have hw := hw.drew
     refine gm hs 0 rfl rfl rfl hC fun a hs => ?_
     refine gv hs 1 rfl rfl hC (fun w hC => y_nilCheck rfl) fun a hs => ?_
     refine gv hs 2 rfl rfl hC (fun w hC => y_fieldAddr (o' := 0) Tryz.runUnderlying112 rfl Tryz.sizeOf105 rfl rfl rfl) fun a hs => ?_
     refine gv hs 3 rfl rfl hC (fun w hC => y_fieldAddr (o' := 6) Tryz.runUnderlying105 rfl Tryz.sizeOf28 rfl rfl rfl) fun a hs => ?_
     refine gv hs 4 rfl rfl hC (fun w hC => y_fieldAddr (o' := 6) Tryz.runUnderlying28 rfl Tryz.sizeOf3 rfl rfl rfl) fun a hs => ?_
     refine gv hs 5 rfl rfl hC (fun w hC => y_loadB1 (hC.ownAt 0 rfl) rfl Tryz.isAgg3 rfl) fun a hs => ?_
     refine gv hs 6 rfl rfl hC (fun w hC => y_lss rfl rfl) fun a hs => ?_
     refine gm hs 7 rfl rfl rfl hC fun a hs => ?_
     have hs := hs.fix 109 (.bool false) rfl (vb h241)
     refine gs hs 8 rfl rfl rfl rfl hC fun a hs => ?_
     refine gs hs 9 rfl rfl rfl rfl hC fun a hs => ?_
     refine gs hs 10 rfl rfl rfl rfl hC fun a hs => ?_
     refine gs hs 11 rfl rfl rfl rfl hC fun a hs => ?_
     refine gs hs 12 rfl rfl rfl rfl hC fun a hs => ?_
     refine gs hs 13 rfl rfl rfl rfl hC fun a hs => ?_
     refine gs hs 14 rfl rfl rfl rfl hC fun a hs => ?_
     refine gs hs 15 rfl rfl rfl rfl hC fun a hs => ?_
     refine gs hs 16 rfl rfl rfl rfl hC fun a hs => ?_
     refine gs hs 17 rfl rfl rfl rfl hC fun a hs => ?_
     refine gs hs 18 rfl rfl rfl rfl hC fun a hs => ?_
     refine gs hs 19 rfl rfl rfl rfl hC fun a hs => ?_
     refine gv hs 20 rfl rfl hC (fun w hC => y_pickFE (v := .bool c239) rfl rfl (vbs h250)) fun a hs => ?_
     refine gv hs 21 rfl rfl hC (fun w hC => y_assign rfl) fun a hs => ?_
     refine h_done (by kernel_rfl) ?_
     exact ⟨Sv191, (hs.wk rfl), (hw.ft [0, 1, 2, 3] [0, 1] (by decide) rfl rfl)⟩
    rintro a w ⟨Sv240, hs, hw⟩
    refine then_normal ?_
    refine wp_join (fun a w => ∃ (x253 : Int) (x254 : Int) (x255 : Int) (Sv252 : Nat → Prop), detector_window_look_j6 wv1 rv14 x253 x254 x255 = some r ∧ Sl 227 [(0, .pointer (some ⟨b2, 0, none⟩)), (1, .int .i64 rv14), (4, .pointer (some ⟨b12, 0, none⟩))] a ∧ Wd ⟨w0, S0, blks [.box b2 [.int .i64 wv1.Watch.Detector.Short, .int .i64 wv1.Watch.Detector.Long, .int .i64 wv1.Watch.Detector.On, .int .i64 wv1.Watch.Detector.Off, .slice p3 wv1.Watch.Past.length k4, .int .i64 wv1.Watch.Count, .int .i64 wv1.Watch.Open.On, .int .i64 wv1.Watch.Open.Off, .int .i64 wv1.Watch.Open.Peak, .int .i64 wv1.short_, .int .i64 wv1.long_, .slice p6 wv1.ended_.length k7] 112, .rowo p3 wv1.Watch.Past.length k4 c5 3 1, .row p6 wv1.ended_.length k7 c8 28 3]⟩ Sv252 [.box b2 [.int .i64 wv1.Watch.Detector.Short, .int .i64 wv1.Watch.Detector.Long, .int .i64 wv1.Watch.Detector.On, .int .i64 wv1.Watch.Detector.Off, .slice p3 wv1.Watch.Past.length k4, .int .i64 (w64 (wv1.Watch.Count + 1)), .int .i64 x253, .int .i64 x254, .int .i64 x255, .int .i64 (w64 (wv1.short_ + rv14)), .int .i64 (w64 (wv1.long_ + rv14)), .slice p6 wv1.ended_.length k7] 112, .box b12 [.int .i64 wv1.Watch.Detector.Short, .int .i64 wv1.Watch.Detector.Long, .int .i64 wv1.Watch.Detector.On, .int .i64 wv1.Watch.Detector.Off] 24, .rowo p3 wv1.Watch.Past.length k4 c5 3 1, .row p6 wv1.ended_.length k7 c8 28 3] [RowA c5 wv1.Watch.Past, RowA c8 wv1.ended_] w) ?_ ?_
    ·refine wp_cond_split (hs.ev rfl) (fun h256 => ?_) (fun h256 => ?_)
     ·have hsh := ite_t hsh h256
      refine wp_region_lit ?_
      refine mv hs rfl rfl fun a hs => ?_
      refine mv hs rfl rfl fun a hs => ?_
      refine sv hs (y_nilCheck rfl) rfl fun a hs => ?_
      refine sv hs (y_fieldAddr (o' := 0) Tryz.runUnderlying112 rfl Tryz.sizeOf105 rfl rfl rfl) rfl fun a hs => ?_
      refine sv hs (y_fieldAddr (o' := 5) Tryz.runUnderlying105 rfl Tryz.sizeOf3 rfl rfl rfl) rfl fun a hs => ?_
      refine sv hs (y_loadB1 (hw.ownAt 0 rfl) rfl Tryz.isAgg3 rfl) rfl fun a hs => ?_
      refine sv hs (y_sub rfl rfl) rfl fun a hs => ?_
      refine sv hs (y_build (vs := [(0, .int .i64 (w64 ((w64 (wv1.Watch.Count + 1)) - 1))), (1, .int .i64 (-1))]) Bld28 rfl rfl) rfl fun a hs => ?_
      refine sv hs (y_nilCheck rfl) rfl fun a hs => ?_
      refine sv hs (y_fieldAddr (o' := 0) Tryz.runUnderlying112 rfl Tryz.sizeOf105 rfl rfl rfl) rfl fun a hs => ?_
      refine sv hs (y_fieldAddr (o' := 6) Tryz.runUnderlying105 rfl Tryz.sizeOf28 rfl rfl rfl) rfl fun a hs => ?_
      refine w_store (m := 3) (cs' := [.int .i64 wv1.Watch.Detector.Short, .int .i64 wv1.Watch.Detector.Long, .int .i64 wv1.Watch.Detector.On, .int .i64 wv1.Watch.Detector.Off, .slice p3 wv1.Watch.Past.length k4, .int .i64 (w64 (wv1.Watch.Count + 1)), .int .i64 (w64 ((w64 (wv1.Watch.Count + 1)) - 1)), .int .i64 (-1), .int .i64 0, .int .i64 (w64 (wv1.short_ + rv14)), .int .i64 (w64 (wv1.long_ + rv14)), .slice p6 wv1.ended_.length k7]) hs hw 0 rfl rfl rfl Tryz.sizeOf28 rfl rfl rfl rfl trivial ?_
      intro a w hs hw
      refine nl ?_
      exact ⟨(w64 ((w64 (wv1.Watch.Count + 1)) - 1)), (-1), 0, Sv240, hsh, (hs.wk rfl), (hw.ft [0, 1, 2, 3] [0, 1] (by decide) rfl rfl)⟩
     have hsh := ite_f hsh h256
     refine wp_skip ?_
     refine then_normal ?_
     exact ⟨wv1.Watch.Open.On, wv1.Watch.Open.Off, wv1.Watch.Open.Peak, Sv240, hsh, (hs.wk rfl), (hw.ft [0, 1, 2, 3] [0, 1] (by decide) rfl rfl)⟩
    rintro a w ⟨x253, x254, x255, Sv252, hsh, hs, hw⟩
    delta detector_window_look_j6 at hsh
    refine then_normal ?_
    exact ⟨x253, x254, x255, wv1.ended_, c8, p6, k7, Sv252, hsh, (hs.wk rfl), (hw.ft [0, 1, 2, 3] [0, 1] (by decide) rfl rfl)⟩
   rintro a w ⟨x224, x225, x226, x227, c220, p221, k222, Sv223, hsh, hs, hw⟩
   delta detector_window_look_j5 at hsh
   refine blk_normal ?_
   refine then_normal ?_
   exact ⟨x224, x225, x226, x227, c220, p221, k222, Sv223, hsh, (hs.wk rfl), (hw.ft [0, 1, 2, 3] [0, 1] (by decide) rfl rfl)⟩
  have hsh := ite_f hsh h157
  refine wp_skip ?_
  refine then_normal ?_
  exact ⟨wv1.Watch.Open.On, wv1.Watch.Open.Off, wv1.Watch.Open.Peak, wv1.ended_, c8, p6, k7, Sv21, hsh, (hs.wk rfl), (hw.ft [0, 1, 2, 3] [0, 1] (by decide) rfl rfl)⟩
 rintro a w ⟨x57, x58, x59, x60, c53, p54, k55, Sv56, hsh, hs, hw⟩
 delta detector_window_look_j1 at hsh
 refine then_normal ?_
 refine wp_seq ?_
 refine sr ?_
 refine mv hs rfl rfl fun a hs => ?_
 refine sv hs (y_nilCheck rfl) rfl fun a hs => ?_
 refine sv hs (y_fieldAddr (o' := 0) Tryz.runUnderlying112 rfl Tryz.sizeOf105 rfl rfl rfl) rfl fun a hs => ?_
 refine sv hs (y_fieldAddr (o' := 6) Tryz.runUnderlying105 rfl Tryz.sizeOf28 rfl rfl rfl) rfl fun a hs => ?_
 refine sv hs (y_fieldAddr (o' := 6) Tryz.runUnderlying28 rfl Tryz.sizeOf3 rfl rfl rfl) rfl fun a hs => ?_
 refine sv hs (y_loadB1 (hw.ownAt 0 rfl) rfl Tryz.isAgg3 rfl) rfl fun a hs => ?_
 refine sv hs (y_geq rfl rfl) rfl fun a hs => ?_
 refine nl ?_
 refine wp_join (fun a w => ∃ (x63 : Int) (Sv62 : Nat → Prop), detector_window_look_j2 wv1 rv14 x57 x58 x60 x63 = some r ∧ Sl 227 [(0, .pointer (some ⟨b2, 0, none⟩)), (1, .int .i64 rv14), (4, .pointer (some ⟨b12, 0, none⟩))] a ∧ Wd ⟨w0, S0, blks [.box b2 [.int .i64 wv1.Watch.Detector.Short, .int .i64 wv1.Watch.Detector.Long, .int .i64 wv1.Watch.Detector.On, .int .i64 wv1.Watch.Detector.Off, .slice p3 wv1.Watch.Past.length k4, .int .i64 wv1.Watch.Count, .int .i64 wv1.Watch.Open.On, .int .i64 wv1.Watch.Open.Off, .int .i64 wv1.Watch.Open.Peak, .int .i64 wv1.short_, .int .i64 wv1.long_, .slice p6 wv1.ended_.length k7] 112, .rowo p3 wv1.Watch.Past.length k4 c5 3 1, .row p6 wv1.ended_.length k7 c8 28 3]⟩ Sv62 [.box b2 [.int .i64 wv1.Watch.Detector.Short, .int .i64 wv1.Watch.Detector.Long, .int .i64 wv1.Watch.Detector.On, .int .i64 wv1.Watch.Detector.Off, .slice p3 wv1.Watch.Past.length k4, .int .i64 (w64 (wv1.Watch.Count + 1)), .int .i64 x57, .int .i64 x58, .int .i64 x63, .int .i64 (w64 (wv1.short_ + rv14)), .int .i64 (w64 (wv1.long_ + rv14)), .slice p54 x60.length k55] 112, .box b12 [.int .i64 wv1.Watch.Detector.Short, .int .i64 wv1.Watch.Detector.Long, .int .i64 wv1.Watch.Detector.On, .int .i64 wv1.Watch.Detector.Off] 24, .rowo p3 wv1.Watch.Past.length k4 c5 3 1, .row p54 x60.length k55 c53 28 3] [RowA c5 wv1.Watch.Past, RowA c53 x60] w) ?_ ?_
 ·refine wp_cond_split (hs.ev rfl) (fun h156 => ?_) (fun h156 => ?_)
  ·have hsh := ite_t hsh h156
   refine wp_region_lit ?_
   refine mv hs rfl rfl fun a hs => ?_
   refine mv hs rfl rfl fun a hs => ?_
   refine sv hs (y_nilCheck rfl) rfl fun a hs => ?_
   refine sv hs (y_fieldAddr (o' := 0) Tryz.runUnderlying112 rfl Tryz.sizeOf105 rfl rfl rfl) rfl fun a hs => ?_
   refine sv hs (y_fieldAddr (o' := 6) Tryz.runUnderlying105 rfl Tryz.sizeOf28 rfl rfl rfl) rfl fun a hs => ?_
   refine sv hs (y_fieldAddr (o' := 8) Tryz.runUnderlying28 rfl Tryz.sizeOf3 rfl rfl rfl) rfl fun a hs => ?_
   refine sv hs (y_loadB1 (hw.ownAt 0 rfl) rfl Tryz.isAgg3 rfl) rfl fun a hs => ?_
   refine mv hs rfl rfl fun a hs => ?_
   refine sv hs (y_max rfl rfl) rfl fun a hs => ?_
   refine sv hs (y_nilCheck rfl) rfl fun a hs => ?_
   refine sv hs (y_fieldAddr (o' := 0) Tryz.runUnderlying112 rfl Tryz.sizeOf105 rfl rfl rfl) rfl fun a hs => ?_
   refine sv hs (y_fieldAddr (o' := 6) Tryz.runUnderlying105 rfl Tryz.sizeOf28 rfl rfl rfl) rfl fun a hs => ?_
   refine sv hs (y_fieldAddr (o' := 8) Tryz.runUnderlying28 rfl Tryz.sizeOf3 rfl rfl rfl) rfl fun a hs => ?_
   refine w_store (m := 1) (cs' := [.int .i64 wv1.Watch.Detector.Short, .int .i64 wv1.Watch.Detector.Long, .int .i64 wv1.Watch.Detector.On, .int .i64 wv1.Watch.Detector.Off, .slice p3 wv1.Watch.Past.length k4, .int .i64 (w64 (wv1.Watch.Count + 1)), .int .i64 x57, .int .i64 x58, .int .i64 (max x59 rv14), .int .i64 (w64 (wv1.short_ + rv14)), .int .i64 (w64 (wv1.long_ + rv14)), .slice p54 x60.length k55]) hs hw 0 rfl rfl rfl Tryz.sizeOf3 rfl rfl rfl rfl trivial ?_
   intro a w hs hw
   refine nl ?_
   exact ⟨(max x59 rv14), Sv56, hsh, (hs.wk rfl), (hw.ft [0, 1, 2, 3] [0, 1] (by decide) rfl rfl)⟩
  have hsh := ite_f hsh h156
  refine wp_skip ?_
  refine then_normal ?_
  exact ⟨x59, Sv56, hsh, (hs.wk rfl), (hw.ft [0, 1, 2, 3] [0, 1] (by decide) rfl rfl)⟩
 rintro a w ⟨x63, Sv62, hsh, hs, hw⟩
 delta detector_window_look_j2 at hsh
 refine then_normal ?_
 refine sr ?_
 refine mv hs rfl rfl fun a hs => ?_
 refine mv hs rfl rfl fun a hs => ?_
 refine sv hs (y_nilCheck rfl) rfl fun a hs => ?_
 refine sv hs (y_fieldAddr (o' := 0) Tryz.runUnderlying112 rfl Tryz.sizeOf105 rfl rfl rfl) rfl fun a hs => ?_
 refine sv hs (y_fieldAddr (o' := 4) Tryz.runUnderlying105 rfl Tryz.sizeOf22 rfl rfl rfl) rfl fun a hs => ?_
 refine sv hs (y_loadB1 (hw.ownAt 0 rfl) rfl Tryz.isAgg22 rfl) rfl fun a hs => ?_
 refine mv hs rfl rfl fun a hs => ?_
 refine w_litSlice (α := Int) (vs := [.int .i64 rv14]) (cs := [.int .i64 rv14]) (xs := ([rv14] : List Int)) hs hw El22 rfl rfl rfl rfl rfl rfl ⟨⟨_, rfl, rfl⟩, rfl⟩ rfl trivial rfl fun b65 a w hs hw => ?_
 obtain ⟨l67, h66, hsh⟩ := bind_t hsh
 refine w_appendOR (α := Int) hs hw El22 3 rfl rfl rfl 1 rfl 0 rfl 0 rfl h66 rfl trivial ?_
 intro p68 k69 c70 a w hs hw
 refine sv hs (y_nilCheck rfl) rfl fun a hs => ?_
 refine sv hs (y_fieldAddr (o' := 0) Tryz.runUnderlying112 rfl Tryz.sizeOf105 rfl rfl rfl) rfl fun a hs => ?_
 refine sv hs (y_fieldAddr (o' := 4) Tryz.runUnderlying105 rfl Tryz.sizeOf22 rfl rfl rfl) rfl fun a hs => ?_
 refine w_store (m := 1) (cs' := [.int .i64 wv1.Watch.Detector.Short, .int .i64 wv1.Watch.Detector.Long, .int .i64 wv1.Watch.Detector.On, .int .i64 wv1.Watch.Detector.Off, .slice p68 l67.length k69, .int .i64 (w64 (wv1.Watch.Count + 1)), .int .i64 x57, .int .i64 x58, .int .i64 x63, .int .i64 (w64 (wv1.short_ + rv14)), .int .i64 (w64 (wv1.long_ + rv14)), .slice p54 x60.length k55]) hs hw 1 rfl rfl rfl Tryz.sizeOf22 rfl rfl rfl rfl trivial ?_
 intro a w hs hw
 refine nl ?_
 refine wp_seq ?_
 refine sr ?_
 refine mv hs rfl rfl fun a hs => ?_
 refine sv hs (y_nilCheck rfl) rfl fun a hs => ?_
 refine sv hs (y_fieldAddr (o' := 0) Tryz.runUnderlying112 rfl Tryz.sizeOf105 rfl rfl rfl) rfl fun a hs => ?_
 refine sv hs (y_fieldAddr (o' := 4) Tryz.runUnderlying105 rfl Tryz.sizeOf22 rfl rfl rfl) rfl fun a hs => ?_
 refine sv hs (y_loadB1 (hw.ownAt 1 rfl) rfl Tryz.isAgg22 rfl) rfl fun a hs => ?_
 refine sv hs (y_len Tryz.runUnderlying22 rfl) rfl fun a hs => ?_
 obtain ⟨n72, h71, hsh⟩ := bind_t hsh
 refine sv hs (y_assignI rfl h71) rfl fun a hs => ?_
 refine nl ?_
 refine sr ?_
 refine mv hs rfl rfl fun a hs => ?_
 refine sv hs (y_fieldAddr (o' := 0) Tryz.runUnderlying24 rfl Tryz.sizeOf3 rfl rfl rfl) rfl fun a hs => ?_
 refine sv hs (y_loadB1 (hw.ownAt 2 rfl) rfl Tryz.isAgg3 rfl) rfl fun a hs => ?_
 refine sv hs (y_geq rfl rfl) rfl fun a hs => ?_
 refine nl ?_
 refine wp_join (fun a w => ∃ (x90 : Int) (Sv89 : Nat → Prop), detector_window_look_j3 wv1 rv14 x57 x58 x60 x63 l67 x90 = some r ∧ Sl 227 [(0, .pointer (some ⟨b2, 0, none⟩)), (4, .pointer (some ⟨b12, 0, none⟩))] a ∧ Wd ⟨w0, S0, blks [.box b2 [.int .i64 wv1.Watch.Detector.Short, .int .i64 wv1.Watch.Detector.Long, .int .i64 wv1.Watch.Detector.On, .int .i64 wv1.Watch.Detector.Off, .slice p3 wv1.Watch.Past.length k4, .int .i64 wv1.Watch.Count, .int .i64 wv1.Watch.Open.On, .int .i64 wv1.Watch.Open.Off, .int .i64 wv1.Watch.Open.Peak, .int .i64 wv1.short_, .int .i64 wv1.long_, .slice p6 wv1.ended_.length k7] 112, .rowo p3 wv1.Watch.Past.length k4 c5 3 1, .row p6 wv1.ended_.length k7 c8 28 3]⟩ Sv89 [.box b2 [.int .i64 wv1.Watch.Detector.Short, .int .i64 wv1.Watch.Detector.Long, .int .i64 wv1.Watch.Detector.On, .int .i64 wv1.Watch.Detector.Off, .slice p68 l67.length k69, .int .i64 (w64 (wv1.Watch.Count + 1)), .int .i64 x57, .int .i64 x58, .int .i64 x63, .int .i64 x90, .int .i64 (w64 (wv1.long_ + rv14)), .slice p54 x60.length k55] 112, .box b12 [.int .i64 wv1.Watch.Detector.Short, .int .i64 wv1.Watch.Detector.Long, .int .i64 wv1.Watch.Detector.On, .int .i64 wv1.Watch.Detector.Off] 24, .rowo p68 l67.length k69 c70 3 1, .row p54 x60.length k55 c53 28 3] [RowA c70 l67, RowA c53 x60] w) ?_ ?_
 ·refine wp_cond_split (hs.ev rfl) (fun h140 => ?_) (fun h140 => ?_)
  ·have hsh := ite_t hsh h140
   obtain ⟨x143, h141, hsh⟩ := bind_t hsh
   obtain ⟨b150, o151, q147, c148, h152, h144, h145, h149, h142⟩ := hw.elemOV (α := Int) 3 rfl 0 rfl h141
   have hsv153 := hs
   have hwv154 := hw
   subst h152
   have hs := hsv153
   have hw := hwv154
   obtain ⟨_, rfl, rfl⟩ := h142
   refine wp_only (fun a w => ∃ (Sv155 : Nat → Prop), Sl 227 [(0, .pointer (some ⟨b2, 0, none⟩)), (4, .pointer (some ⟨b12, 0, none⟩))] a ∧ Wd ⟨w0, S0, blks [.box b2 [.int .i64 wv1.Watch.Detector.Short, .int .i64 wv1.Watch.Detector.Long, .int .i64 wv1.Watch.Detector.On, .int .i64 wv1.Watch.Detector.Off, .slice p3 wv1.Watch.Past.length k4, .int .i64 wv1.Watch.Count, .int .i64 wv1.Watch.Open.On, .int .i64 wv1.Watch.Open.Off, .int .i64 wv1.Watch.Open.Peak, .int .i64 wv1.short_, .int .i64 wv1.long_, .slice p6 wv1.ended_.length k7] 112, .rowo p3 wv1.Watch.Past.length k4 c5 3 1, .row p6 wv1.ended_.length k7 c8 28 3]⟩ Sv155 [.box b2 [.int .i64 wv1.Watch.Detector.Short, .int .i64 wv1.Watch.Detector.Long, .int .i64 wv1.Watch.Detector.On, .int .i64 wv1.Watch.Detector.Off, .slice (some ⟨b150, o151, none⟩) l67.length k69, .int .i64 (w64 (wv1.Watch.Count + 1)), .int .i64 x57, .int .i64 x58, .int .i64 x63, .int .i64 (w64 ((w64 (wv1.short_ + rv14)) - x143)), .int .i64 (w64 (wv1.long_ + rv14)), .slice p54 x60.length k55] 112, .box b12 [.int .i64 wv1.Watch.Detector.Short, .int .i64 wv1.Watch.Detector.Long, .int .i64 wv1.Watch.Detector.On, .int .i64 wv1.Watch.Detector.Off] 24, .rowo (some ⟨b150, o151, none⟩) l67.length k69 c70 3 1, .row p54 x60.length k55 c53 28 3] [RowA c70 l67, RowA c53 x60] w) ?_ ?_
   ·refine h_b (C := Cls [.row (some ⟨b65, 0, none⟩) ([rv14] : List Int).length ([rv14] : List Int).length [.int .i64 rv14] 3 1, .box b12 [.int .i64 wv1.Watch.Detector.Short, .int .i64 wv1.Watch.Detector.Long, .int .i64 wv1.Watch.Detector.On, .int .i64 wv1.Watch.Detector.Off] 24, .rowo (some ⟨b150, o151, none⟩) l67.length k69 c70 3 1, .row p54 x60.length k55 c53 28 3] []) (by kernel_rfl) rfl (hw.drew.cs [0, 2, 3, 4] [] rfl rfl) fun hC => ?_
    have hw := hw.drew
    refine gm hs 0 rfl rfl rfl hC fun a hs => ?_
    refine gv hs 1 rfl rfl hC (fun w hC => y_nilCheck rfl) fun a hs => ?_
    refine gv hs 2 rfl rfl hC (fun w hC => y_fieldAddr (o' := 9) Tryz.runUnderlying112 rfl Tryz.sizeOf3 rfl rfl rfl) fun a hs => ?_
    refine gm hs 4 rfl rfl rfl hC fun a hs => ?_
    refine gv hs 5 rfl rfl hC (fun w hC => y_nilCheck rfl) fun a hs => ?_
    refine gv hs 6 rfl rfl hC (fun w hC => y_fieldAddr (o' := 0) Tryz.runUnderlying112 rfl Tryz.sizeOf105 rfl rfl rfl) fun a hs => ?_
    refine gv hs 7 rfl rfl hC (fun w hC => y_fieldAddr (o' := 4) Tryz.runUnderlying105 rfl Tryz.sizeOf22 rfl rfl rfl) fun a hs => ?_
    refine gm hs 9 rfl rfl rfl hC fun a hs => ?_
    refine gv hs 10 rfl rfl hC (fun w hC => y_fieldAddr (o' := 0) Tryz.runUnderlying24 rfl Tryz.sizeOf3 rfl rfl rfl) fun a hs => ?_
    refine gv hs 11 rfl rfl hC (fun w hC => y_loadB1 (hC.ownAt 1 rfl) rfl Tryz.isAgg3 rfl) fun a hs => ?_
    refine gv hs 12 rfl rfl hC (fun w hC => y_sub rfl rfl) fun a hs => ?_
    refine h_all (rs := [3, 8]) (by kernel_rfl) rfl ?_
    refine AllH.cons rfl ?_ ?_
    ·refine sv hs (y_loadB1 (hw.ownAt 1 rfl) rfl Tryz.isAgg3 rfl) rfl fun a hs => ?_
     refine h_nx (hw.cs [0, 2, 3, 4] [] rfl rfl) fun hC => ?_
     refine ho 8 rfl ?_
     refine sv hs (y_loadB1 (hw.ownAt 1 rfl) rfl Tryz.isAgg22 rfl) rfl fun a hs => ?_
     refine h_nx (hw.cs [0, 2, 3, 4] [] rfl rfl) fun hC => ?_
     refine gv hs 13 rfl rfl hC (fun w hC => y_indexAt Tryz.runUnderlying22 Tryz.sizeOf3 rfl rfl h144.1 h144.2 h145) fun a hs => ?_
     refine gv hs 14 rfl rfl hC (fun w hC => y_loadO1 (j := 0) (hC.ownAt 2 rfl) rfl Tryz.isAgg3 h149 rfl) fun a hs => ?_
     refine gv hs 15 rfl rfl hC (fun w hC => y_sub rfl rfl) fun a hs => ?_
     refine gv hs 16 rfl rfl hC (fun w hC => y_nilCheck rfl) fun a hs => ?_
     refine gv hs 17 rfl rfl hC (fun w hC => y_fieldAddr (o' := 9) Tryz.runUnderlying112 rfl Tryz.sizeOf3 rfl rfl rfl) fun a hs => ?_
     refine ho 18 rfl ?_
     refine w_store (m := 1) (cs' := [.int .i64 wv1.Watch.Detector.Short, .int .i64 wv1.Watch.Detector.Long, .int .i64 wv1.Watch.Detector.On, .int .i64 wv1.Watch.Detector.Off, .slice (some ⟨b150, o151, none⟩) l67.length k69, .int .i64 (w64 (wv1.Watch.Count + 1)), .int .i64 x57, .int .i64 x58, .int .i64 x63, .int .i64 (w64 ((w64 (wv1.short_ + rv14)) - x143)), .int .i64 (w64 (wv1.long_ + rv14)), .slice p54 x60.length k55]) hs hw 1 rfl rfl rfl Tryz.sizeOf3 rfl rfl rfl rfl trivial ?_
     intro a w hs hw
     refine h_nx (hw.cs [0, 2, 3, 4] [] rfl rfl) fun hC => ?_
     refine h_done (by kernel_rfl) ?_
     exact ⟨Sv62, (hs.wk rfl), (hw.ft [1, 2, 3, 4] [0, 3] (by decide) rfl rfl)⟩
    refine AllH.cons rfl ?_ ?_
    ·refine sv hs (y_loadB1 (hw.ownAt 1 rfl) rfl Tryz.isAgg22 rfl) rfl fun a hs => ?_
     refine h_nx (hw.cs [0, 2, 3, 4] [] rfl rfl) fun hC => ?_
     refine gv hs 13 rfl rfl hC (fun w hC => y_indexAt Tryz.runUnderlying22 Tryz.sizeOf3 rfl rfl h144.1 h144.2 h145) fun a hs => ?_
     refine gv hs 14 rfl rfl hC (fun w hC => y_loadO1 (j := 0) (hC.ownAt 2 rfl) rfl Tryz.isAgg3 h149 rfl) fun a hs => ?_
     refine ho 3 rfl ?_
     refine sv hs (y_loadB1 (hw.ownAt 1 rfl) rfl Tryz.isAgg3 rfl) rfl fun a hs => ?_
     refine h_nx (hw.cs [0, 2, 3, 4] [] rfl rfl) fun hC => ?_
     refine gv hs 15 rfl rfl hC (fun w hC => y_sub rfl rfl) fun a hs => ?_
     refine gv hs 16 rfl rfl hC (fun w hC => y_nilCheck rfl) fun a hs => ?_
     refine gv hs 17 rfl rfl hC (fun w hC => y_fieldAddr (o' := 9) Tryz.runUnderlying112 rfl Tryz.sizeOf3 rfl rfl rfl) fun a hs => ?_
     refine ho 18 rfl ?_
     refine w_store (m := 1) (cs' := [.int .i64 wv1.Watch.Detector.Short, .int .i64 wv1.Watch.Detector.Long, .int .i64 wv1.Watch.Detector.On, .int .i64 wv1.Watch.Detector.Off, .slice (some ⟨b150, o151, none⟩) l67.length k69, .int .i64 (w64 (wv1.Watch.Count + 1)), .int .i64 x57, .int .i64 x58, .int .i64 x63, .int .i64 (w64 ((w64 (wv1.short_ + rv14)) - x143)), .int .i64 (w64 (wv1.long_ + rv14)), .slice p54 x60.length k55]) hs hw 1 rfl rfl rfl Tryz.sizeOf3 rfl rfl rfl rfl trivial ?_
     intro a w hs hw
     refine h_nx (hw.cs [0, 2, 3, 4] [] rfl rfl) fun hC => ?_
     refine h_done (by kernel_rfl) ?_
     exact ⟨Sv62, (hs.wk rfl), (hw.ft [1, 2, 3, 4] [0, 3] (by decide) rfl rfl)⟩
    exact AllH.nil
   rintro a w ⟨Sv155, hs, hw⟩
   refine then_normal ?_
   exact ⟨(w64 ((w64 (wv1.short_ + rv14)) - x143)), Sv155, hsh, (hs.wk rfl), (hw.ft [0, 1, 2, 3] [0, 1] (by decide) rfl rfl)⟩
  have hsh := ite_f hsh h140
  refine wp_skip ?_
  refine then_normal ?_
  exact ⟨(w64 (wv1.short_ + rv14)), Sv62, hsh, (hs.wk rfl), (hw.ft [1, 2, 3, 4] [0, 3] (by decide) rfl rfl)⟩
 rintro a w ⟨x90, Sv89, hsh, hs, hw⟩
 delta detector_window_look_j3 at hsh
 refine then_normal ?_
 refine wp_seq ?_
 refine wp_only (fun a w => ∃ (Sv91 : Nat → Prop), Sl 227 [(0, .pointer (some ⟨b2, 0, none⟩)), (202, .bool ((l67.length : Int) == wv1.Watch.Detector.Long))] a ∧ Wd ⟨w0, S0, blks [.box b2 [.int .i64 wv1.Watch.Detector.Short, .int .i64 wv1.Watch.Detector.Long, .int .i64 wv1.Watch.Detector.On, .int .i64 wv1.Watch.Detector.Off, .slice p3 wv1.Watch.Past.length k4, .int .i64 wv1.Watch.Count, .int .i64 wv1.Watch.Open.On, .int .i64 wv1.Watch.Open.Off, .int .i64 wv1.Watch.Open.Peak, .int .i64 wv1.short_, .int .i64 wv1.long_, .slice p6 wv1.ended_.length k7] 112, .rowo p3 wv1.Watch.Past.length k4 c5 3 1, .row p6 wv1.ended_.length k7 c8 28 3]⟩ Sv91 [.box b2 [.int .i64 wv1.Watch.Detector.Short, .int .i64 wv1.Watch.Detector.Long, .int .i64 wv1.Watch.Detector.On, .int .i64 wv1.Watch.Detector.Off, .slice p68 l67.length k69, .int .i64 (w64 (wv1.Watch.Count + 1)), .int .i64 x57, .int .i64 x58, .int .i64 x63, .int .i64 x90, .int .i64 (w64 (wv1.long_ + rv14)), .slice p54 x60.length k55] 112, .rowo p68 l67.length k69 c70 3 1, .row p54 x60.length k55 c53 28 3] [RowA c70 l67, RowA c53 x60] w) ?_ ?_
 ·refine h_b (C := Cls [.box b2 [.int .i64 wv1.Watch.Detector.Short, .int .i64 wv1.Watch.Detector.Long, .int .i64 wv1.Watch.Detector.On, .int .i64 wv1.Watch.Detector.Off, .slice p68 l67.length k69, .int .i64 (w64 (wv1.Watch.Count + 1)), .int .i64 x57, .int .i64 x58, .int .i64 x63, .int .i64 x90, .int .i64 (w64 (wv1.long_ + rv14)), .slice p54 x60.length k55] 112, .box b12 [.int .i64 wv1.Watch.Detector.Short, .int .i64 wv1.Watch.Detector.Long, .int .i64 wv1.Watch.Detector.On, .int .i64 wv1.Watch.Detector.Off] 24, .rowo p68 l67.length k69 c70 3 1, .row p54 x60.length k55 c53 28 3] []) (by kernel_rfl) rfl (hw.drew.cs [0, 1, 2, 3] [] rfl rfl) fun hC => ?_
  have hw := hw.drew
  refine gm hs 0 rfl rfl rfl hC fun a hs => ?_
  refine gv hs 1 rfl rfl hC (fun w hC => y_nilCheck rfl) fun a hs => ?_
  refine gv hs 2 rfl rfl hC (fun w hC => y_fieldAddr (o' := 0) Tryz.runUnderlying112 rfl Tryz.sizeOf105 rfl rfl rfl) fun a hs => ?_
  refine gv hs 3 rfl rfl hC (fun w hC => y_fieldAddr (o' := 4) Tryz.runUnderlying105 rfl Tryz.sizeOf22 rfl rfl rfl) fun a hs => ?_
  refine gv hs 4 rfl rfl hC (fun w hC => y_loadB1 (hC.ownAt 0 rfl) rfl Tryz.isAgg22 rfl) fun a hs => ?_
  refine gv hs 5 rfl rfl hC (fun w hC => y_len Tryz.runUnderlying22 rfl) fun a hs => ?_
  refine gv hs 6 rfl rfl hC (fun w hC => y_fieldAddr (o' := 1) Tryz.runUnderlying24 rfl Tryz.sizeOf3 rfl rfl rfl) fun a hs => ?_
  refine gv hs 7 rfl rfl hC (fun w hC => y_loadB1 (hC.ownAt 1 rfl) rfl Tryz.isAgg3 rfl) fun a hs => ?_
  refine gv hs 8 rfl rfl hC (fun w hC => y_eql rfl rfl) fun a hs => ?_
  refine h_done (by kernel_rfl) ?_
  exact ⟨Sv89, (hs.wk rfl), (hw.ft [0, 2, 3] [0, 1] (by decide) rfl rfl)⟩
 rintro a w ⟨Sv91, hs, hw⟩
 refine then_normal ?_
 refine wp_join (fun a w => ∃ (x117 : (List Int)) (x118 : Int) (c113 : List Value) (p114 : Option Addr) (k115 : Nat) (Sv116 : Nat → Prop), detector_window_look_j4 wv1 x57 x58 x60 x63 x90 x117 x118 = some r ∧ Sl 227 [] a ∧ Wd ⟨w0, S0, blks [.box b2 [.int .i64 wv1.Watch.Detector.Short, .int .i64 wv1.Watch.Detector.Long, .int .i64 wv1.Watch.Detector.On, .int .i64 wv1.Watch.Detector.Off, .slice p3 wv1.Watch.Past.length k4, .int .i64 wv1.Watch.Count, .int .i64 wv1.Watch.Open.On, .int .i64 wv1.Watch.Open.Off, .int .i64 wv1.Watch.Open.Peak, .int .i64 wv1.short_, .int .i64 wv1.long_, .slice p6 wv1.ended_.length k7] 112, .rowo p3 wv1.Watch.Past.length k4 c5 3 1, .row p6 wv1.ended_.length k7 c8 28 3]⟩ Sv116 [.box b2 [.int .i64 wv1.Watch.Detector.Short, .int .i64 wv1.Watch.Detector.Long, .int .i64 wv1.Watch.Detector.On, .int .i64 wv1.Watch.Detector.Off, .slice p114 x117.length k115, .int .i64 (w64 (wv1.Watch.Count + 1)), .int .i64 x57, .int .i64 x58, .int .i64 x63, .int .i64 x90, .int .i64 x118, .slice p54 x60.length k55] 112, .rowo p114 x117.length k115 c113 3 1, .row p54 x60.length k55 c53 28 3] [RowA c113 x117, RowA c53 x60] w) ?_ ?_
 ·refine wp_cond_split (hs.ev rfl) (fun h119 => ?_) (fun h119 => ?_)
  ·have hsh := ite_t hsh h119
   refine wp_seq ?_
   obtain ⟨x122, h120, hsh⟩ := bind_t hsh
   obtain ⟨b129, o130, q126, c127, h131, h123, h124, h128, h121⟩ := hw.elemOV (α := Int) 1 rfl 0 rfl h120
   have hsv132 := hs
   have hwv133 := hw
   subst h131
   have hs := hsv132
   have hw := hwv133
   obtain ⟨_, rfl, rfl⟩ := h121
   refine wp_only (fun a w => ∃ (Sv134 : Nat → Prop), Sl 227 [(0, .pointer (some ⟨b2, 0, none⟩))] a ∧ Wd ⟨w0, S0, blks [.box b2 [.int .i64 wv1.Watch.Detector.Short, .int .i64 wv1.Watch.Detector.Long, .int .i64 wv1.Watch.Detector.On, .int .i64 wv1.Watch.Detector.Off, .slice p3 wv1.Watch.Past.length k4, .int .i64 wv1.Watch.Count, .int .i64 wv1.Watch.Open.On, .int .i64 wv1.Watch.Open.Off, .int .i64 wv1.Watch.Open.Peak, .int .i64 wv1.short_, .int .i64 wv1.long_, .slice p6 wv1.ended_.length k7] 112, .rowo p3 wv1.Watch.Past.length k4 c5 3 1, .row p6 wv1.ended_.length k7 c8 28 3]⟩ Sv134 [.box b2 [.int .i64 wv1.Watch.Detector.Short, .int .i64 wv1.Watch.Detector.Long, .int .i64 wv1.Watch.Detector.On, .int .i64 wv1.Watch.Detector.Off, .slice (some ⟨b129, o130, none⟩) l67.length k69, .int .i64 (w64 (wv1.Watch.Count + 1)), .int .i64 x57, .int .i64 x58, .int .i64 x63, .int .i64 x90, .int .i64 (w64 ((w64 (wv1.long_ + rv14)) - x122)), .slice p54 x60.length k55] 112, .rowo (some ⟨b129, o130, none⟩) l67.length k69 c70 3 1, .row p54 x60.length k55 c53 28 3] [RowA c70 l67, RowA c53 x60] w) ?_ ?_
   ·refine h_b (C := Cls [.rowo (some ⟨b129, o130, none⟩) l67.length k69 c70 3 1, .row p54 x60.length k55 c53 28 3] []) (by kernel_rfl) rfl (hw.drew.cs [1, 2] [] rfl rfl) fun hC => ?_
    have hw := hw.drew
    refine gm hs 0 rfl rfl rfl hC fun a hs => ?_
    refine gv hs 1 rfl rfl hC (fun w hC => y_nilCheck rfl) fun a hs => ?_
    refine gv hs 2 rfl rfl hC (fun w hC => y_fieldAddr (o' := 10) Tryz.runUnderlying112 rfl Tryz.sizeOf3 rfl rfl rfl) fun a hs => ?_
    refine gm hs 4 rfl rfl rfl hC fun a hs => ?_
    refine gv hs 5 rfl rfl hC (fun w hC => y_nilCheck rfl) fun a hs => ?_
    refine gv hs 6 rfl rfl hC (fun w hC => y_fieldAddr (o' := 0) Tryz.runUnderlying112 rfl Tryz.sizeOf105 rfl rfl rfl) fun a hs => ?_
    refine gv hs 7 rfl rfl hC (fun w hC => y_fieldAddr (o' := 4) Tryz.runUnderlying105 rfl Tryz.sizeOf22 rfl rfl rfl) fun a hs => ?_
    refine h_all (rs := [3, 8]) (by kernel_rfl) rfl ?_
    refine AllH.cons rfl ?_ ?_
    ·refine sv hs (y_loadB1 (hw.ownAt 0 rfl) rfl Tryz.isAgg3 rfl) rfl fun a hs => ?_
     refine h_nx (hw.cs [1, 2] [] rfl rfl) fun hC => ?_
     refine ho 8 rfl ?_
     refine sv hs (y_loadB1 (hw.ownAt 0 rfl) rfl Tryz.isAgg22 rfl) rfl fun a hs => ?_
     refine h_nx (hw.cs [1, 2] [] rfl rfl) fun hC => ?_
     refine gv hs 9 rfl rfl hC (fun w hC => y_indexAt Tryz.runUnderlying22 Tryz.sizeOf3 rfl rfl h123.1 h123.2 h124) fun a hs => ?_
     refine gv hs 10 rfl rfl hC (fun w hC => y_loadO1 (j := 0) (hC.ownAt 0 rfl) rfl Tryz.isAgg3 h128 rfl) fun a hs => ?_
     refine gv hs 11 rfl rfl hC (fun w hC => y_sub rfl rfl) fun a hs => ?_
     refine gv hs 12 rfl rfl hC (fun w hC => y_nilCheck rfl) fun a hs => ?_
     refine gv hs 13 rfl rfl hC (fun w hC => y_fieldAddr (o' := 10) Tryz.runUnderlying112 rfl Tryz.sizeOf3 rfl rfl rfl) fun a hs => ?_
     refine ho 14 rfl ?_
     refine w_store (m := 1) (cs' := [.int .i64 wv1.Watch.Detector.Short, .int .i64 wv1.Watch.Detector.Long, .int .i64 wv1.Watch.Detector.On, .int .i64 wv1.Watch.Detector.Off, .slice (some ⟨b129, o130, none⟩) l67.length k69, .int .i64 (w64 (wv1.Watch.Count + 1)), .int .i64 x57, .int .i64 x58, .int .i64 x63, .int .i64 x90, .int .i64 (w64 ((w64 (wv1.long_ + rv14)) - x122)), .slice p54 x60.length k55]) hs hw 0 rfl rfl rfl Tryz.sizeOf3 rfl rfl rfl rfl trivial ?_
     intro a w hs hw
     refine h_nx (hw.cs [1, 2] [] rfl rfl) fun hC => ?_
     refine h_done (by kernel_rfl) ?_
     exact ⟨Sv91, (hs.wk rfl), (hw.ft [0, 1, 2] [0, 1] (by decide) rfl rfl)⟩
    refine AllH.cons rfl ?_ ?_
    ·refine sv hs (y_loadB1 (hw.ownAt 0 rfl) rfl Tryz.isAgg22 rfl) rfl fun a hs => ?_
     refine h_nx (hw.cs [1, 2] [] rfl rfl) fun hC => ?_
     refine gv hs 9 rfl rfl hC (fun w hC => y_indexAt Tryz.runUnderlying22 Tryz.sizeOf3 rfl rfl h123.1 h123.2 h124) fun a hs => ?_
     refine gv hs 10 rfl rfl hC (fun w hC => y_loadO1 (j := 0) (hC.ownAt 0 rfl) rfl Tryz.isAgg3 h128 rfl) fun a hs => ?_
     refine ho 3 rfl ?_
     refine sv hs (y_loadB1 (hw.ownAt 0 rfl) rfl Tryz.isAgg3 rfl) rfl fun a hs => ?_
     refine h_nx (hw.cs [1, 2] [] rfl rfl) fun hC => ?_
     refine gv hs 11 rfl rfl hC (fun w hC => y_sub rfl rfl) fun a hs => ?_
     refine gv hs 12 rfl rfl hC (fun w hC => y_nilCheck rfl) fun a hs => ?_
     refine gv hs 13 rfl rfl hC (fun w hC => y_fieldAddr (o' := 10) Tryz.runUnderlying112 rfl Tryz.sizeOf3 rfl rfl rfl) fun a hs => ?_
     refine ho 14 rfl ?_
     refine w_store (m := 1) (cs' := [.int .i64 wv1.Watch.Detector.Short, .int .i64 wv1.Watch.Detector.Long, .int .i64 wv1.Watch.Detector.On, .int .i64 wv1.Watch.Detector.Off, .slice (some ⟨b129, o130, none⟩) l67.length k69, .int .i64 (w64 (wv1.Watch.Count + 1)), .int .i64 x57, .int .i64 x58, .int .i64 x63, .int .i64 x90, .int .i64 (w64 ((w64 (wv1.long_ + rv14)) - x122)), .slice p54 x60.length k55]) hs hw 0 rfl rfl rfl Tryz.sizeOf3 rfl rfl rfl rfl trivial ?_
     intro a w hs hw
     refine h_nx (hw.cs [1, 2] [] rfl rfl) fun hC => ?_
     refine h_done (by kernel_rfl) ?_
     exact ⟨Sv91, (hs.wk rfl), (hw.ft [0, 1, 2] [0, 1] (by decide) rfl rfl)⟩
    exact AllH.nil
   rintro a w ⟨Sv134, hs, hw⟩
   refine then_normal ?_
   refine wp_region_lit ?_
   refine mv hs rfl rfl fun a hs => ?_
   refine mv hs rfl rfl fun a hs => ?_
   refine sv hs (y_nilCheck rfl) rfl fun a hs => ?_
   refine sv hs (y_fieldAddr (o' := 0) Tryz.runUnderlying112 rfl Tryz.sizeOf105 rfl rfl rfl) rfl fun a hs => ?_
   refine sv hs (y_fieldAddr (o' := 4) Tryz.runUnderlying105 rfl Tryz.sizeOf22 rfl rfl rfl) rfl fun a hs => ?_
   refine sv hs (y_loadB1 (hw.ownAt 0 rfl) rfl Tryz.isAgg22 rfl) rfl fun a hs => ?_
   obtain ⟨l139, h135, hsh⟩ := bind_t hsh
   obtain ⟨p137, k138, hw, h136⟩ := w_sufO hw 1 rfl 0 rfl h135
   refine sv hs (y_slc Tryz.runUnderlying22 Tryz.sizeOf3 rfl ⟨_, rfl⟩ (by exact rfl) h136) rfl fun a hs => ?_
   refine sv hs (y_nilCheck rfl) rfl fun a hs => ?_
   refine sv hs (y_fieldAddr (o' := 0) Tryz.runUnderlying112 rfl Tryz.sizeOf105 rfl rfl rfl) rfl fun a hs => ?_
   refine sv hs (y_fieldAddr (o' := 4) Tryz.runUnderlying105 rfl Tryz.sizeOf22 rfl rfl rfl) rfl fun a hs => ?_
   refine w_store (m := 1) (cs' := [.int .i64 wv1.Watch.Detector.Short, .int .i64 wv1.Watch.Detector.Long, .int .i64 wv1.Watch.Detector.On, .int .i64 wv1.Watch.Detector.Off, .slice p137 l139.length k138, .int .i64 (w64 (wv1.Watch.Count + 1)), .int .i64 x57, .int .i64 x58, .int .i64 x63, .int .i64 x90, .int .i64 (w64 ((w64 (wv1.long_ + rv14)) - x122)), .slice p54 x60.length k55]) hs hw 0 rfl rfl rfl Tryz.sizeOf22 rfl rfl rfl rfl trivial ?_
   intro a w hs hw
   refine nl ?_
   exact ⟨l139, (w64 ((w64 (wv1.long_ + rv14)) - x122)), (c70.drop ((1 : Int).toNat * 1)), p137, k138, Sv134, hsh, (hs.wk rfl), (hw.ft [0, 1, 2] [0, 2] (by decide) rfl rfl)⟩
  have hsh := ite_f hsh h119
  refine wp_skip ?_
  refine then_normal ?_
  exact ⟨l67, (w64 (wv1.long_ + rv14)), c70, p68, k69, Sv91, hsh, (hs.wk rfl), (hw.ft [0, 1, 2] [0, 1] (by decide) rfl rfl)⟩
 rintro a w ⟨x117, x118, c113, p114, k115, Sv116, hsh, hs, hw⟩
 delta detector_window_look_j4 at hsh
 have hsh := oi hsh
 subst hsh
 exact ret0 hs rfl (hw.ret ⟨p114, k115, c113, p54, k55, c53, rfl, (hw.outs [0, 1, 2] (by decide) rfl), (hw.envAt 0 rfl), (hw.envAt 1 rfl)⟩)
abbrev detector_Run_rd (w0 : World) (X : List Nat) (r : ((List Trigger) × Int)) : (Nat → Prop) → World → Value → Prop := fun S w v => ∃ (p0_0 : Option Addr) (k0_0 : Nat) (c0_0 : List Value), v = .tuple #[.slice p0_0 r.1.length k0_0, .int .i64 r.2] ∧ Outs X w0 S w [.row p0_0 r.1.length k0_0 c0_0 28 3] ∧ (RowA c0_0 r.1).p S w
set_option maxHeartbeats 4000000 in
set_option maxRecDepth 100000 in
theorem detector_Run_ok {w0 : World} {S0 : Nat → Prop} {p3 : Option Addr} {k4 : Nat} {d1 : Detector} {samples2 : (List Int)} {r : ((List Trigger) × Int)} (hsh : detector_Run d1 samples2 = some r) (hS : ∀ b, S0 b → b < w0.heap.size) (h5 : (SlA p3 samples2.length k4 samples2).p S0 w0) : Calls Tryz.prog 45 #[.agg #[.int .i64 d1.Short, .int .i64 d1.Long, .int .i64 d1.On, .int .i64 d1.Off], .slice p3 samples2.length k4] w0 (Ret ([]) w0 S0 (detector_Run_rd w0 ([]) r)) := by
 refine calls_of_wp Tryz.func45 rfl ?_
 have hs := Sl.enter #[.agg #[.int .i64 d1.Short, .int .i64 d1.Long, .int .i64 d1.On, .int .i64 d1.Off], .slice p3 samples2.length k4] 70 [(0, .agg #[.int .i64 d1.Short, .int .i64 d1.Long, .int .i64 d1.On, .int .i64 d1.Off]), (1, .slice p3 samples2.length k4)] rfl ⟨rfl, rfl, trivial⟩
 have hw := Wd.enter (E := []) hS (fun _ h => (by cases h))
 have hw := hw.addE h5
 delta detector_Run at hsh
 refine sr ?_
 refine w_box (cs := [.int .i64 d1.Short, .int .i64 d1.Long, .int .i64 d1.On, .int .i64 d1.Off]) hs hw rfl rfl rfl trivial ?_
 intro b6 a w hs hw
 refine av hs rfl rfl fun a hs => ?_
 refine av hs rfl rfl fun a hs => ?_
 refine nl ?_
 refine wp_seq ?_
 refine wp_block ?_
 refine sr ?_
 refine sv hs (y_loadBA (hw.ownAt 0 rfl) rfl Tryz.isAgg24 Tryz.sizeOf24 rfl rfl) rfl fun a hs => ?_
 obtain ⟨rv25, h24, hsh⟩ := bind_t hsh
 refine st_callR hs (detector_Valid_ok h24 hw.bdom) (do_call Tryz.call35 rfl) trivial rfl rfl ?_
 intro v29 Sv26 w a h27 h28 hs
 subst h28
 have hw := hw.callB h27
 refine sv hs (y_not rfl) rfl fun a hs => ?_
 refine av hs rfl rfl fun a hs => ?_
 refine nl ?_
 refine wp_cond_split (hs.ev rfl) (fun h41 => ?_) (fun h41 => ?_)
 ·have hsh := ite_t hsh h41
  refine sr ?_
  refine av hs rfl rfl fun a hs => ?_
  refine av hs rfl rfl fun a hs => ?_
  refine nl ?_
  have hsh := oi hsh
  subst hsh
  have hw := hw.nilRow Trigger 28
  refine wp_ret ?_
  refine blk_ret ?_
  refine then_ret ?_
  exact ret2 hs rfl (rv_tmp rfl) (rv_tmp rfl) (hw.ret ⟨none, 0, [], rfl, (hw.outs [0] (by decide) rfl), (hw.envAt 0 rfl)⟩)
 have hsh := ite_f hsh h41
 refine sr ?_
 refine mv hs rfl rfl fun a hs => ?_
 refine sv hs (y_len Tryz.runUnderlying22 rfl) rfl fun a hs => ?_
 refine sv hs (y_gtr rfl rfl) rfl fun a hs => ?_
 refine av hs rfl rfl fun a hs => ?_
 refine nl ?_
 refine wp_cond_split (hs.ev rfl) (fun h51 => ?_) (fun h51 => ?_)
 ·have hsh := ite_t hsh h51
  refine sr ?_
  refine av hs rfl rfl fun a hs => ?_
  refine av hs rfl rfl fun a hs => ?_
  refine nl ?_
  have hsh := oi hsh
  subst hsh
  have hw := hw.nilRow Trigger 28
  refine wp_ret ?_
  refine blk_ret ?_
  refine then_ret ?_
  exact ret2 hs rfl (rv_tmp rfl) (rv_tmp rfl) (hw.ret ⟨none, 0, [], rfl, (hw.outs [0] (by decide) rfl), (hw.envAt 0 rfl)⟩)
 have hsh := ite_f hsh h51
 refine sr ?_
 refine mv hs rfl rfl fun a hs => ?_
 obtain ⟨rv53, h52, hsh⟩ := bind_t hsh
 refine st_callR hs (slices_ContainsFunc_Lint_int_ok h52 hw.bdom (hw.bE 0 rfl) (detector_wrong_fn _ _)) (do_call Tryz.call60 rfl) trivial rfl rfl ?_
 intro v57 Sv54 w a h55 h56 hs
 subst h56
 have hw := hw.callB h55
 refine av hs rfl rfl fun a hs => ?_
 refine nl ?_
 refine wp_cond_split (hs.ev rfl) (fun h60 => ?_) (fun h60 => ?_)
 ·have hsh := ite_t hsh h60
  refine sr ?_
  refine av hs rfl rfl fun a hs => ?_
  refine av hs rfl rfl fun a hs => ?_
  refine nl ?_
  have hsh := oi hsh
  subst hsh
  have hw := hw.nilRow Trigger 28
  refine wp_ret ?_
  refine blk_ret ?_
  refine then_ret ?_
  exact ret2 hs rfl (rv_tmp rfl) (rv_tmp rfl) (hw.ret ⟨none, 0, [], rfl, (hw.outs [0] (by decide) rfl), (hw.envAt 0 rfl)⟩)
 have hsh := ite_f hsh h60
 refine wp_skip ?_
 refine blk_normal ?_
 refine then_normal ?_
 refine sr ?_
 refine sv hs (y_loadBA (hw.ownAt 0 rfl) rfl Tryz.isAgg24 Tryz.sizeOf24 rfl rfl) rfl fun a hs => ?_
 obtain ⟨rv62, h61, hsh⟩ := bind_t hsh
 refine st_callR hs (detector_Start_ok h61 hw.dom) (do_call Tryz.call70 rfl) trivial rfl rfl ?_
 intro v69 Sv66 w a h67 h68 hs
 obtain ⟨p63, k64, rfl, h65⟩ := h68
 have hw := hw.call h67
 have hw := hw.addE (e := SlA p63 rv62.1.Past.length k64 rv62.1.Past) h65
 refine mv hs rfl rfl fun a hs => ?_
 refine sv hs (y_extract rfl rfl) rfl fun a hs => ?_
 refine sv hs (y_extract rfl rfl) rfl fun a hs => ?_
 refine w_alloc (cs := [.int .i64 0, .int .i64 0, .int .i64 0, .int .i64 0, .slice none ([] : List Int).length 0, .int .i64 0, .int .i64 0, .int .i64 0, .int .i64 0]) hs hw Tryz.zeroValue105 rfl rfl trivial ?_
 intro b71 a w hs hw
 refine w_store (m := 9) (cs' := [.int .i64 rv62.1.Detector.Short, .int .i64 rv62.1.Detector.Long, .int .i64 rv62.1.Detector.On, .int .i64 rv62.1.Detector.Off, .slice p63 rv62.1.Past.length k64, .int .i64 rv62.1.Count, .int .i64 rv62.1.Open.On, .int .i64 rv62.1.Open.Off, .int .i64 rv62.1.Open.Peak]) hs hw 0 rfl rfl rfl Tryz.sizeOf105 rfl rfl rfl rfl trivial ?_
 intro a w hs hw
 refine av hs rfl rfl fun a hs => ?_
 refine nl ?_
 refine sr ?_
 refine sv hs (y_loadBA (hw.ownAt 0 rfl) rfl Tryz.isAgg105 Tryz.sizeOf105 rfl rfl) rfl fun a hs => ?_
 obtain ⟨rv73, h72, hsh⟩ := bind_t hsh
 refine st_callR hs (detector_open_ok h72 hw.dom (hw.envAt 0 rfl)) (do_call Tryz.call71 rfl) trivial rfl rfl ?_
 intro v86 Sv83 w a h84 h85 hs
 obtain ⟨b74, p75, k76, c78, p79, k80, c82, rfl, h87, h77, h81⟩ := h85
 have hw := hw.callN h84 h87
 have hw := hw.addE (e := RowA c78 rv73.Watch.Past) h77
 have hw := hw.addE (e := RowA c82 rv73.ended_) h81
 refine av hs rfl rfl fun a hs => ?_
 refine nl ?_
 refine wp_seq ?_
 refine sr ?_
 refine mv hs rfl rfl fun a hs => ?_
 refine sv hs (y_len Tryz.runUnderlying22 rfl) rfl fun a hs => ?_
 refine mv hs rfl rfl fun a hs => ?_
 refine nl ?_
 obtain ⟨e193, h285, hsh⟩ := bind_t hsh
 refine wp_join (fun a w => ∃ (c194 : List Value) (p195 : Option Addr) (k196 : Nat) (c197 : List Value) (p198 : Option Addr) (k199 : Nat) (Sv200 : Nat → Prop), Sl 70 [(8, .pointer (some ⟨b74, 0, none⟩))] a ∧ Wd ⟨w0, S0, []⟩ Sv200 [.box b74 [.int .i64 e193.1, .int .i64 e193.2.1, .int .i64 e193.2.2.1, .int .i64 e193.2.2.2.1, .slice p195 e193.2.2.2.2.1.length k196, .int .i64 e193.2.2.2.2.2.1, .int .i64 e193.2.2.2.2.2.2.1, .int .i64 e193.2.2.2.2.2.2.2.1, .int .i64 e193.2.2.2.2.2.2.2.2.1, .int .i64 e193.2.2.2.2.2.2.2.2.2.1, .int .i64 e193.2.2.2.2.2.2.2.2.2.2.1, .slice p198 e193.2.2.2.2.2.2.2.2.2.2.2.length k199] 112, .rowo p195 e193.2.2.2.2.1.length k196 c194 3 1, .row p198 e193.2.2.2.2.2.2.2.2.2.2.2.length k199 c197 28 3] [RowA c194 e193.2.2.2.2.1, RowA c197 e193.2.2.2.2.2.2.2.2.2.2.2] w) ?_ ?_
 ·refine wp_block ?_
  have hw := hw.toO 1 rfl
  refine wp_while (fun sv88 a w => ∃ (c154 : List Value) (p155 : Option Addr) (k156 : Nat) (c157 : List Value) (p158 : Option Addr) (k159 : Nat) (Sv160 : Nat → Prop), Sl 70 [(8, .pointer (some ⟨b74, 0, none⟩)), (29, .slice p3 samples2.length k4), (30, .int .i64 (samples2.length : Int)), (31, .int .i64 sv88.2.2.2.2.2.2.2.2.2.2.2.2)] a ∧ Wd ⟨w0, S0, []⟩ Sv160 [.box b74 [.int .i64 sv88.1, .int .i64 sv88.2.1, .int .i64 sv88.2.2.1, .int .i64 sv88.2.2.2.1, .slice p155 sv88.2.2.2.2.1.length k156, .int .i64 sv88.2.2.2.2.2.1, .int .i64 sv88.2.2.2.2.2.2.1, .int .i64 sv88.2.2.2.2.2.2.2.1, .int .i64 sv88.2.2.2.2.2.2.2.2.1, .int .i64 sv88.2.2.2.2.2.2.2.2.2.1, .int .i64 sv88.2.2.2.2.2.2.2.2.2.2.1, .slice p158 sv88.2.2.2.2.2.2.2.2.2.2.2.1.length k159] 112, .rowo p155 sv88.2.2.2.2.1.length k156 c154 3 1, .row p158 sv88.2.2.2.2.2.2.2.2.2.2.2.1.length k159 c157 28 3] [SlA p3 samples2.length k4 samples2, RowA c154 sv88.2.2.2.2.1, RowA c157 sv88.2.2.2.2.2.2.2.2.2.2.2.1] w) (rv73.Watch.Detector.Short, rv73.Watch.Detector.Long, rv73.Watch.Detector.On, rv73.Watch.Detector.Off, rv73.Watch.Past, rv73.Watch.Count, rv73.Watch.Open.On, rv73.Watch.Open.Off, rv73.Watch.Open.Peak, rv73.short_, rv73.long_, rv73.ended_, 0) h285 ⟨c78, p75, k76, c82, p79, k80, Sv83, (hs.wk rfl), (hw.ft [0, 1, 2] [3, 1, 0] (by decide) rfl rfl)⟩ ?_
  clear h285
  repeat clear hsh
  rintro sv88 a w tv191 ⟨c154, p155, k156, c157, p158, k159, Sv160, hs, hw⟩ hsh hd190
  delta detector_Run_l1 at hsh
  refine sr ?_
  refine sv hs (y_lss rfl rfl) rfl fun a hs => ?_
  refine nl ?_
  refine wp_seq ?_
  refine wp_cond_split (hs.ev rfl) (fun h202 => ?_) (fun h202 => ?_)
  ·have hsh := ite_t hsh h202
   refine wp_skip ?_
   refine then_normal ?_
   refine wp_seq ?_
   refine wp_block ?_
   refine sr ?_
   obtain ⟨x233, h231, hsh⟩ := bind_t hsh
   obtain ⟨b239, o240, q237, c238, h241, h234, h235, h236, h232⟩ := hw.elemV 0 rfl h231
   have hsv242 := hs
   have hwv243 := hw
   subst h241
   have hs := hsv242
   have hw := hwv243
   obtain ⟨_, rfl, rfl⟩ := h232
   have hw := hw.addE h236
   refine sv hs (y_indexAt Tryz.runUnderlying22 Tryz.sizeOf3 rfl rfl h234.1 h234.2 h235) rfl fun a hs => ?_
   refine sv hs (y_loadE1 (j := 0) (hw.ceAt 0 rfl) rfl Tryz.isAgg3 rfl) rfl fun a hs => ?_
   refine av hs rfl rfl fun a hs => ?_
   refine nl ?_
   refine wp_region_lit ?_
   refine mv hs rfl rfl fun a hs => ?_
   refine mv hs rfl rfl fun a hs => ?_
   obtain ⟨rv245, h244, hsh⟩ := bind_t hsh
   refine st_callR hs (detector_window_look_ok h244 hw.dom (hw.ins [0, 1, 2] (by decide) rfl) (hw.envAt 2 rfl) (hw.envAt 3 rfl)) (do_call Tryz.call72 rfl) trivial rfl rfl ?_
   intro v257 Sv254 w a h255 h256 hs
   obtain ⟨p246, k247, c249, p250, k251, c253, rfl, h258, h248, h252⟩ := h256
   have hw := hw.callO [0, 1, 2] [] (by decide) rfl h255 h258
   have hw := hw.addE (e := RowA c249 rv245.Watch.Past) h248
   have hw := hw.addE (e := RowA c253 rv245.ended_) h252
   refine wpList_nil ?_
   refine blk_normal ?_
   refine then_normal ?_
   refine wp_region_lit ?_
   refine sv hs (y_add rfl rfl) rfl fun a hs => ?_
   refine mv hs rfl rfl fun a hs => ?_
   refine nl ?_
   exact ⟨_, (Option.some.inj hsh).symm, c249, p246, k247, c253, p250, k251, Sv254, (hs.wk rfl), (hw.ft [0, 1, 2] [3, 1, 0] (by decide) rfl rfl)⟩
  have hsh := ite_f hsh h202
  refine wp_exit ?_
  refine then_exit ?_
  refine then_exit ?_
  refine blk_exit ?_
  have hsh := oi hsh
  subst hsh
  have h259 := hd190 _ rfl
  subst h259
  refine then_normal ?_
  exact ⟨c154, p155, k156, c157, p158, k159, Sv160, (hs.wk rfl), (hw.ft [0, 1, 2] [1, 2] (by decide) rfl rfl)⟩
 rintro a w ⟨c194, p195, k196, c197, p198, k199, Sv200, hs, hw⟩
 refine then_normal ?_
 refine wp_seq ?_
 refine sr ?_
 refine mv hs rfl rfl fun a hs => ?_
 refine sv hs (y_nilCheck rfl) rfl fun a hs => ?_
 refine sv hs (y_fieldAddr (o' := 0) Tryz.runUnderlying112 rfl Tryz.sizeOf105 rfl rfl rfl) rfl fun a hs => ?_
 refine sv hs (y_fieldAddr (o' := 6) Tryz.runUnderlying105 rfl Tryz.sizeOf28 rfl rfl rfl) rfl fun a hs => ?_
 refine sv hs (y_fieldAddr (o' := 6) Tryz.runUnderlying28 rfl Tryz.sizeOf3 rfl rfl rfl) rfl fun a hs => ?_
 refine sv hs (y_loadB1 (hw.ownAt 0 rfl) rfl Tryz.isAgg3 rfl) rfl fun a hs => ?_
 refine sv hs (y_geq rfl rfl) rfl fun a hs => ?_
 refine nl ?_
 refine wp_join (fun a w => ∃ (x273 : (List Trigger)) (c269 : List Value) (p270 : Option Addr) (k271 : Nat) (Sv272 : Nat → Prop), detector_Run_j2 x273 = some r ∧ Sl 70 [(8, .pointer (some ⟨b74, 0, none⟩))] a ∧ Wd ⟨w0, S0, []⟩ Sv272 [.box b74 [.int .i64 e193.1, .int .i64 e193.2.1, .int .i64 e193.2.2.1, .int .i64 e193.2.2.2.1, .slice p195 e193.2.2.2.2.1.length k196, .int .i64 e193.2.2.2.2.2.1, .int .i64 e193.2.2.2.2.2.2.1, .int .i64 e193.2.2.2.2.2.2.2.1, .int .i64 e193.2.2.2.2.2.2.2.2.1, .int .i64 e193.2.2.2.2.2.2.2.2.2.1, .int .i64 e193.2.2.2.2.2.2.2.2.2.2.1, .slice p270 x273.length k271] 112, .rowo p195 e193.2.2.2.2.1.length k196 c194 3 1, .row p270 x273.length k271 c269 28 3] [RowA c194 e193.2.2.2.2.1, RowA c269 x273] w) ?_ ?_
 ·refine wp_cond_split (hs.ev rfl) (fun h276 => ?_) (fun h276 => ?_)
  ·have hsh := ite_t hsh h276
   obtain ⟨l280, h279, hsh⟩ := bind_t hsh
   refine wp_only (fun a w => ∃ (Sv284 : Nat → Prop) (c283 : List Value) (k282 : Nat) (p281 : Option Addr), Sl 70 [(8, .pointer (some ⟨b74, 0, none⟩))] a ∧ Wd ⟨w0, S0, []⟩ Sv284 [.box b74 [.int .i64 e193.1, .int .i64 e193.2.1, .int .i64 e193.2.2.1, .int .i64 e193.2.2.2.1, .slice p195 e193.2.2.2.2.1.length k196, .int .i64 e193.2.2.2.2.2.1, .int .i64 e193.2.2.2.2.2.2.1, .int .i64 e193.2.2.2.2.2.2.2.1, .int .i64 e193.2.2.2.2.2.2.2.2.1, .int .i64 e193.2.2.2.2.2.2.2.2.2.1, .int .i64 e193.2.2.2.2.2.2.2.2.2.2.1, .slice p281 l280.length k282] 112, .rowo p195 e193.2.2.2.2.1.length k196 c194 3 1, .row p281 l280.length k282 c283 28 3] [RowA c194 e193.2.2.2.2.1, RowA c283 l280] w) ?_ ?_
   ·refine h_b (C := Cls [.rowo p195 e193.2.2.2.2.1.length k196 c194 3 1] []) (by kernel_rfl) rfl (hw.drew.cs [1] [] rfl rfl) fun hC => ?_
    have hw := hw.drew
    refine gm hs 0 rfl rfl rfl hC fun a hs => ?_
    refine gm hs 1 rfl rfl rfl hC fun a hs => ?_
    refine gv hs 2 rfl rfl hC (fun w hC => y_nilCheck rfl) fun a hs => ?_
    refine gv hs 3 rfl rfl hC (fun w hC => y_fieldAddr (o' := 11) Tryz.runUnderlying112 rfl Tryz.sizeOf47 rfl rfl rfl) fun a hs => ?_
    refine gm hs 5 rfl rfl rfl hC fun a hs => ?_
    refine gv hs 6 rfl rfl hC (fun w hC => y_nilCheck rfl) fun a hs => ?_
    refine gv hs 7 rfl rfl hC (fun w hC => y_fieldAddr (o' := 0) Tryz.runUnderlying112 rfl Tryz.sizeOf105 rfl rfl rfl) fun a hs => ?_
    refine gv hs 8 rfl rfl hC (fun w hC => y_fieldAddr (o' := 6) Tryz.runUnderlying105 rfl Tryz.sizeOf28 rfl rfl rfl) fun a hs => ?_
    refine h_all (rs := [4, 9]) (by kernel_rfl) rfl ?_
    refine AllH.cons rfl ?_ ?_
    ·refine sv hs (y_loadB1 (hw.ownAt 0 rfl) rfl Tryz.isAgg47 rfl) rfl fun a hs => ?_
     refine h_nx (hw.cs [1] [] rfl rfl) fun hC => ?_
     refine ho 9 rfl ?_
     refine sv hs (y_loadBA (hw.ownAt 0 rfl) rfl Tryz.isAgg28 Tryz.sizeOf28 rfl rfl) rfl fun a hs => ?_
     refine h_nx (hw.cs [1] [] rfl rfl) fun hC => ?_
     refine ho 10 rfl ?_
     refine w_litSlice (α := Trigger) (vs := [.agg #[.int .i64 e193.2.2.2.2.2.2.1, .int .i64 e193.2.2.2.2.2.2.2.1, .int .i64 e193.2.2.2.2.2.2.2.2.1]]) (cs := [.int .i64 e193.2.2.2.2.2.2.1, .int .i64 e193.2.2.2.2.2.2.2.1, .int .i64 e193.2.2.2.2.2.2.2.2.1]) (xs := ([(⟨e193.2.2.2.2.2.2.1, e193.2.2.2.2.2.2.2.1, e193.2.2.2.2.2.2.2.2.1⟩ : Trigger)] : List Trigger)) hs hw El47 rfl rfl rfl rfl rfl rfl ⟨⟨_, _, _, rfl, rfl, rfl, rfl⟩, rfl⟩ rfl trivial rfl fun b278 a w hs hw => ?_
     refine h_nx (hw.cs [2] [] rfl rfl) fun hC => ?_
     refine h_st (C' := Cls [.rowo p195 e193.2.2.2.2.1.length k196 c194 3 1, .row (some ⟨b278, 0, none⟩) ([(⟨e193.2.2.2.2.2.2.1, e193.2.2.2.2.2.2.2.1, e193.2.2.2.2.2.2.2.2.1⟩ : Trigger)] : List Trigger).length ([(⟨e193.2.2.2.2.2.2.1, e193.2.2.2.2.2.2.2.1, e193.2.2.2.2.2.2.2.2.1⟩ : Trigger)] : List Trigger).length [.int .i64 e193.2.2.2.2.2.2.1, .int .i64 e193.2.2.2.2.2.2.2.1, .int .i64 e193.2.2.2.2.2.2.2.2.1] 28 3] []) (fun _ h => by exact h.sub [0] (Sel.of rfl) (AllIn.of [] rfl)) (hw.cs [2, 0] [] rfl rfl) fun hC => ?_
     refine ho 11 rfl ?_
     refine w_appendR (α := Trigger) hs hw El47 3 rfl rfl rfl 2 rfl 0 rfl 0 rfl h279 rfl trivial ?_
     intro p281 k282 c283 a w hs hw
     refine h_nx (hw.cs [2, 0] [] rfl rfl) fun hC => ?_
     refine gv hs 12 rfl rfl hC (fun w hC => y_nilCheck rfl) fun a hs => ?_
     refine gv hs 13 rfl rfl hC (fun w hC => y_fieldAddr (o' := 11) Tryz.runUnderlying112 rfl Tryz.sizeOf47 rfl rfl rfl) fun a hs => ?_
     refine ho 14 rfl ?_
     refine w_store (m := 1) (cs' := [.int .i64 e193.1, .int .i64 e193.2.1, .int .i64 e193.2.2.1, .int .i64 e193.2.2.2.1, .slice p195 e193.2.2.2.2.1.length k196, .int .i64 e193.2.2.2.2.2.1, .int .i64 e193.2.2.2.2.2.2.1, .int .i64 e193.2.2.2.2.2.2.2.1, .int .i64 e193.2.2.2.2.2.2.2.2.1, .int .i64 e193.2.2.2.2.2.2.2.2.2.1, .int .i64 e193.2.2.2.2.2.2.2.2.2.2.1, .slice p281 l280.length k282]) hs hw 1 rfl rfl rfl Tryz.sizeOf47 rfl rfl rfl rfl trivial ?_
     intro a w hs hw
     refine h_nx (hw.cs [2, 0] [] rfl rfl) fun hC => ?_
     refine h_done (by kernel_rfl) ?_
     exact ⟨Sv200, c283, k282, p281, (hs.wk rfl), (hw.ft [1, 2, 3] [2, 0] (by decide) rfl rfl)⟩
    refine AllH.cons rfl ?_ ?_
    ·refine sv hs (y_loadBA (hw.ownAt 0 rfl) rfl Tryz.isAgg28 Tryz.sizeOf28 rfl rfl) rfl fun a hs => ?_
     refine h_nx (hw.cs [1] [] rfl rfl) fun hC => ?_
     refine h_all (rs := [4, 10]) (by kernel_rfl) rfl ?_
     refine AllH.cons rfl ?_ ?_
     ·refine sv hs (y_loadB1 (hw.ownAt 0 rfl) rfl Tryz.isAgg47 rfl) rfl fun a hs => ?_
      refine h_nx (hw.cs [1] [] rfl rfl) fun hC => ?_
      refine ho 10 rfl ?_
      refine w_litSlice (α := Trigger) (vs := [.agg #[.int .i64 e193.2.2.2.2.2.2.1, .int .i64 e193.2.2.2.2.2.2.2.1, .int .i64 e193.2.2.2.2.2.2.2.2.1]]) (cs := [.int .i64 e193.2.2.2.2.2.2.1, .int .i64 e193.2.2.2.2.2.2.2.1, .int .i64 e193.2.2.2.2.2.2.2.2.1]) (xs := ([(⟨e193.2.2.2.2.2.2.1, e193.2.2.2.2.2.2.2.1, e193.2.2.2.2.2.2.2.2.1⟩ : Trigger)] : List Trigger)) hs hw El47 rfl rfl rfl rfl rfl rfl ⟨⟨_, _, _, rfl, rfl, rfl, rfl⟩, rfl⟩ rfl trivial rfl fun b278 a w hs hw => ?_
      refine h_nx (hw.cs [2] [] rfl rfl) fun hC => ?_
      refine h_st (C' := Cls [.rowo p195 e193.2.2.2.2.1.length k196 c194 3 1, .row (some ⟨b278, 0, none⟩) ([(⟨e193.2.2.2.2.2.2.1, e193.2.2.2.2.2.2.2.1, e193.2.2.2.2.2.2.2.2.1⟩ : Trigger)] : List Trigger).length ([(⟨e193.2.2.2.2.2.2.1, e193.2.2.2.2.2.2.2.1, e193.2.2.2.2.2.2.2.2.1⟩ : Trigger)] : List Trigger).length [.int .i64 e193.2.2.2.2.2.2.1, .int .i64 e193.2.2.2.2.2.2.2.1, .int .i64 e193.2.2.2.2.2.2.2.2.1] 28 3] []) (fun _ h => by exact h.sub [0] (Sel.of rfl) (AllIn.of [] rfl)) (hw.cs [2, 0] [] rfl rfl) fun hC => ?_
      refine ho 11 rfl ?_
      refine w_appendR (α := Trigger) hs hw El47 3 rfl rfl rfl 2 rfl 0 rfl 0 rfl h279 rfl trivial ?_
      intro p281 k282 c283 a w hs hw
      refine h_nx (hw.cs [2, 0] [] rfl rfl) fun hC => ?_
      refine gv hs 12 rfl rfl hC (fun w hC => y_nilCheck rfl) fun a hs => ?_
      refine gv hs 13 rfl rfl hC (fun w hC => y_fieldAddr (o' := 11) Tryz.runUnderlying112 rfl Tryz.sizeOf47 rfl rfl rfl) fun a hs => ?_
      refine ho 14 rfl ?_
      refine w_store (m := 1) (cs' := [.int .i64 e193.1, .int .i64 e193.2.1, .int .i64 e193.2.2.1, .int .i64 e193.2.2.2.1, .slice p195 e193.2.2.2.2.1.length k196, .int .i64 e193.2.2.2.2.2.1, .int .i64 e193.2.2.2.2.2.2.1, .int .i64 e193.2.2.2.2.2.2.2.1, .int .i64 e193.2.2.2.2.2.2.2.2.1, .int .i64 e193.2.2.2.2.2.2.2.2.2.1, .int .i64 e193.2.2.2.2.2.2.2.2.2.2.1, .slice p281 l280.length k282]) hs hw 1 rfl rfl rfl Tryz.sizeOf47 rfl rfl rfl rfl trivial ?_
      intro a w hs hw
      refine h_nx (hw.cs [2, 0] [] rfl rfl) fun hC => ?_
      refine h_done (by kernel_rfl) ?_
      exact ⟨Sv200, c283, k282, p281, (hs.wk rfl), (hw.ft [1, 2, 3] [2, 0] (by decide) rfl rfl)⟩
     refine AllH.cons rfl ?_ ?_
     ·refine w_litSlice (α := Trigger) (vs := [.agg #[.int .i64 e193.2.2.2.2.2.2.1, .int .i64 e193.2.2.2.2.2.2.2.1, .int .i64 e193.2.2.2.2.2.2.2.2.1]]) (cs := [.int .i64 e193.2.2.2.2.2.2.1, .int .i64 e193.2.2.2.2.2.2.2.1, .int .i64 e193.2.2.2.2.2.2.2.2.1]) (xs := ([(⟨e193.2.2.2.2.2.2.1, e193.2.2.2.2.2.2.2.1, e193.2.2.2.2.2.2.2.2.1⟩ : Trigger)] : List Trigger)) hs hw El47 rfl rfl rfl rfl rfl rfl ⟨⟨_, _, _, rfl, rfl, rfl, rfl⟩, rfl⟩ rfl trivial rfl fun b278 a w hs hw => ?_
      refine h_nx (hw.cs [2] [] rfl rfl) fun hC => ?_
      refine h_st (C' := Cls [.rowo p195 e193.2.2.2.2.1.length k196 c194 3 1, .row (some ⟨b278, 0, none⟩) ([(⟨e193.2.2.2.2.2.2.1, e193.2.2.2.2.2.2.2.1, e193.2.2.2.2.2.2.2.2.1⟩ : Trigger)] : List Trigger).length ([(⟨e193.2.2.2.2.2.2.1, e193.2.2.2.2.2.2.2.1, e193.2.2.2.2.2.2.2.2.1⟩ : Trigger)] : List Trigger).length [.int .i64 e193.2.2.2.2.2.2.1, .int .i64 e193.2.2.2.2.2.2.2.1, .int .i64 e193.2.2.2.2.2.2.2.2.1] 28 3] []) (fun _ h => by exact h.sub [0] (Sel.of rfl) (AllIn.of [] rfl)) (hw.cs [2, 0] [] rfl rfl) fun hC => ?_
      refine ho 4 rfl ?_
      refine sv hs (y_loadB1 (hw.ownAt 1 rfl) rfl Tryz.isAgg47 rfl) rfl fun a hs => ?_
      refine h_nx (hw.cs [2, 0] [] rfl rfl) fun hC => ?_
      refine ho 11 rfl ?_
      refine w_appendR (α := Trigger) hs hw El47 3 rfl rfl rfl 2 rfl 0 rfl 0 rfl h279 rfl trivial ?_
      intro p281 k282 c283 a w hs hw
      refine h_nx (hw.cs [2, 0] [] rfl rfl) fun hC => ?_
      refine gv hs 12 rfl rfl hC (fun w hC => y_nilCheck rfl) fun a hs => ?_
      refine gv hs 13 rfl rfl hC (fun w hC => y_fieldAddr (o' := 11) Tryz.runUnderlying112 rfl Tryz.sizeOf47 rfl rfl rfl) fun a hs => ?_
      refine ho 14 rfl ?_
      refine w_store (m := 1) (cs' := [.int .i64 e193.1, .int .i64 e193.2.1, .int .i64 e193.2.2.1, .int .i64 e193.2.2.2.1, .slice p195 e193.2.2.2.2.1.length k196, .int .i64 e193.2.2.2.2.2.1, .int .i64 e193.2.2.2.2.2.2.1, .int .i64 e193.2.2.2.2.2.2.2.1, .int .i64 e193.2.2.2.2.2.2.2.2.1, .int .i64 e193.2.2.2.2.2.2.2.2.2.1, .int .i64 e193.2.2.2.2.2.2.2.2.2.2.1, .slice p281 l280.length k282]) hs hw 1 rfl rfl rfl Tryz.sizeOf47 rfl rfl rfl rfl trivial ?_
      intro a w hs hw
      refine h_nx (hw.cs [2, 0] [] rfl rfl) fun hC => ?_
      refine h_done (by kernel_rfl) ?_
      exact ⟨Sv200, c283, k282, p281, (hs.wk rfl), (hw.ft [1, 2, 3] [2, 0] (by decide) rfl rfl)⟩
     exact AllH.nil
    exact AllH.nil
   rintro a w ⟨Sv284, c283, k282, p281, hs, hw⟩
   refine then_normal ?_
   exact ⟨l280, c283, p281, k282, Sv284, hsh, (hs.wk rfl), (hw.ft [0, 1, 2] [0, 1] (by decide) rfl rfl)⟩
  have hsh := ite_f hsh h276
  refine wp_skip ?_
  refine then_normal ?_
  exact ⟨e193.2.2.2.2.2.2.2.2.2.2.2, c197, p198, k199, Sv200, hsh, (hs.wk rfl), (hw.ft [0, 1, 2] [0, 1] (by decide) rfl rfl)⟩
 rintro a w ⟨x273, c269, p270, k271, Sv272, hsh, hs, hw⟩
 delta detector_Run_j2 at hsh
 refine then_normal ?_
 refine wp_seq ?_
 refine sr ?_
 refine mv hs rfl rfl fun a hs => ?_
 refine sv hs (y_nilCheck rfl) rfl fun a hs => ?_
 refine sv hs (y_fieldAddr (o' := 11) Tryz.runUnderlying112 rfl Tryz.sizeOf47 rfl rfl rfl) rfl fun a hs => ?_
 refine sv hs (y_loadB1 (hw.ownAt 0 rfl) rfl Tryz.isAgg47 rfl) rfl fun a hs => ?_
 refine sv hs (y_len Tryz.runUnderlying47 rfl) rfl fun a hs => ?_
 refine sv hs (y_gtr rfl rfl) rfl fun a hs => ?_
 refine nl ?_
 refine wp_cond_split (hs.ev rfl) (fun h275 => ?_) (fun h275 => ?_)
 ·have hsh := ite_t hsh h275
  refine sr ?_
  refine av hs rfl rfl fun a hs => ?_
  refine av hs rfl rfl fun a hs => ?_
  refine nl ?_
  have hsh := oi hsh
  subst hsh
  have hw := hw.nilRow Trigger 28
  refine wp_ret ?_
  refine then_ret ?_
  exact ret2 hs rfl (rv_tmp rfl) (rv_tmp rfl) (hw.ret ⟨none, 0, [], rfl, (hw.outs [0] (by decide) rfl), (hw.envAt 0 rfl)⟩)
 have hsh := ite_f hsh h275
 refine wp_skip ?_
 refine then_normal ?_
 refine sr ?_
 refine mv hs rfl rfl fun a hs => ?_
 refine sv hs (y_nilCheck rfl) rfl fun a hs => ?_
 refine sv hs (y_fieldAddr (o' := 11) Tryz.runUnderlying112 rfl Tryz.sizeOf47 rfl rfl rfl) rfl fun a hs => ?_
 refine sv hs (y_loadB1 (hw.ownAt 0 rfl) rfl Tryz.isAgg47 rfl) rfl fun a hs => ?_
 refine av hs rfl rfl fun a hs => ?_
 refine av hs rfl rfl fun a hs => ?_
 refine nl ?_
 have hsh := oi hsh
 subst hsh
 refine wp_ret ?_
 exact ret2 hs rfl (rv_tmp rfl) (rv_tmp rfl) (hw.ret ⟨p270, k271, c269, rfl, (hw.outs [2] (by decide) rfl), (hw.envAt 1 rfl)⟩)
abbrev picker_pick_fn1_rd (w0 : World) (X : List Nat) (r : Int) : (Nat → Prop) → World → Value → Prop := fun S w v => v = .int .i64 r
set_option maxHeartbeats 4000000 in
set_option maxRecDepth 100000 in
theorem picker_pick_fn1_ok {w0 : World} {S0 : Nat → Prop} {b3 : Nat} {p4 : Option Addr} {k5 : Nat} {i1 : Int} {x2 : Segment} {r : Int} (hsh : picker_pick_fn1 i1 x2 = some r) (hS : ∀ b, S0 b → b < w0.heap.size) (h6 : (CeA b3 0 [.int .i64 x2.Start, .int .i64 x2.First, .int .i64 x2.Rate.Num, .int .i64 x2.Rate.Den, .int .i64 x2.Error, .slice p4 x2.Samples.length k5]).p S0 w0) (h7 : (SlA p4 x2.Samples.length k5 x2.Samples).p S0 w0) : Calls Tryz.prog 73 #[.int .i64 i1, .pointer (some ⟨b3, 0, none⟩)] w0 (Ret ([]) w0 S0 (picker_pick_fn1_rd w0 ([]) r)) := by
 refine calls_of_wp Tryz.func73 rfl ?_
 have hs := Sl.enter #[.int .i64 i1, .pointer (some ⟨b3, 0, none⟩)] 19 [(0, .int .i64 i1), (1, .pointer (some ⟨b3, 0, none⟩))] rfl ⟨rfl, rfl, trivial⟩
 have hw := Wd.enter (E := []) hS (fun _ h => (by cases h))
 have hw := hw.addE h6
 have hw := hw.addE h7
 delta picker_pick_fn1 at hsh
 refine sr ?_
 refine av hs rfl rfl fun a hs => ?_
 refine nl ?_
 refine sr ?_
 refine sv hs (y_fieldAddr (o' := 0) Tryz.runUnderlying36 rfl Tryz.sizeOf3 rfl rfl rfl) rfl fun a hs => ?_
 refine sv hs (y_loadE1 (j := 0) (hw.ceAt 1 rfl) rfl Tryz.isAgg3 rfl) rfl fun a hs => ?_
 refine sv hs (y_fieldAddr (o' := 2) Tryz.runUnderlying36 rfl Tryz.sizeOf34 rfl rfl rfl) rfl fun a hs => ?_
 refine sv hs (y_loadEA (j := 2) (hw.ceAt 1 rfl) rfl Tryz.isAgg34 Tryz.sizeOf34 rfl rfl) rfl fun a hs => ?_
 refine sv hs (y_fieldAddr (o' := 1) Tryz.runUnderlying36 rfl Tryz.sizeOf3 rfl rfl rfl) rfl fun a hs => ?_
 refine sv hs (y_loadE1 (j := 1) (hw.ceAt 1 rfl) rfl Tryz.isAgg3 rfl) rfl fun a hs => ?_
 refine mv hs rfl rfl fun a hs => ?_
 refine sv hs (y_add rfl rfl) rfl fun a hs => ?_
 obtain ⟨rv9, h8, hsh⟩ := bind_t hsh
 refine st_callR hs (rate_Time_ok h8 hw.bdom) (do_call Tryz.call74 rfl) trivial rfl rfl ?_
 intro v13 Sv10 w a h11 h12 hs
 subst h12
 have hw := hw.callB h11
 refine mv hs rfl rfl fun a hs => ?_
 refine sv hs (y_extract rfl rfl) rfl fun a hs => ?_
 refine sv hs (y_extract rfl rfl) rfl fun a hs => ?_
 refine av hs rfl rfl fun a hs => ?_
 refine av hs rfl rfl fun a hs => ?_
 refine nl ?_
 refine sr ?_
 refine mv hs rfl rfl fun a hs => ?_
 refine av hs rfl rfl fun a hs => ?_
 refine nl ?_
 have hsh := oi hsh
 subst hsh
 refine wp_ret ?_
 exact ret1 hs rfl (rv_tmp rfl) (hw.ret rfl)
abbrev cmp_isNaN_int_rd (w0 : World) (X : List Nat) (r : Bool) : (Nat → Prop) → World → Value → Prop := fun S w v => v = .bool r
set_option maxHeartbeats 4000000 in
set_option maxRecDepth 100000 in
theorem cmp_isNaN_int_ok {w0 : World} {S0 : Nat → Prop} {x1 : Int} {r : Bool} (hsh : cmp_isNaN_int x1 = some r) (hS : ∀ b, S0 b → b < w0.heap.size) : Calls Tryz.prog 80 #[.int .i64 x1] w0 (Ret ([]) w0 S0 (cmp_isNaN_int_rd w0 ([]) r)) := by
 refine calls_of_wp Tryz.func80 rfl ?_
 have hs := Sl.enter #[.int .i64 x1] 6 [(0, .int .i64 x1)] rfl ⟨rfl, trivial⟩
 have hw := Wd.enter (E := []) hS (fun _ h => (by cases h))
 delta cmp_isNaN_int at hsh
 refine sr ?_
 refine av hs rfl rfl fun a hs => ?_
 refine nl ?_
 refine sr ?_
 refine mv hs rfl rfl fun a hs => ?_
 refine mv hs rfl rfl fun a hs => ?_
 refine sv hs (y_neq rfl rfl) rfl fun a hs => ?_
 refine av hs rfl rfl fun a hs => ?_
 refine nl ?_
 have hsh := oi hsh
 subst hsh
 refine wp_ret ?_
 exact ret1 hs rfl (rv_tmp rfl) (hw.ret rfl)
abbrev cmp_Compare_int_rd (w0 : World) (X : List Nat) (r : Int) : (Nat → Prop) → World → Value → Prop := fun S w v => v = .int .i64 r
set_option maxHeartbeats 4000000 in
set_option maxRecDepth 100000 in
theorem cmp_Compare_int_ok {w0 : World} {S0 : Nat → Prop} {x1 : Int} {y2 : Int} {r : Int} (hsh : cmp_Compare_int x1 y2 = some r) (hS : ∀ b, S0 b → b < w0.heap.size) : Calls Tryz.prog 55 #[.int .i64 x1, .int .i64 y2] w0 (Ret ([]) w0 S0 (cmp_Compare_int_rd w0 ([]) r)) := by
 refine calls_of_wp Tryz.func55 rfl ?_
 have hs := Sl.enter #[.int .i64 x1, .int .i64 y2] 20 [(0, .int .i64 x1), (1, .int .i64 y2)] rfl ⟨rfl, rfl, trivial⟩
 have hw := Wd.enter (E := []) hS (fun _ h => (by cases h))
 delta cmp_Compare_int at hsh
 refine sr ?_
 refine av hs rfl rfl fun a hs => ?_
 refine nl ?_
 refine sr ?_
 refine mv hs rfl rfl fun a hs => ?_
 obtain ⟨rv4, h3, hsh⟩ := bind_t hsh
 refine st_callR hs (cmp_isNaN_int_ok h3 hw.bdom) (do_call Tryz.call80 rfl) trivial rfl rfl ?_
 intro v8 Sv5 w a h6 h7 hs
 subst h7
 have hw := hw.callB h6
 refine av hs rfl rfl fun a hs => ?_
 refine nl ?_
 refine sr ?_
 refine mv hs rfl rfl fun a hs => ?_
 obtain ⟨rv11, h10, hsh⟩ := bind_t hsh
 refine st_callR hs (cmp_isNaN_int_ok h10 hw.bdom) (do_call Tryz.call80 rfl) trivial rfl rfl ?_
 intro v15 Sv12 w a h13 h14 hs
 subst h14
 have hw := hw.callB h13
 refine av hs rfl rfl fun a hs => ?_
 refine nl ?_
 refine wp_seq ?_
 refine sr ?_
 refine mv hs rfl rfl fun a hs => ?_
 refine nl ?_
 refine wp_cond_split (hs.ev rfl) (fun h19 => ?_) (fun h19 => ?_)
 ·have hsh := ite_t hsh h19
  refine wp_seq ?_
  refine sr ?_
  refine mv hs rfl rfl fun a hs => ?_
  refine nl ?_
  refine wp_cond_split (hs.ev rfl) (fun h21 => ?_) (fun h21 => ?_)
  ·have hsh := ite_t hsh h21
   refine sr ?_
   refine av hs rfl rfl fun a hs => ?_
   refine nl ?_
   have hsh := oi hsh
   subst hsh
   refine wp_ret ?_
   refine then_ret ?_
   refine then_ret ?_
   exact ret1 hs rfl (rv_tmp rfl) (hw.ret rfl)
  have hsh := ite_f hsh h21
  refine wp_skip ?_
  refine then_normal ?_
  refine sr ?_
  refine av hs rfl rfl fun a hs => ?_
  refine nl ?_
  have hsh := oi hsh
  subst hsh
  refine wp_ret ?_
  refine then_ret ?_
  exact ret1 hs rfl (rv_tmp rfl) (hw.ret rfl)
 have hsh := ite_f hsh h19
 refine wp_skip ?_
 refine then_normal ?_
 refine wp_seq ?_
 refine sr ?_
 refine mv hs rfl rfl fun a hs => ?_
 refine nl ?_
 refine wp_cond_split (hs.ev rfl) (fun h23 => ?_) (fun h23 => ?_)
 ·have hsh := ite_t hsh h23
  refine sr ?_
  refine av hs rfl rfl fun a hs => ?_
  refine nl ?_
  have hsh := oi hsh
  subst hsh
  refine wp_ret ?_
  refine then_ret ?_
  exact ret1 hs rfl (rv_tmp rfl) (hw.ret rfl)
 have hsh := ite_f hsh h23
 refine wp_skip ?_
 refine then_normal ?_
 refine wp_seq ?_
 refine sr ?_
 refine mv hs rfl rfl fun a hs => ?_
 refine mv hs rfl rfl fun a hs => ?_
 refine sv hs (y_lss rfl rfl) rfl fun a hs => ?_
 refine nl ?_
 refine wp_cond_split (hs.ev rfl) (fun h25 => ?_) (fun h25 => ?_)
 ·have hsh := ite_t hsh h25
  refine sr ?_
  refine av hs rfl rfl fun a hs => ?_
  refine nl ?_
  have hsh := oi hsh
  subst hsh
  refine wp_ret ?_
  refine then_ret ?_
  exact ret1 hs rfl (rv_tmp rfl) (hw.ret rfl)
 have hsh := ite_f hsh h25
 refine wp_skip ?_
 refine then_normal ?_
 refine wp_seq ?_
 refine sr ?_
 refine mv hs rfl rfl fun a hs => ?_
 refine mv hs rfl rfl fun a hs => ?_
 refine sv hs (y_gtr rfl rfl) rfl fun a hs => ?_
 refine nl ?_
 refine wp_cond_split (hs.ev rfl) (fun h27 => ?_) (fun h27 => ?_)
 ·have hsh := ite_t hsh h27
  refine sr ?_
  refine av hs rfl rfl fun a hs => ?_
  refine nl ?_
  have hsh := oi hsh
  subst hsh
  refine wp_ret ?_
  refine then_ret ?_
  exact ret1 hs rfl (rv_tmp rfl) (hw.ret rfl)
 have hsh := ite_f hsh h27
 refine wp_skip ?_
 refine then_normal ?_
 refine sr ?_
 refine av hs rfl rfl fun a hs => ?_
 refine nl ?_
 have hsh := oi hsh
 subst hsh
 refine wp_ret ?_
 exact ret1 hs rfl (rv_tmp rfl) (hw.ret rfl)
abbrev picker_pick_rd (w0 : World) (X : List Nat) (r : Pick) : (Nat → Prop) → World → Value → Prop := fun S w v => v = .agg #[.string r.Source.Network, .string r.Source.Station, .string r.Source.Location, .string r.Source.Channel, .int .i64 r.Time, .int .i64 r.Early, .int .i64 r.Late, .int .i64 r.Amplitude, .int .i64 r.Polarity]
set_option maxHeartbeats 4000000 in
set_option maxRecDepth 100000 in
theorem picker_pick_ok {w0 : World} {S0 : Nat → Prop} {p4 : Option Addr} {k5 : Nat} {p1 : Picking} {s2 : SourceID} {g3 : Segment} {t7 : Trigger} {r : Pick} (hsh : picker_pick p1 s2 g3 t7 = some r) (hS : ∀ b, S0 b → b < w0.heap.size) (h6 : (SlA p4 g3.Samples.length k5 g3.Samples).p S0 w0) : Calls Tryz.prog 46 #[.agg #[.int .i64 p1.Detector.Short, .int .i64 p1.Detector.Long, .int .i64 p1.Detector.On, .int .i64 p1.Detector.Off, .int .i64 p1.Back, .int .i64 p1.Level, .int .i64 p1.Floor], .agg #[.string s2.Network, .string s2.Station, .string s2.Location, .string s2.Channel], .agg #[.int .i64 g3.Start, .int .i64 g3.First, .int .i64 g3.Rate.Num, .int .i64 g3.Rate.Den, .int .i64 g3.Error, .slice p4 g3.Samples.length k5], .agg #[.int .i64 t7.On, .int .i64 t7.Off, .int .i64 t7.Peak]] w0 (Ret ([]) w0 S0 (picker_pick_rd w0 ([]) r)) := by
 refine calls_of_wp Tryz.func46 rfl ?_
 have hs := Sl.enter #[.agg #[.int .i64 p1.Detector.Short, .int .i64 p1.Detector.Long, .int .i64 p1.Detector.On, .int .i64 p1.Detector.Off, .int .i64 p1.Back, .int .i64 p1.Level, .int .i64 p1.Floor], .agg #[.string s2.Network, .string s2.Station, .string s2.Location, .string s2.Channel], .agg #[.int .i64 g3.Start, .int .i64 g3.First, .int .i64 g3.Rate.Num, .int .i64 g3.Rate.Den, .int .i64 g3.Error, .slice p4 g3.Samples.length k5], .agg #[.int .i64 t7.On, .int .i64 t7.Off, .int .i64 t7.Peak]] 51 [(0, .agg #[.int .i64 p1.Detector.Short, .int .i64 p1.Detector.Long, .int .i64 p1.Detector.On, .int .i64 p1.Detector.Off, .int .i64 p1.Back, .int .i64 p1.Level, .int .i64 p1.Floor]), (1, .agg #[.string s2.Network, .string s2.Station, .string s2.Location, .string s2.Channel]), (2, .agg #[.int .i64 g3.Start, .int .i64 g3.First, .int .i64 g3.Rate.Num, .int .i64 g3.Rate.Den, .int .i64 g3.Error, .slice p4 g3.Samples.length k5]), (3, .agg #[.int .i64 t7.On, .int .i64 t7.Off, .int .i64 t7.Peak])] rfl ⟨rfl, rfl, rfl, rfl, trivial⟩
 have hw := Wd.enter (E := []) hS (fun _ h => (by cases h))
 have hw := hw.addE h6
 delta picker_pick at hsh
 refine sr ?_
 refine w_box (cs := [.int .i64 p1.Detector.Short, .int .i64 p1.Detector.Long, .int .i64 p1.Detector.On, .int .i64 p1.Detector.Off, .int .i64 p1.Back, .int .i64 p1.Level, .int .i64 p1.Floor]) hs hw rfl rfl rfl trivial ?_
 intro b8 a w hs hw
 refine w_box (cs := [.string s2.Network, .string s2.Station, .string s2.Location, .string s2.Channel]) hs hw rfl rfl rfl trivial ?_
 intro b9 a w hs hw
 refine w_box (cs := [.int .i64 g3.Start, .int .i64 g3.First, .int .i64 g3.Rate.Num, .int .i64 g3.Rate.Den, .int .i64 g3.Error, .slice p4 g3.Samples.length k5]) hs hw rfl rfl rfl trivial ?_
 intro b10 a w hs hw
 refine w_box (cs := [.int .i64 t7.On, .int .i64 t7.Off, .int .i64 t7.Peak]) hs hw rfl rfl rfl trivial ?_
 intro b11 a w hs hw
 refine w_alloc (cs := [.string ByteArray.empty, .string ByteArray.empty, .string ByteArray.empty, .string ByteArray.empty, .int .i64 0, .int .i64 0, .int .i64 0, .int .i64 0, .int .i64 0]) hs hw Tryz.zeroValue66 rfl rfl trivial ?_
 intro b12 a w hs hw
 refine nl ?_
 refine sr ?_
 refine sv hs (y_makeFunc (vs := #[]) (us := #[.pointer (some ⟨b10, 0, none⟩)]) rfl rfl) rfl fun a hs => ?_
 refine av hs rfl rfl fun a hs => ?_
 refine nl ?_
 refine sr ?_
 refine sv hs (y_loadBA (hw.ownAt 4 rfl) rfl Tryz.isAgg26 Tryz.sizeOf26 rfl rfl) rfl fun a hs => ?_
 refine sv hs (y_fieldAddr (o' := 5) Tryz.runUnderlying36 rfl Tryz.sizeOf22 rfl rfl rfl) rfl fun a hs => ?_
 refine sv hs (y_loadB1 (hw.ownAt 2 rfl) rfl Tryz.isAgg22 rfl) rfl fun a hs => ?_
 refine sv hs (y_loadBA (hw.ownAt 1 rfl) rfl Tryz.isAgg28 Tryz.sizeOf28 rfl rfl) rfl fun a hs => ?_
 obtain ⟨rv14, h13, hsh⟩ := bind_t hsh
 refine st_callR hs (picker_Onset_ok h13 hw.bdom (hw.bE 0 rfl)) (do_call Tryz.call16 rfl) trivial rfl rfl ?_
 intro v18 Sv15 w a h16 h17 hs
 subst h17
 have hw := hw.callB h16
 refine mv hs rfl rfl fun a hs => ?_
 refine sv hs (y_extract rfl rfl) rfl fun a hs => ?_
 refine sv hs (y_extract rfl rfl) rfl fun a hs => ?_
 refine av hs rfl rfl fun a hs => ?_
 refine av hs rfl rfl fun a hs => ?_
 refine nl ?_
 refine wp_seq ?_
 obtain ⟨rv21, h20, hsh⟩ := bind_t hsh
 obtain ⟨rv23, h22, hsh⟩ := bind_t hsh
 obtain ⟨rv25, h24, hsh⟩ := bind_t hsh
 obtain ⟨x28, h26, hsh⟩ := bind_t hsh
 obtain ⟨b34, o35, q32, c33, h36, h29, h30, h31, h27⟩ := hw.elemV 0 rfl h26
 have hsv37 := hs
 have hwv38 := hw
 subst h36
 have hs := hsv37
 have hw := hwv38
 obtain ⟨_, rfl, rfl⟩ := h27
 have hw := hw.addE h31
 obtain ⟨rv40, h39, hsh⟩ := bind_t hsh
 refine wp_only (fun a w => ∃ (Sv41 : Nat → Prop), Sl 51 [(8, .pointer (some ⟨b12, 0, none⟩))] a ∧ Wd ⟨w0, S0, []⟩ Sv41 [.box b12 [.string s2.Network, .string s2.Station, .string s2.Location, .string s2.Channel, .int .i64 rv21, .int .i64 (max 0 (w64 (rv23 - g3.Error))), .int .i64 (min (w64 (rv25 + g3.Error)) 18014398509481984), .int .i64 t7.Peak, .int .i64 rv40] 66] [] w) ?_ ?_
 ·refine h_b (C := Cls [.box b11 [.int .i64 t7.On, .int .i64 t7.Off, .int .i64 t7.Peak] 28, .box b10 [.int .i64 g3.Start, .int .i64 g3.First, .int .i64 g3.Rate.Num, .int .i64 g3.Rate.Den, .int .i64 g3.Error, .slice (some ⟨b34, o35, none⟩) g3.Samples.length k5] 36, .box b9 [.string s2.Network, .string s2.Station, .string s2.Location, .string s2.Channel] 41, .box b8 [.int .i64 p1.Detector.Short, .int .i64 p1.Detector.Long, .int .i64 p1.Detector.On, .int .i64 p1.Detector.Off, .int .i64 p1.Back, .int .i64 p1.Level, .int .i64 p1.Floor] 26] [CeA b34 q32 [.int .i64 x28]]) (by kernel_rfl) rfl (hw.drew.cs [1, 2, 3, 4] [0] rfl rfl) fun hC => ?_
  have hw := hw.drew
  refine gv hs 0 rfl rfl hC (fun w hC => y_loadBA (hC.ownAt 2 rfl) rfl Tryz.isAgg41 Tryz.sizeOf41 rfl rfl) fun a hs => ?_
  refine gm hs 1 rfl rfl rfl hC fun a hs => ?_
  refine gm hs 2 rfl rfl rfl hC fun a hs => ?_
  refine gm hs 4 rfl rfl rfl hC fun a hs => ?_
  refine gm hs 5 rfl rfl rfl hC fun a hs => ?_
  refine gv hs 6 rfl rfl hC (fun w hC => y_sub rfl rfl) fun a hs => ?_
  refine gv hs 7 rfl rfl hC (fun w hC => y_max rfl rfl) fun a hs => ?_
  refine gv hs 9 rfl rfl hC (fun w hC => y_fieldAddr (o' := 4) Tryz.runUnderlying36 rfl Tryz.sizeOf3 rfl rfl rfl) fun a hs => ?_
  refine gv hs 10 rfl rfl hC (fun w hC => y_loadB1 (hC.ownAt 1 rfl) rfl Tryz.isAgg3 rfl) fun a hs => ?_
  refine gm hs 13 rfl rfl rfl hC fun a hs => ?_
  refine gv hs 14 rfl rfl hC (fun w hC => y_fieldAddr (o' := 0) Tryz.runUnderlying28 rfl Tryz.sizeOf3 rfl rfl rfl) fun a hs => ?_
  refine gv hs 15 rfl rfl hC (fun w hC => y_loadB1 (hC.ownAt 0 rfl) rfl Tryz.isAgg3 rfl) fun a hs => ?_
  refine gv hs 17 rfl rfl hC (fun w hC => y_fieldAddr (o' := 4) Tryz.runUnderlying36 rfl Tryz.sizeOf3 rfl rfl rfl) fun a hs => ?_
  refine gv hs 18 rfl rfl hC (fun w hC => y_loadB1 (hC.ownAt 1 rfl) rfl Tryz.isAgg3 rfl) fun a hs => ?_
  refine gv hs 21 rfl rfl hC (fun w hC => y_fieldAddr (o' := 2) Tryz.runUnderlying28 rfl Tryz.sizeOf3 rfl rfl rfl) fun a hs => ?_
  refine gv hs 22 rfl rfl hC (fun w hC => y_loadB1 (hC.ownAt 0 rfl) rfl Tryz.isAgg3 rfl) fun a hs => ?_
  refine gv hs 23 rfl rfl hC (fun w hC => y_fieldAddr (o' := 5) Tryz.runUnderlying36 rfl Tryz.sizeOf22 rfl rfl rfl) fun a hs => ?_
  refine gv hs 24 rfl rfl hC (fun w hC => y_loadB1 (hC.ownAt 1 rfl) rfl Tryz.isAgg22 rfl) fun a hs => ?_
  refine gm hs 25 rfl rfl rfl hC fun a hs => ?_
  refine gv hs 26 rfl rfl hC (fun w hC => y_indexAt Tryz.runUnderlying22 Tryz.sizeOf3 rfl rfl h29.1 h29.2 h30) fun a hs => ?_
  refine gv hs 27 rfl rfl hC (fun w hC => y_loadE1 (j := 0) (hC.ceAt 0 rfl) rfl Tryz.isAgg3 rfl) fun a hs => ?_
  refine ho 3 rfl ?_
  refine st_callR hs (picker_pick_fn1_ok h20 hw.bdom (hw.bBox 2 rfl) (hw.bE 1 rfl)) (do_callF (first := []) (vs := [.int .i64 rv14.1]) (cap := [.pointer (some ⟨b10, 0, none⟩)]) Tryz.call73 rfl rfl) trivial rfl rfl ?_
  intro v45 Sv42 w a h43 h44 hs
  subst h44
  have hw := hw.callB h43
  refine h_nx (hw.cs [1, 2, 3, 4] [0] rfl rfl) fun hC => ?_
  refine ho 8 rfl ?_
  refine st_callR hs (picker_pick_fn1_ok h22 hw.bdom (hw.bBox 2 rfl) (hw.bE 1 rfl)) (do_callF (first := []) (vs := [.int .i64 (max (w64 (rv14.1 - 1)) 0)]) (cap := [.pointer (some ⟨b10, 0, none⟩)]) Tryz.call73 rfl rfl) trivial rfl rfl ?_
  intro v50 Sv47 w a h48 h49 hs
  subst h49
  have hw := hw.callB h48
  refine h_nx (hw.cs [1, 2, 3, 4] [0] rfl rfl) fun hC => ?_
  refine gv hs 11 rfl rfl hC (fun w hC => y_sub rfl rfl) fun a hs => ?_
  refine gv hs 12 rfl rfl hC (fun w hC => y_max rfl rfl) fun a hs => ?_
  refine ho 16 rfl ?_
  refine st_callR hs (picker_pick_fn1_ok h24 hw.bdom (hw.bBox 2 rfl) (hw.bE 1 rfl)) (do_callF (first := []) (vs := [.int .i64 t7.On]) (cap := [.pointer (some ⟨b10, 0, none⟩)]) Tryz.call73 rfl rfl) trivial rfl rfl ?_
  intro v55 Sv52 w a h53 h54 hs
  subst h54
  have hw := hw.callB h53
  refine h_nx (hw.cs [1, 2, 3, 4] [0] rfl rfl) fun hC => ?_
  refine gv hs 19 rfl rfl hC (fun w hC => y_add rfl rfl) fun a hs => ?_
  refine gv hs 20 rfl rfl hC (fun w hC => y_min rfl rfl) fun a hs => ?_
  refine ho 28 rfl ?_
  refine st_callR hs (cmp_Compare_int_ok h39 hw.bdom) (do_call Tryz.call55 rfl) trivial rfl rfl ?_
  intro v60 Sv57 w a h58 h59 hs
  subst h59
  have hw := hw.callB h58
  refine h_nx (hw.cs [1, 2, 3, 4] [0] rfl rfl) fun hC => ?_
  refine gv hs 29 rfl rfl hC (fun w hC => y_build (vs := [(0, .agg #[.string s2.Network, .string s2.Station, .string s2.Location, .string s2.Channel]), (1, .int .i64 rv21), (2, .int .i64 (max 0 (w64 (rv23 - g3.Error)))), (3, .int .i64 (min (w64 (rv25 + g3.Error)) 18014398509481984)), (4, .int .i64 t7.Peak), (5, .int .i64 rv40)]) Bld66 rfl rfl) fun a hs => ?_
  refine ho 30 rfl ?_
  refine w_store (m := 9) (cs' := [.string s2.Network, .string s2.Station, .string s2.Location, .string s2.Channel, .int .i64 rv21, .int .i64 (max 0 (w64 (rv23 - g3.Error))), .int .i64 (min (w64 (rv25 + g3.Error)) 18014398509481984), .int .i64 t7.Peak, .int .i64 rv40]) hs hw 0 rfl rfl rfl Tryz.sizeOf66 rfl rfl rfl rfl trivial ?_
  intro a w hs hw
  refine h_nx (hw.cs [1, 2, 3, 4] [0] rfl rfl) fun hC => ?_
  refine h_done (by kernel_rfl) ?_
  exact ⟨S0, (hs.wk rfl), (hw.ft [0] [] (by decide) rfl rfl)⟩
 rintro a w ⟨Sv41, hs, hw⟩
 refine then_normal ?_
 have hsh := oi hsh
 subst hsh
 refine wp_ret ?_
 exact ret1 hs rfl (rv_cell hw 0 rfl rfl Tryz.isAgg66 Tryz.sizeOf66 rfl) (hw.ret rfl)
abbrev picker_Segment_rd (w0 : World) (X : List Nat) (r : ((List Pick) × Int)) : (Nat → Prop) → World → Value → Prop := fun S w v => ∃ (p0_0 : Option Addr) (k0_0 : Nat) (c0_0 : List Value), v = .tuple #[.slice p0_0 r.1.length k0_0, .int .i64 r.2] ∧ Outs X w0 S w [.row p0_0 r.1.length k0_0 c0_0 66 9] ∧ (RowA c0_0 r.1).p S w
set_option maxHeartbeats 4000000 in
set_option maxRecDepth 100000 in
theorem picker_Segment_ok {w0 : World} {S0 : Nat → Prop} {p4 : Option Addr} {k5 : Nat} {p1 : Picking} {s2 : SourceID} {g3 : Segment} {r : ((List Pick) × Int)} (hsh : picker_Segment p1 s2 g3 = some r) (hS : ∀ b, S0 b → b < w0.heap.size) (h6 : (SlA p4 g3.Samples.length k5 g3.Samples).p S0 w0) : Calls Tryz.prog 21 #[.agg #[.int .i64 p1.Detector.Short, .int .i64 p1.Detector.Long, .int .i64 p1.Detector.On, .int .i64 p1.Detector.Off, .int .i64 p1.Back, .int .i64 p1.Level, .int .i64 p1.Floor], .agg #[.string s2.Network, .string s2.Station, .string s2.Location, .string s2.Channel], .agg #[.int .i64 g3.Start, .int .i64 g3.First, .int .i64 g3.Rate.Num, .int .i64 g3.Rate.Den, .int .i64 g3.Error, .slice p4 g3.Samples.length k5]] w0 (Ret ([]) w0 S0 (picker_Segment_rd w0 ([]) r)) := by
 refine calls_of_wp Tryz.func21 rfl ?_
 have hs := Sl.enter #[.agg #[.int .i64 p1.Detector.Short, .int .i64 p1.Detector.Long, .int .i64 p1.Detector.On, .int .i64 p1.Detector.Off, .int .i64 p1.Back, .int .i64 p1.Level, .int .i64 p1.Floor], .agg #[.string s2.Network, .string s2.Station, .string s2.Location, .string s2.Channel], .agg #[.int .i64 g3.Start, .int .i64 g3.First, .int .i64 g3.Rate.Num, .int .i64 g3.Rate.Den, .int .i64 g3.Error, .slice p4 g3.Samples.length k5]] 56 [(0, .agg #[.int .i64 p1.Detector.Short, .int .i64 p1.Detector.Long, .int .i64 p1.Detector.On, .int .i64 p1.Detector.Off, .int .i64 p1.Back, .int .i64 p1.Level, .int .i64 p1.Floor]), (1, .agg #[.string s2.Network, .string s2.Station, .string s2.Location, .string s2.Channel]), (2, .agg #[.int .i64 g3.Start, .int .i64 g3.First, .int .i64 g3.Rate.Num, .int .i64 g3.Rate.Den, .int .i64 g3.Error, .slice p4 g3.Samples.length k5])] rfl ⟨rfl, rfl, rfl, trivial⟩
 have hw := Wd.enter (E := []) hS (fun _ h => (by cases h))
 have hw := hw.addE h6
 delta picker_Segment at hsh
 refine sr ?_
 refine w_box (cs := [.int .i64 p1.Detector.Short, .int .i64 p1.Detector.Long, .int .i64 p1.Detector.On, .int .i64 p1.Detector.Off, .int .i64 p1.Back, .int .i64 p1.Level, .int .i64 p1.Floor]) hs hw rfl rfl rfl trivial ?_
 intro b7 a w hs hw
 refine w_box (cs := [.string s2.Network, .string s2.Station, .string s2.Location, .string s2.Channel]) hs hw rfl rfl rfl trivial ?_
 intro b8 a w hs hw
 refine w_box (cs := [.int .i64 g3.Start, .int .i64 g3.First, .int .i64 g3.Rate.Num, .int .i64 g3.Rate.Den, .int .i64 g3.Error, .slice p4 g3.Samples.length k5]) hs hw rfl rfl rfl trivial ?_
 intro b9 a w hs hw
 refine av hs rfl rfl fun a hs => ?_
 refine av hs rfl rfl fun a hs => ?_
 refine nl ?_
 refine wp_seq ?_
 refine sr ?_
 refine sv hs (y_loadBA (hw.ownAt 2 rfl) rfl Tryz.isAgg26 Tryz.sizeOf26 rfl rfl) rfl fun a hs => ?_
 refine sv hs (y_loadBA (hw.ownAt 1 rfl) rfl Tryz.isAgg41 Tryz.sizeOf41 rfl rfl) rfl fun a hs => ?_
 refine sv hs (y_loadBA (hw.ownAt 0 rfl) rfl Tryz.isAgg36 Tryz.sizeOf36 rfl rfl) rfl fun a hs => ?_
 refine w_litSlice (α := Segment) (vs := [.agg #[.int .i64 g3.Start, .int .i64 g3.First, .int .i64 g3.Rate.Num, .int .i64 g3.Rate.Den, .int .i64 g3.Error, .slice p4 g3.Samples.length k5]]) (cs := [.int .i64 g3.Start, .int .i64 g3.First, .int .i64 g3.Rate.Num, .int .i64 g3.Rate.Den, .int .i64 g3.Error, .slice p4 g3.Samples.length k5]) (xs := ([g3] : List Segment)) hs hw El30 rfl rfl rfl rfl rfl rfl ⟨⟨_, _, _, _, _, _, rfl, rfl, rfl, rfl, rfl, rfl, ⟨_, _, _, rfl, hw.envAt 0 rfl⟩⟩, rfl⟩ rfl trivial rfl fun b11 a w hs hw => ?_
 obtain ⟨rv13, h12, hsh⟩ := bind_t hsh
 refine st_callR hs (picker_valid_ok h12 hw.bdom (hw.bRow 0 rfl 0 rfl)) (do_call Tryz.call42 rfl) trivial rfl rfl ?_
 intro v17 Sv14 w a h15 h16 hs
 subst h16
 have hw := hw.callB h15
 refine sv hs (y_not rfl) rfl fun a hs => ?_
 refine nl ?_
 refine wp_cond_split (hs.ev rfl) (fun h20 => ?_) (fun h20 => ?_)
 ·have hsh := ite_t hsh h20
  refine sr ?_
  refine av hs rfl rfl fun a hs => ?_
  refine av hs rfl rfl fun a hs => ?_
  refine nl ?_
  have hsh := oi hsh
  subst hsh
  have hw := hw.nilRow Pick 66
  refine wp_ret ?_
  refine then_ret ?_
  exact ret2 hs rfl (rv_tmp rfl) (rv_tmp rfl) (hw.ret ⟨none, 0, [], rfl, (hw.outs [0] (by decide) rfl), (hw.envAt 0 rfl)⟩)
 have hsh := ite_f hsh h20
 refine wp_skip ?_
 refine then_normal ?_
 refine sr ?_
 refine sv hs (y_fieldAddr (o' := 0) Tryz.runUnderlying26 rfl Tryz.sizeOf24 rfl rfl rfl) rfl fun a hs => ?_
 refine sv hs (y_loadBA (hw.ownAt 3 rfl) rfl Tryz.isAgg24 Tryz.sizeOf24 rfl rfl) rfl fun a hs => ?_
 refine sv hs (y_fieldAddr (o' := 5) Tryz.runUnderlying36 rfl Tryz.sizeOf22 rfl rfl rfl) rfl fun a hs => ?_
 refine sv hs (y_loadB1 (hw.ownAt 1 rfl) rfl Tryz.isAgg22 rfl) rfl fun a hs => ?_
 obtain ⟨rv22, h21, hsh⟩ := bind_t hsh
 refine st_callR hs (detector_Run_ok h21 hw.dom (hw.envAt 1 rfl)) (do_call Tryz.call45 rfl) trivial rfl rfl ?_
 intro v30 Sv27 w a h28 h29 hs
 obtain ⟨p23, k24, c26, rfl, h31, h25⟩ := h29
 have hw := hw.callN h28 h31
 have hw := hw.addE (e := RowA c26 rv22.1) h25
 refine mv hs rfl rfl fun a hs => ?_
 refine sv hs (y_extract rfl rfl) rfl fun a hs => ?_
 refine sv hs (y_extract rfl rfl) rfl fun a hs => ?_
 refine av hs rfl rfl fun a hs => ?_
 refine av hs rfl rfl fun a hs => ?_
 refine nl ?_
 refine wp_seq ?_
 refine sr ?_
 refine mv hs rfl rfl fun a hs => ?_
 refine sv hs (y_neq rfl rfl) rfl fun a hs => ?_
 refine nl ?_
 refine wp_cond_split (hs.ev rfl) (fun h33 => ?_) (fun h33 => ?_)
 ·have hsh := ite_t hsh h33
  refine sr ?_
  refine mv hs rfl rfl fun a hs => ?_
  refine av hs rfl rfl fun a hs => ?_
  refine av hs rfl rfl fun a hs => ?_
  refine nl ?_
  have hsh := oi hsh
  subst hsh
  have hw := hw.nilRow Pick 66
  refine wp_ret ?_
  refine then_ret ?_
  exact ret2 hs rfl (rv_tmp rfl) (rv_tmp rfl) (hw.ret ⟨none, 0, [], rfl, (hw.outs [0] (by decide) rfl), (hw.envAt 0 rfl)⟩)
 have hsh := ite_f hsh h33
 refine wp_skip ?_
 refine then_normal ?_
 refine sr ?_
 refine av hs rfl rfl fun a hs => ?_
 refine nl ?_
 refine wp_seq ?_
 refine sr ?_
 refine mv hs rfl rfl fun a hs => ?_
 refine sv hs (y_len Tryz.runUnderlying47 rfl) rfl fun a hs => ?_
 refine mv hs rfl rfl fun a hs => ?_
 refine nl ?_
 obtain ⟨e157, h252, hsh⟩ := bind_t hsh
 refine wp_join (fun a w => ∃ (c158 : List Value) (p159 : Option Addr) (k160 : Nat) (Sv161 : Nat → Prop), Sl 56 [(10, .slice p159 e157.length k160)] a ∧ Wd ⟨w0, S0, []⟩ Sv161 [.row p159 e157.length k160 c158 66 9] [RowA c158 e157] w) ?_ ?_
 ·refine wp_block ?_
  have hw := hw.nilRow Pick 66
  refine wp_while (fun sv34 a w => ∃ (c113 : List Value) (p114 : Option Addr) (k115 : Nat) (Sv116 : Nat → Prop), Sl 56 [(3, .pointer (some ⟨b7, 0, none⟩)), (4, .pointer (some ⟨b8, 0, none⟩)), (5, .pointer (some ⟨b9, 0, none⟩)), (10, .slice p114 sv34.1.length k115), (30, .slice p23 rv22.1.length k24), (31, .int .i64 (rv22.1.length : Int)), (32, .int .i64 sv34.2)] a ∧ Wd ⟨w0, S0, []⟩ Sv116 [.box b7 [.int .i64 p1.Detector.Short, .int .i64 p1.Detector.Long, .int .i64 p1.Detector.On, .int .i64 p1.Detector.Off, .int .i64 p1.Back, .int .i64 p1.Level, .int .i64 p1.Floor] 26, .box b8 [.string s2.Network, .string s2.Station, .string s2.Location, .string s2.Channel] 41, .box b9 [.int .i64 g3.Start, .int .i64 g3.First, .int .i64 g3.Rate.Num, .int .i64 g3.Rate.Den, .int .i64 g3.Error, .slice p4 g3.Samples.length k5] 36, .row p114 sv34.1.length k115 c113 66 9, .row p23 rv22.1.length k24 c26 28 3] [SlA p4 g3.Samples.length k5 g3.Samples, RowA c113 sv34.1, RowA c26 rv22.1] w) (([] : List Pick), 0) h252 ⟨[], none, 0, Sv27, (hs.wk rfl), (hw.ft [5, 4, 3, 0, 1] [3, 0, 1] (by decide) rfl rfl)⟩ ?_
  clear h252
  repeat clear hsh
  rintro sv34 a w tv155 ⟨c113, p114, k115, Sv116, hs, hw⟩ hsh hd154
  delta picker_Segment_l1 at hsh
  refine sr ?_
  refine sv hs (y_lss rfl rfl) rfl fun a hs => ?_
  refine nl ?_
  refine wp_seq ?_
  refine wp_cond_split (hs.ev rfl) (fun h163 => ?_) (fun h163 => ?_)
  ·have hsh := ite_t hsh h163
   refine wp_skip ?_
   refine then_normal ?_
   refine wp_seq ?_
   refine wp_block ?_
   refine sr ?_
   obtain ⟨x202, h200, hsh⟩ := bind_t hsh
   obtain ⟨b209, q206, c207, h210, h203, h204, h208, h201⟩ := hw.elemRV (α := Trigger) 4 rfl 2 rfl h200
   have hsv211 := hs
   have hwv212 := hw
   subst h210
   have hs := hsv211
   have hw := hwv212
   obtain ⟨_, _, _, rfl, rfl, rfl, rfl⟩ := h201
   refine sv hs (y_indexAt Tryz.runUnderlying47 Tryz.sizeOf28 rfl rfl h203.1 h203.2 h204) rfl fun a hs => ?_
   refine sv hs (y_loadQA (j := 0) (hw.ownAt 4 rfl) rfl Tryz.isAgg28 Tryz.sizeOf28 h208 rfl rfl) rfl fun a hs => ?_
   refine w_alloc (cs := [.int .i64 0, .int .i64 0, .int .i64 0]) hs hw Tryz.zeroValue28 rfl rfl trivial ?_
   intro b213 a w hs hw
   refine w_store (m := 3) (cs' := [.int .i64 x202.On, .int .i64 x202.Off, .int .i64 x202.Peak]) hs hw 0 rfl rfl rfl Tryz.sizeOf28 rfl rfl rfl rfl trivial ?_
   intro a w hs hw
   refine nl ?_
   refine sr ?_
   refine sv hs (y_fieldAddr (o' := 1) Tryz.runUnderlying28 rfl Tryz.sizeOf3 rfl rfl rfl) rfl fun a hs => ?_
   refine sv hs (y_loadB1 (hw.ownAt 0 rfl) rfl Tryz.isAgg3 rfl) rfl fun a hs => ?_
   refine sv hs (y_neq rfl rfl) rfl fun a hs => ?_
   refine mv hs rfl rfl fun a hs => ?_
   refine wpl_join 6 (fun a w1 => w = w1 ∧ Sl 56 [(3, .pointer (some ⟨b7, 0, none⟩)), (4, .pointer (some ⟨b8, 0, none⟩)), (5, .pointer (some ⟨b9, 0, none⟩)), (10, .slice p114 sv34.1.length k115), (12, .pointer (some ⟨b213, 0, none⟩)), (30, .slice (some ⟨b209, 0, none⟩) rv22.1.length k24), (31, .int .i64 (rv22.1.length : Int)), (32, .int .i64 sv34.2), (45, .bool ((x202.Off != (-1)) && (decide (p1.Floor ≤ x202.Peak))))] a) ?_ ?_
   ·rcases Bool.eq_false_or_eq_true (x202.Off != (-1)) with h214 | h214
    ·have hs := hs.fix 39 (.bool true) rfl (vb h214)
     refine st_val hs (y_fieldAddr (o' := 2) Tryz.runUnderlying28 rfl Tryz.sizeOf3 rfl rfl rfl) ⟨_, rfl, rfl⟩ rfl rfl fun a hs => ?_
     refine st_val hs (y_loadB1 (hw.ownAt 0 rfl) rfl Tryz.isAgg3 rfl) ⟨_, rfl, rfl⟩ rfl rfl fun a hs => ?_
     refine st_val hs (y_fieldAddr (o' := 6) Tryz.runUnderlying26 rfl Tryz.sizeOf3 rfl rfl rfl) ⟨_, rfl, rfl⟩ rfl rfl fun a hs => ?_
     refine st_val hs (y_loadB1 (hw.ownAt 1 rfl) rfl Tryz.isAgg3 rfl) ⟨_, rfl, rfl⟩ rfl rfl fun a hs => ?_
     refine st_val hs (y_geq rfl rfl) ⟨_, rfl, rfl⟩ rfl rfl fun a hs => ?_
     refine sv hs (y_pickT rfl rfl) rfl fun a hs => ?_
     refine nl ?_
     exact ⟨rfl, (hs.fix 45 (.bool ((x202.Off != (-1)) && (decide (p1.Floor ≤ x202.Peak)))) rfl (and_t h214)).weaken _ ⟨rfl, rfl, rfl, rfl, rfl, rfl, rfl, rfl, rfl, trivial⟩⟩
    have hs := hs.fix 39 (.bool false) rfl (vb h214)
    refine st_skip hs rfl rfl rfl rfl rfl fun a hs => ?_
    refine st_skip hs rfl rfl rfl rfl rfl fun a hs => ?_
    refine st_skip hs rfl rfl rfl rfl rfl fun a hs => ?_
    refine st_skip hs rfl rfl rfl rfl rfl fun a hs => ?_
    refine st_skip hs rfl rfl rfl rfl rfl fun a hs => ?_
    refine sv hs (y_pickF rfl rfl) rfl fun a hs => ?_
    refine nl ?_
    exact ⟨rfl, (hs.fix 45 (.bool ((x202.Off != (-1)) && (decide (p1.Floor ≤ x202.Peak)))) rfl (and_f h214)).weaken _ ⟨rfl, rfl, rfl, rfl, rfl, rfl, rfl, rfl, rfl, trivial⟩⟩
   rintro a w1 ⟨h250, hs⟩
   subst h250
   refine nl ?_
   refine wp_join (fun a w => ∃ (out234 : (List Pick)) (c230 : List Value) (p231 : Option Addr) (k232 : Nat) (Sv233 : Nat → Prop), picker_Segment_j1 sv34 out234 = some tv155 ∧ Sl 56 [(3, .pointer (some ⟨b7, 0, none⟩)), (4, .pointer (some ⟨b8, 0, none⟩)), (5, .pointer (some ⟨b9, 0, none⟩)), (10, .slice p231 out234.length k232), (30, .slice (some ⟨b209, 0, none⟩) rv22.1.length k24), (31, .int .i64 (rv22.1.length : Int)), (32, .int .i64 sv34.2)] a ∧ Wd ⟨w0, S0, []⟩ Sv233 [.box b7 [.int .i64 p1.Detector.Short, .int .i64 p1.Detector.Long, .int .i64 p1.Detector.On, .int .i64 p1.Detector.Off, .int .i64 p1.Back, .int .i64 p1.Level, .int .i64 p1.Floor] 26, .box b8 [.string s2.Network, .string s2.Station, .string s2.Location, .string s2.Channel] 41, .box b9 [.int .i64 g3.Start, .int .i64 g3.First, .int .i64 g3.Rate.Num, .int .i64 g3.Rate.Den, .int .i64 g3.Error, .slice p4 g3.Samples.length k5] 36, .row p231 out234.length k232 c230 66 9, .row (some ⟨b209, 0, none⟩) rv22.1.length k24 c26 28 3] [SlA p4 g3.Samples.length k5 g3.Samples, RowA c230 out234, RowA c26 rv22.1] w) ?_ ?_
   ·refine wp_cond_split (hs.ev rfl) (fun h235 => ?_) (fun h235 => ?_)
    ·have hsh := ite_t hsh h235
     refine wp_region_lit ?_
     refine mv hs rfl rfl fun a hs => ?_
     refine sv hs (y_loadBA (hw.ownAt 1 rfl) rfl Tryz.isAgg26 Tryz.sizeOf26 rfl rfl) rfl fun a hs => ?_
     refine sv hs (y_loadBA (hw.ownAt 2 rfl) rfl Tryz.isAgg41 Tryz.sizeOf41 rfl rfl) rfl fun a hs => ?_
     refine sv hs (y_loadBA (hw.ownAt 3 rfl) rfl Tryz.isAgg36 Tryz.sizeOf36 rfl rfl) rfl fun a hs => ?_
     refine sv hs (y_loadBA (hw.ownAt 0 rfl) rfl Tryz.isAgg28 Tryz.sizeOf28 rfl rfl) rfl fun a hs => ?_
     obtain ⟨rv237, h236, hsh⟩ := bind_t hsh
     refine st_callR hs (picker_pick_ok h236 hw.bdom (hw.bE 0 rfl)) (do_call Tryz.call46 rfl) trivial rfl rfl ?_
     intro v241 Sv238 w a h239 h240 hs
     subst h240
     have hw := hw.callB h239
     refine w_litSlice (α := Pick) (vs := [.agg #[.string rv237.Source.Network, .string rv237.Source.Station, .string rv237.Source.Location, .string rv237.Source.Channel, .int .i64 rv237.Time, .int .i64 rv237.Early, .int .i64 rv237.Late, .int .i64 rv237.Amplitude, .int .i64 rv237.Polarity]]) (cs := [.string rv237.Source.Network, .string rv237.Source.Station, .string rv237.Source.Location, .string rv237.Source.Channel, .int .i64 rv237.Time, .int .i64 rv237.Early, .int .i64 rv237.Late, .int .i64 rv237.Amplitude, .int .i64 rv237.Polarity]) (xs := ([rv237] : List Pick)) hs hw El29 rfl rfl rfl rfl rfl rfl ⟨⟨_, _, _, _, _, _, _, _, _, rfl, rfl, rfl, rfl, rfl, rfl, rfl, rfl, rfl, rfl⟩, rfl⟩ rfl trivial rfl fun b244 a w hs hw => ?_
     obtain ⟨l246, h245, hsh⟩ := bind_t hsh
     refine w_appendR (α := Pick) hs hw El29 5 rfl rfl rfl 2 rfl 0 rfl 0 rfl h245 rfl trivial ?_
     intro p247 k248 c249 a w hs hw
     refine av hs rfl rfl fun a hs => ?_
     refine nl ?_
     exact ⟨l246, c249, p247, k248, Sv116, hsh, (hs.wk rfl), (hw.ft [2, 3, 4, 5, 6] [2, 0, 4] (by decide) rfl rfl)⟩
    have hsh := ite_f hsh h235
    refine wp_skip ?_
    refine then_normal ?_
    exact ⟨sv34.1, c113, p114, k115, Sv116, hsh, (hs.wk rfl), (hw.ft [1, 2, 3, 4, 5] [0, 1, 2] (by decide) rfl rfl)⟩
   rintro a w ⟨out234, c230, p231, k232, Sv233, hsh, hs, hw⟩
   delta picker_Segment_j1 at hsh
   refine blk_normal ?_
   refine then_normal ?_
   refine wp_region_lit ?_
   refine sv hs (y_add rfl rfl) rfl fun a hs => ?_
   refine mv hs rfl rfl fun a hs => ?_
   refine nl ?_
   exact ⟨_, (Option.some.inj hsh).symm, c230, p231, k232, Sv233, (hs.wk rfl), (hw.ft [0, 1, 2, 3, 4] [0, 1, 2] (by decide) rfl rfl)⟩
  have hsh := ite_f hsh h163
  refine wp_exit ?_
  refine then_exit ?_
  refine then_exit ?_
  refine blk_exit ?_
  have hsh := oi hsh
  subst hsh
  have h251 := hd154 _ rfl
  subst h251
  refine then_normal ?_
  exact ⟨c113, p114, k115, Sv116, (hs.wk rfl), (hw.ft [3] [1] (by decide) rfl rfl)⟩
 rintro a w ⟨c158, p159, k160, Sv161, hs, hw⟩
 refine then_normal ?_
 refine sr ?_
 refine mv hs rfl rfl fun a hs => ?_
 refine av hs rfl rfl fun a hs => ?_
 refine av hs rfl rfl fun a hs => ?_
 refine nl ?_
 have hsh := oi hsh
 subst hsh
 refine wp_ret ?_
 exact ret2 hs rfl (rv_tmp rfl) (rv_tmp rfl) (hw.ret ⟨p159, k160, c158, rfl, (hw.outs [0] (by decide) rfl), (hw.envAt 0 rfl)⟩)
abbrev law23_sane_rd (w0 : World) (X : List Nat) (r : Bool) : (Nat → Prop) → World → Value → Prop := fun S w v => v = .bool r
set_option maxHeartbeats 4000000 in
set_option maxRecDepth 100000 in
theorem law23_sane_ok {w0 : World} {S0 : Nat → Prop} {r : Bool} (hsh : law23_sane = some r) (hS : ∀ b, S0 b → b < w0.heap.size) : Calls Tryz.prog 5 #[] w0 (Ret ([]) w0 S0 (law23_sane_rd w0 ([]) r)) := by
 refine calls_of_wp Tryz.func5 rfl ?_
 have hs := Sl.enter #[] 51 [] rfl trivial
 have hw := Wd.enter (E := []) hS (fun _ h => (by cases h))
 delta law23_sane at hsh
 refine sr ?_
 refine av hs rfl rfl fun a hs => ?_
 refine nl ?_
 refine sr ?_
 refine sv hs (y_build (vs := [(0, .int .i64 1), (1, .int .i64 4), (2, .int .i64 200), (3, .int .i64 100)]) Bld24 rfl rfl) rfl fun a hs => ?_
 refine sv hs (y_build (vs := [(0, .agg #[.int .i64 1, .int .i64 4, .int .i64 200, .int .i64 100]), (1, .int .i64 2), (2, .int .i64 100)]) Bld26 rfl rfl) rfl fun a hs => ?_
 refine w_alloc (cs := [.int .i64 0, .int .i64 0, .int .i64 0, .int .i64 0, .int .i64 0, .int .i64 0, .int .i64 0]) hs hw Tryz.zeroValue26 rfl rfl trivial ?_
 intro b1 a w hs hw
 refine w_store (m := 7) (cs' := [.int .i64 1, .int .i64 4, .int .i64 200, .int .i64 100, .int .i64 2, .int .i64 100, .int .i64 0]) hs hw 0 rfl rfl rfl Tryz.sizeOf26 rfl rfl rfl rfl trivial ?_
 intro a w hs hw
 refine nl ?_
 refine sr ?_
 refine w_litSlice (α := Int) (vs := [.int .i64 1, .int .i64 1, .int .i64 1, .int .i64 1, .int .i64 9, .int .i64 9, .int .i64 1, .int .i64 1]) (cs := [.int .i64 1, .int .i64 1, .int .i64 1, .int .i64 1, .int .i64 9, .int .i64 9, .int .i64 1, .int .i64 1]) (xs := ([1, 1, 1, 1, 9, 9, 1, 1] : List Int)) hs hw El22 rfl rfl rfl rfl rfl rfl ⟨⟨_, rfl, rfl⟩, ⟨⟨_, rfl, rfl⟩, ⟨⟨_, rfl, rfl⟩, ⟨⟨_, rfl, rfl⟩, ⟨⟨_, rfl, rfl⟩, ⟨⟨_, rfl, rfl⟩, ⟨⟨_, rfl, rfl⟩, ⟨⟨_, rfl, rfl⟩, rfl⟩⟩⟩⟩⟩⟩⟩⟩ rfl trivial rfl fun b3 a w hs hw => ?_
 refine av hs rfl rfl fun a hs => ?_
 refine nl ?_
 refine sr ?_
 refine sv hs (y_loadBA (hw.ownAt 1 rfl) rfl Tryz.isAgg26 Tryz.sizeOf26 rfl rfl) rfl fun a hs => ?_
 refine mv hs rfl rfl fun a hs => ?_
 refine sv hs (y_build (vs := [(0, .int .i64 4), (1, .int .i64 6)]) Bld28 rfl rfl) rfl fun a hs => ?_
 obtain ⟨rv5, h4, hsh⟩ := bind_t hsh
 refine st_callR hs (picker_Onset_ok h4 hw.bdom (hw.bRow 0 rfl 0 rfl)) (do_call Tryz.call16 rfl) trivial rfl rfl ?_
 intro v9 Sv6 w a h7 h8 hs
 subst h8
 have hw := hw.callB h7
 refine mv hs rfl rfl fun a hs => ?_
 refine sv hs (y_extract rfl rfl) rfl fun a hs => ?_
 refine sv hs (y_extract rfl rfl) rfl fun a hs => ?_
 refine av hs rfl rfl fun a hs => ?_
 refine av hs rfl rfl fun a hs => ?_
 refine nl ?_
 refine sr ?_
 refine sv hs (y_build (vs := [(0, .string (⟨#[65]⟩ : ByteArray)), (1, .string (⟨#[66]⟩ : ByteArray)), (3, .string (⟨#[72, 72, 90]⟩ : ByteArray))]) Bld41 rfl rfl) rfl fun a hs => ?_
 refine w_alloc (cs := [.string ByteArray.empty, .string ByteArray.empty, .string ByteArray.empty, .string ByteArray.empty]) hs hw Tryz.zeroValue41 rfl rfl trivial ?_
 intro b11 a w hs hw
 refine w_store (m := 4) (cs' := [.string (⟨#[65]⟩ : ByteArray), .string (⟨#[66]⟩ : ByteArray), .string ByteArray.empty, .string (⟨#[72, 72, 90]⟩ : ByteArray)]) hs hw 0 rfl rfl rfl Tryz.sizeOf41 rfl rfl rfl rfl trivial ?_
 intro a w hs hw
 refine nl ?_
 refine sr ?_
 refine sv hs (y_loadBA (hw.ownAt 2 rfl) rfl Tryz.isAgg26 Tryz.sizeOf26 rfl rfl) rfl fun a hs => ?_
 refine sv hs (y_loadBA (hw.ownAt 0 rfl) rfl Tryz.isAgg41 Tryz.sizeOf41 rfl rfl) rfl fun a hs => ?_
 refine sv hs (y_build (vs := [(0, .int .i64 1), (1, .int .i64 1)]) Bld34 rfl rfl) rfl fun a hs => ?_
 refine mv hs rfl rfl fun a hs => ?_
 refine sv hs (y_build (vs := [(2, .agg #[.int .i64 1, .int .i64 1]), (3, .int .i64 10), (4, .slice (some ⟨b3, 0, none⟩) ([1, 1, 1, 1, 9, 9, 1, 1] : List Int).length ([1, 1, 1, 1, 9, 9, 1, 1] : List Int).length)]) Bld36 rfl rfl) rfl fun a hs => ?_
 obtain ⟨rv13, h12, hsh⟩ := bind_t hsh
 obtain ⟨Sv18, hw⟩ := w_share (α := Int) hw 1 rfl 0 rfl
 refine st_callR hs (picker_Segment_ok h12 hw.dom (hw.envAt 0 rfl)) (do_call Tryz.call21 rfl) trivial rfl rfl ?_
 intro v22 Sv19 w a h20 h21 hs
 obtain ⟨p14, k15, c17, rfl, h23, h16⟩ := h21
 have hw := hw.callN h20 h23
 have hw := hw.addE (e := RowA c17 rv13.1) h16
 refine mv hs rfl rfl fun a hs => ?_
 refine sv hs (y_extract rfl rfl) rfl fun a hs => ?_
 refine sv hs (y_extract rfl rfl) rfl fun a hs => ?_
 refine av hs rfl rfl fun a hs => ?_
 refine av hs rfl rfl fun a hs => ?_
 refine nl ?_
 refine wp_seq ?_
 obtain ⟨c37, hc37, hsh⟩ := bind_t hsh
 refine wp_only (fun a w => ∃ (Sv38 : Nat → Prop), Sl 51 [(0, .bool c37)] a ∧ Wd ⟨w0, S0, []⟩ Sv38 [] [] w) ?_ ?_
 ·rcases Bool.eq_false_or_eq_true (rv5.2 == 0) with h39 | h39
  ·rcases Bool.eq_false_or_eq_true ((rv5.2 == 0) && (rv5.1 == 4)) with h41 | h41
   ·rcases Bool.eq_false_or_eq_true (((rv5.2 == 0) && (rv5.1 == 4)) && (rv13.2 == 0)) with h43 | h43
    ·rcases Bool.eq_false_or_eq_true ((((rv5.2 == 0) && (rv5.1 == 4)) && (rv13.2 == 0)) && ((rv13.1.length : Int) == 1)) with h45 | h45
     ·have h46 := ite_t hc37 h45
      obtain ⟨x49, h47, h46⟩ := bind_t h46
      obtain ⟨b56, q53, c54, h57, h50, h51, h55, h48⟩ := hw.elemRV (α := Pick) 0 rfl 0 rfl h47
      have hsv58 := hs
      have hwv59 := hw
      subst h57
      have hs := hsv58
      have hw := hwv59
      obtain ⟨_, _, _, _, _, _, _, _, _, rfl, rfl, rfl, rfl, rfl, rfl, rfl, rfl, rfl, rfl⟩ := h48
      refine h_b (C := Cls [.row (some ⟨b56, 0, none⟩) rv13.1.length k15 c17 66 9, .box b11 [.string (⟨#[65]⟩ : ByteArray), .string (⟨#[66]⟩ : ByteArray), .string ByteArray.empty, .string (⟨#[72, 72, 90]⟩ : ByteArray)] 41, .box b1 [.int .i64 1, .int .i64 4, .int .i64 200, .int .i64 100, .int .i64 2, .int .i64 100, .int .i64 0] 26] []) (by kernel_rfl) rfl (hw.drew.cs [0, 1, 2] [] rfl rfl) fun hC => ?_
      have hw := hw.drew
      refine gm hs 0 rfl rfl rfl hC fun a hs => ?_
      refine gv hs 1 rfl rfl hC (fun w hC => y_eql rfl rfl) fun a hs => ?_
      refine gm hs 2 rfl rfl rfl hC fun a hs => ?_
      have hs := hs.fix 30 (.bool true) rfl (vb h39)
      refine gt hs 3 rfl ⟨_, rfl, rfl⟩ rfl hC (fun w hC => y_move rfl) fun a hs => ?_
      refine gt hs 4 rfl ⟨_, rfl, rfl⟩ rfl hC (fun w hC => y_eql rfl rfl) fun a hs => ?_
      refine gv hs 5 rfl rfl hC (fun w hC => y_pickTE (v := .bool ((rv5.2 == 0) && (rv5.1 == 4))) rfl rfl (and_t h39)) fun a hs => ?_
      refine gm hs 6 rfl rfl rfl hC fun a hs => ?_
      have hs := hs.fix 34 (.bool true) rfl (vb h41)
      refine gt hs 7 rfl ⟨_, rfl, rfl⟩ rfl hC (fun w hC => y_move rfl) fun a hs => ?_
      refine gt hs 8 rfl ⟨_, rfl, rfl⟩ rfl hC (fun w hC => y_eql rfl rfl) fun a hs => ?_
      refine gv hs 9 rfl rfl hC (fun w hC => y_pickTE (v := .bool (((rv5.2 == 0) && (rv5.1 == 4)) && (rv13.2 == 0))) rfl rfl (and_t h41)) fun a hs => ?_
      refine gm hs 10 rfl rfl rfl hC fun a hs => ?_
      have hs := hs.fix 38 (.bool true) rfl (vb h43)
      refine gt hs 11 rfl ⟨_, rfl, rfl⟩ rfl hC (fun w hC => y_move rfl) fun a hs => ?_
      refine gt hs 12 rfl ⟨_, rfl, rfl⟩ rfl hC (fun w hC => y_len Tryz.runUnderlying29 rfl) fun a hs => ?_
      refine gt hs 13 rfl ⟨_, rfl, rfl⟩ rfl hC (fun w hC => y_eql rfl rfl) fun a hs => ?_
      refine gv hs 14 rfl rfl hC (fun w hC => y_pickTE (v := .bool ((((rv5.2 == 0) && (rv5.1 == 4)) && (rv13.2 == 0)) && ((rv13.1.length : Int) == 1))) rfl rfl (and_t h43)) fun a hs => ?_
      refine gm hs 15 rfl rfl rfl hC fun a hs => ?_
      have hs := hs.fix 43 (.bool true) rfl (vb h45)
      refine gt hs 16 rfl ⟨_, rfl, rfl⟩ rfl hC (fun w hC => y_move rfl) fun a hs => ?_
      refine gt hs 17 rfl ⟨_, rfl, rfl⟩ rfl hC (fun w hC => y_indexAt Tryz.runUnderlying29 Tryz.sizeOf66 rfl rfl h50.1 h50.2 h51) fun a hs => ?_
      refine gt hs 18 rfl ⟨_, rfl, rfl⟩ rfl hC (fun w hC => y_loadQA (j := 0) (hC.ownAt 0 rfl) rfl Tryz.isAgg66 Tryz.sizeOf66 h55 rfl rfl) fun a hs => ?_
      refine gt hs 19 rfl ⟨_, rfl, rfl⟩ rfl hC (fun w hC => y_loadBA (hC.ownAt 1 rfl) rfl Tryz.isAgg41 Tryz.sizeOf41 rfl rfl) fun a hs => ?_
      refine gt hs 20 rfl ⟨_, rfl, rfl⟩ rfl hC (fun w hC => y_build (vs := [(0, .agg #[.string (⟨#[65]⟩ : ByteArray), .string (⟨#[66]⟩ : ByteArray), .string ByteArray.empty, .string (⟨#[72, 72, 90]⟩ : ByteArray)]), (1, .int .i64 4000000), (2, .int .i64 2999990), (3, .int .i64 4000010), (4, .int .i64 9), (5, .int .i64 1)]) Bld66 rfl rfl) fun a hs => ?_
      refine gt hs 21 rfl ⟨_, rfl, rfl⟩ rfl hC (fun w hC => y_eqlA (by kernel_rfl) rfl rfl (eqv_struct Tryz.runUnderlying66 (by kernel_rfl) (EqF.consA rfl Tryz.isAgg41 Tryz.sizeOf41 rfl rfl (eqv_struct Tryz.runUnderlying41 (by kernel_rfl) (EqF.cons1 rfl Tryz.isAgg9 rfl rfl (eqv_str Tryz.runUnderlying9) (EqF.cons1 rfl Tryz.isAgg9 rfl rfl (eqv_str Tryz.runUnderlying9) (EqF.cons1 rfl Tryz.isAgg9 rfl rfl (eqv_str Tryz.runUnderlying9) (EqF.cons1 rfl Tryz.isAgg9 rfl rfl (eqv_str Tryz.runUnderlying9) EqF.nil))))) (EqF.cons1 rfl Tryz.isAgg3 rfl rfl (eqv_int Tryz.runUnderlying3) (EqF.cons1 rfl Tryz.isAgg3 rfl rfl (eqv_int Tryz.runUnderlying3) (EqF.cons1 rfl Tryz.isAgg3 rfl rfl (eqv_int Tryz.runUnderlying3) (EqF.cons1 rfl Tryz.isAgg3 rfl rfl (eqv_int Tryz.runUnderlying3) (EqF.cons1 rfl Tryz.isAgg3 rfl rfl (eqv_int Tryz.runUnderlying3) EqF.nil)))))))) fun a hs => ?_
      refine gv hs 22 rfl rfl hC (fun w hC => y_pickTE (v := .bool c37) rfl rfl (vbs h46)) fun a hs => ?_
      refine gv hs 23 rfl rfl hC (fun w hC => y_assign rfl) fun a hs => ?_
      refine h_done (by kernel_rfl) ?_
      exact ⟨Sv19, (hs.wk rfl), (hw.ft [] [] (by decide) rfl rfl)⟩
     have h60 := ite_f hc37 h45
     refine h_b (C := Cls [.row p14 rv13.1.length k15 c17 66 9, .box b11 [.string (⟨#[65]⟩ : ByteArray), .string (⟨#[66]⟩ : ByteArray), .string ByteArray.empty, .string (⟨#[72, 72, 90]⟩ : ByteArray)] 41, .box b1 [.int .i64 1, .int .i64 4, .int .i64 200, .int .i64 100, .int .i64 2, .int .i64 100, .int .i64 0] 26] []) (by kernel_rfl) rfl (hw.drew.cs [0, 1, 2] [] rfl rfl) fun hC => ?_
     have hw := hw.drew
     refine gm hs 0 rfl rfl rfl hC fun a hs => ?_
     refine gv hs 1 rfl rfl hC (fun w hC => y_eql rfl rfl) fun a hs => ?_
     refine gm hs 2 rfl rfl rfl hC fun a hs => ?_
     have hs := hs.fix 30 (.bool true) rfl (vb h39)
     refine gt hs 3 rfl ⟨_, rfl, rfl⟩ rfl hC (fun w hC => y_move rfl) fun a hs => ?_
     refine gt hs 4 rfl ⟨_, rfl, rfl⟩ rfl hC (fun w hC => y_eql rfl rfl) fun a hs => ?_
     refine gv hs 5 rfl rfl hC (fun w hC => y_pickTE (v := .bool ((rv5.2 == 0) && (rv5.1 == 4))) rfl rfl (and_t h39)) fun a hs => ?_
     refine gm hs 6 rfl rfl rfl hC fun a hs => ?_
     have hs := hs.fix 34 (.bool true) rfl (vb h41)
     refine gt hs 7 rfl ⟨_, rfl, rfl⟩ rfl hC (fun w hC => y_move rfl) fun a hs => ?_
     refine gt hs 8 rfl ⟨_, rfl, rfl⟩ rfl hC (fun w hC => y_eql rfl rfl) fun a hs => ?_
     refine gv hs 9 rfl rfl hC (fun w hC => y_pickTE (v := .bool (((rv5.2 == 0) && (rv5.1 == 4)) && (rv13.2 == 0))) rfl rfl (and_t h41)) fun a hs => ?_
     refine gm hs 10 rfl rfl rfl hC fun a hs => ?_
     have hs := hs.fix 38 (.bool true) rfl (vb h43)
     refine gt hs 11 rfl ⟨_, rfl, rfl⟩ rfl hC (fun w hC => y_move rfl) fun a hs => ?_
     refine gt hs 12 rfl ⟨_, rfl, rfl⟩ rfl hC (fun w hC => y_len Tryz.runUnderlying29 rfl) fun a hs => ?_
     refine gt hs 13 rfl ⟨_, rfl, rfl⟩ rfl hC (fun w hC => y_eql rfl rfl) fun a hs => ?_
     refine gv hs 14 rfl rfl hC (fun w hC => y_pickTE (v := .bool ((((rv5.2 == 0) && (rv5.1 == 4)) && (rv13.2 == 0)) && ((rv13.1.length : Int) == 1))) rfl rfl (and_t h43)) fun a hs => ?_
     refine gm hs 15 rfl rfl rfl hC fun a hs => ?_
     have hs := hs.fix 43 (.bool false) rfl (vb h45)
     refine gs hs 16 rfl rfl rfl rfl hC fun a hs => ?_
     refine gs hs 17 rfl rfl rfl rfl hC fun a hs => ?_
     refine gs hs 18 rfl rfl rfl rfl hC fun a hs => ?_
     refine gs hs 19 rfl rfl rfl rfl hC fun a hs => ?_
     refine gs hs 20 rfl rfl rfl rfl hC fun a hs => ?_
     refine gs hs 21 rfl rfl rfl rfl hC fun a hs => ?_
     refine gv hs 22 rfl rfl hC (fun w hC => y_pickFE (v := .bool c37) rfl rfl (vbs h60)) fun a hs => ?_
     refine gv hs 23 rfl rfl hC (fun w hC => y_assign rfl) fun a hs => ?_
     refine h_done (by kernel_rfl) ?_
     exact ⟨Sv19, (hs.wk rfl), (hw.ft [] [] (by decide) rfl rfl)⟩
    have h62 : ((((rv5.2 == 0) && (rv5.1 == 4)) && (rv13.2 == 0)) && ((rv13.1.length : Int) == 1)) = false := by rw [h43]; rfl
    have h63 := ite_f hc37 h62
    refine h_b (C := Cls [.row p14 rv13.1.length k15 c17 66 9, .box b11 [.string (⟨#[65]⟩ : ByteArray), .string (⟨#[66]⟩ : ByteArray), .string ByteArray.empty, .string (⟨#[72, 72, 90]⟩ : ByteArray)] 41, .box b1 [.int .i64 1, .int .i64 4, .int .i64 200, .int .i64 100, .int .i64 2, .int .i64 100, .int .i64 0] 26] []) (by kernel_rfl) rfl (hw.drew.cs [0, 1, 2] [] rfl rfl) fun hC => ?_
    have hw := hw.drew
    refine gm hs 0 rfl rfl rfl hC fun a hs => ?_
    refine gv hs 1 rfl rfl hC (fun w hC => y_eql rfl rfl) fun a hs => ?_
    refine gm hs 2 rfl rfl rfl hC fun a hs => ?_
    have hs := hs.fix 30 (.bool true) rfl (vb h39)
    refine gt hs 3 rfl ⟨_, rfl, rfl⟩ rfl hC (fun w hC => y_move rfl) fun a hs => ?_
    refine gt hs 4 rfl ⟨_, rfl, rfl⟩ rfl hC (fun w hC => y_eql rfl rfl) fun a hs => ?_
    refine gv hs 5 rfl rfl hC (fun w hC => y_pickTE (v := .bool ((rv5.2 == 0) && (rv5.1 == 4))) rfl rfl (and_t h39)) fun a hs => ?_
    refine gm hs 6 rfl rfl rfl hC fun a hs => ?_
    have hs := hs.fix 34 (.bool true) rfl (vb h41)
    refine gt hs 7 rfl ⟨_, rfl, rfl⟩ rfl hC (fun w hC => y_move rfl) fun a hs => ?_
    refine gt hs 8 rfl ⟨_, rfl, rfl⟩ rfl hC (fun w hC => y_eql rfl rfl) fun a hs => ?_
    refine gv hs 9 rfl rfl hC (fun w hC => y_pickTE (v := .bool (((rv5.2 == 0) && (rv5.1 == 4)) && (rv13.2 == 0))) rfl rfl (and_t h41)) fun a hs => ?_
    refine gm hs 10 rfl rfl rfl hC fun a hs => ?_
    have hs := hs.fix 38 (.bool false) rfl (vb h43)
    refine gs hs 11 rfl rfl rfl rfl hC fun a hs => ?_
    refine gs hs 12 rfl rfl rfl rfl hC fun a hs => ?_
    refine gs hs 13 rfl rfl rfl rfl hC fun a hs => ?_
    refine gv hs 14 rfl rfl hC (fun w hC => y_pickFE (v := .bool ((((rv5.2 == 0) && (rv5.1 == 4)) && (rv13.2 == 0)) && ((rv13.1.length : Int) == 1))) rfl rfl (and_f h43)) fun a hs => ?_
    refine gm hs 15 rfl rfl rfl hC fun a hs => ?_
    have hs := hs.fix 43 (.bool false) rfl (vb h62)
    refine gs hs 16 rfl rfl rfl rfl hC fun a hs => ?_
    refine gs hs 17 rfl rfl rfl rfl hC fun a hs => ?_
    refine gs hs 18 rfl rfl rfl rfl hC fun a hs => ?_
    refine gs hs 19 rfl rfl rfl rfl hC fun a hs => ?_
    refine gs hs 20 rfl rfl rfl rfl hC fun a hs => ?_
    refine gs hs 21 rfl rfl rfl rfl hC fun a hs => ?_
    refine gv hs 22 rfl rfl hC (fun w hC => y_pickFE (v := .bool c37) rfl rfl (vbs h63)) fun a hs => ?_
    refine gv hs 23 rfl rfl hC (fun w hC => y_assign rfl) fun a hs => ?_
    refine h_done (by kernel_rfl) ?_
    exact ⟨Sv19, (hs.wk rfl), (hw.ft [] [] (by decide) rfl rfl)⟩
   have h65 : (((rv5.2 == 0) && (rv5.1 == 4)) && (rv13.2 == 0)) = false := by rw [h41]; rfl
   have h67 : ((((rv5.2 == 0) && (rv5.1 == 4)) && (rv13.2 == 0)) && ((rv13.1.length : Int) == 1)) = false := by rw [h65]; rfl
   have h68 := ite_f hc37 h67
   refine h_b (C := Cls [.row p14 rv13.1.length k15 c17 66 9, .box b11 [.string (⟨#[65]⟩ : ByteArray), .string (⟨#[66]⟩ : ByteArray), .string ByteArray.empty, .string (⟨#[72, 72, 90]⟩ : ByteArray)] 41, .box b1 [.int .i64 1, .int .i64 4, .int .i64 200, .int .i64 100, .int .i64 2, .int .i64 100, .int .i64 0] 26] []) (by kernel_rfl) rfl (hw.drew.cs [0, 1, 2] [] rfl rfl) fun hC => ?_
   have hw := hw.drew
   refine gm hs 0 rfl rfl rfl hC fun a hs => ?_
   refine gv hs 1 rfl rfl hC (fun w hC => y_eql rfl rfl) fun a hs => ?_
   refine gm hs 2 rfl rfl rfl hC fun a hs => ?_
   have hs := hs.fix 30 (.bool true) rfl (vb h39)
   refine gt hs 3 rfl ⟨_, rfl, rfl⟩ rfl hC (fun w hC => y_move rfl) fun a hs => ?_
   refine gt hs 4 rfl ⟨_, rfl, rfl⟩ rfl hC (fun w hC => y_eql rfl rfl) fun a hs => ?_
   refine gv hs 5 rfl rfl hC (fun w hC => y_pickTE (v := .bool ((rv5.2 == 0) && (rv5.1 == 4))) rfl rfl (and_t h39)) fun a hs => ?_
   refine gm hs 6 rfl rfl rfl hC fun a hs => ?_
   have hs := hs.fix 34 (.bool false) rfl (vb h41)
   refine gs hs 7 rfl rfl rfl rfl hC fun a hs => ?_
   refine gs hs 8 rfl rfl rfl rfl hC fun a hs => ?_
   refine gv hs 9 rfl rfl hC (fun w hC => y_pickFE (v := .bool (((rv5.2 == 0) && (rv5.1 == 4)) && (rv13.2 == 0))) rfl rfl (and_f h41)) fun a hs => ?_
   refine gm hs 10 rfl rfl rfl hC fun a hs => ?_
   have hs := hs.fix 38 (.bool false) rfl (vb h65)
   refine gs hs 11 rfl rfl rfl rfl hC fun a hs => ?_
   refine gs hs 12 rfl rfl rfl rfl hC fun a hs => ?_
   refine gs hs 13 rfl rfl rfl rfl hC fun a hs => ?_
   refine gv hs 14 rfl rfl hC (fun w hC => y_pickFE (v := .bool ((((rv5.2 == 0) && (rv5.1 == 4)) && (rv13.2 == 0)) && ((rv13.1.length : Int) == 1))) rfl rfl (and_f h65)) fun a hs => ?_
   refine gm hs 15 rfl rfl rfl hC fun a hs => ?_
   have hs := hs.fix 43 (.bool false) rfl (vb h67)
   refine gs hs 16 rfl rfl rfl rfl hC fun a hs => ?_
   refine gs hs 17 rfl rfl rfl rfl hC fun a hs => ?_
   refine gs hs 18 rfl rfl rfl rfl hC fun a hs => ?_
   refine gs hs 19 rfl rfl rfl rfl hC fun a hs => ?_
   refine gs hs 20 rfl rfl rfl rfl hC fun a hs => ?_
   refine gs hs 21 rfl rfl rfl rfl hC fun a hs => ?_
   refine gv hs 22 rfl rfl hC (fun w hC => y_pickFE (v := .bool c37) rfl rfl (vbs h68)) fun a hs => ?_
   refine gv hs 23 rfl rfl hC (fun w hC => y_assign rfl) fun a hs => ?_
   refine h_done (by kernel_rfl) ?_
   exact ⟨Sv19, (hs.wk rfl), (hw.ft [] [] (by decide) rfl rfl)⟩
  have h70 : ((rv5.2 == 0) && (rv5.1 == 4)) = false := by rw [h39]; rfl
  have h72 : (((rv5.2 == 0) && (rv5.1 == 4)) && (rv13.2 == 0)) = false := by rw [h70]; rfl
  have h74 : ((((rv5.2 == 0) && (rv5.1 == 4)) && (rv13.2 == 0)) && ((rv13.1.length : Int) == 1)) = false := by rw [h72]; rfl
  have h75 := ite_f hc37 h74
  refine h_b (C := Cls [.row p14 rv13.1.length k15 c17 66 9, .box b11 [.string (⟨#[65]⟩ : ByteArray), .string (⟨#[66]⟩ : ByteArray), .string ByteArray.empty, .string (⟨#[72, 72, 90]⟩ : ByteArray)] 41, .box b1 [.int .i64 1, .int .i64 4, .int .i64 200, .int .i64 100, .int .i64 2, .int .i64 100, .int .i64 0] 26] []) (by kernel_rfl) rfl (hw.drew.cs [0, 1, 2] [] rfl rfl) fun hC => ?_
  have hw := hw.drew
  refine gm hs 0 rfl rfl rfl hC fun a hs => ?_
  refine gv hs 1 rfl rfl hC (fun w hC => y_eql rfl rfl) fun a hs => ?_
  refine gm hs 2 rfl rfl rfl hC fun a hs => ?_
  have hs := hs.fix 30 (.bool false) rfl (vb h39)
  refine gs hs 3 rfl rfl rfl rfl hC fun a hs => ?_
  refine gs hs 4 rfl rfl rfl rfl hC fun a hs => ?_
  refine gv hs 5 rfl rfl hC (fun w hC => y_pickFE (v := .bool ((rv5.2 == 0) && (rv5.1 == 4))) rfl rfl (and_f h39)) fun a hs => ?_
  refine gm hs 6 rfl rfl rfl hC fun a hs => ?_
  have hs := hs.fix 34 (.bool false) rfl (vb h70)
  refine gs hs 7 rfl rfl rfl rfl hC fun a hs => ?_
  refine gs hs 8 rfl rfl rfl rfl hC fun a hs => ?_
  refine gv hs 9 rfl rfl hC (fun w hC => y_pickFE (v := .bool (((rv5.2 == 0) && (rv5.1 == 4)) && (rv13.2 == 0))) rfl rfl (and_f h70)) fun a hs => ?_
  refine gm hs 10 rfl rfl rfl hC fun a hs => ?_
  have hs := hs.fix 38 (.bool false) rfl (vb h72)
  refine gs hs 11 rfl rfl rfl rfl hC fun a hs => ?_
  refine gs hs 12 rfl rfl rfl rfl hC fun a hs => ?_
  refine gs hs 13 rfl rfl rfl rfl hC fun a hs => ?_
  refine gv hs 14 rfl rfl hC (fun w hC => y_pickFE (v := .bool ((((rv5.2 == 0) && (rv5.1 == 4)) && (rv13.2 == 0)) && ((rv13.1.length : Int) == 1))) rfl rfl (and_f h72)) fun a hs => ?_
  refine gm hs 15 rfl rfl rfl hC fun a hs => ?_
  have hs := hs.fix 43 (.bool false) rfl (vb h74)
  refine gs hs 16 rfl rfl rfl rfl hC fun a hs => ?_
  refine gs hs 17 rfl rfl rfl rfl hC fun a hs => ?_
  refine gs hs 18 rfl rfl rfl rfl hC fun a hs => ?_
  refine gs hs 19 rfl rfl rfl rfl hC fun a hs => ?_
  refine gs hs 20 rfl rfl rfl rfl hC fun a hs => ?_
  refine gs hs 21 rfl rfl rfl rfl hC fun a hs => ?_
  refine gv hs 22 rfl rfl hC (fun w hC => y_pickFE (v := .bool c37) rfl rfl (vbs h75)) fun a hs => ?_
  refine gv hs 23 rfl rfl hC (fun w hC => y_assign rfl) fun a hs => ?_
  refine h_done (by kernel_rfl) ?_
  exact ⟨Sv19, (hs.wk rfl), (hw.ft [] [] (by decide) rfl rfl)⟩
 rintro a w ⟨Sv38, hs, hw⟩
 refine then_normal ?_
 have hsh := oi hsh
 subst hsh
 refine wp_ret ?_
 exact ret1 hs rfl (rv_tmp rfl) (hw.ret rfl)
abbrev made_Roll_rd (w0 : World) (X : List Nat) (r : Dice) : (Nat → Prop) → World → Value → Prop := fun S w v => ∃ (b_0 : Nat) (p0_0 : Option Addr) (k0_0 : Nat), v = .pointer (some ⟨b_0, 0, none⟩) ∧ Outs X w0 S w [.box b_0 [.slice p0_0 r.L.length k0_0, .int .i64 r.At] 70] ∧ (SlA p0_0 r.L.length k0_0 r.L).p S w
set_option maxHeartbeats 4000000 in
set_option maxRecDepth 100000 in
theorem made_Roll_ok {w0 : World} {S0 : Nat → Prop} {p2 : Option Addr} {k3 : Nat} {l1 : (List Int)} {r : Dice} (hsh : made_Roll l1 = some r) (hS : ∀ b, S0 b → b < w0.heap.size) (h4 : (SlA p2 l1.length k3 l1).p S0 w0) : Calls Tryz.prog 6 #[.slice p2 l1.length k3] w0 (Ret ([]) w0 S0 (made_Roll_rd w0 ([]) r)) := by
 refine calls_of_wp Tryz.func6 rfl ?_
 have hs := Sl.enter #[.slice p2 l1.length k3] 6 [(0, .slice p2 l1.length k3)] rfl ⟨rfl, trivial⟩
 have hw := Wd.enter (E := []) hS (fun _ h => (by cases h))
 have hw := hw.addE h4
 delta made_Roll at hsh
 refine sr ?_
 refine av hs rfl rfl fun a hs => ?_
 refine nl ?_
 refine sr ?_
 refine mv hs rfl rfl fun a hs => ?_
 refine sv hs (y_build (vs := [(0, .slice p2 l1.length k3)]) Bld70 rfl rfl) rfl fun a hs => ?_
 refine w_box (cs := [.slice p2 l1.length k3, .int .i64 0]) hs hw rfl rfl rfl trivial ?_
 intro b5 a w hs hw
 refine av hs rfl rfl fun a hs => ?_
 refine nl ?_
 have hsh := oi hsh
 subst hsh
 refine wp_ret ?_
 exact ret1 hs rfl (rv_tmp rfl) (hw.ret ⟨b5, p2, k3, rfl, (hw.outs [0] (by decide) rfl), (hw.envAt 0 rfl)⟩)
abbrev made_Dice_Next_rd (w0 : World) (X : List Nat) (b2 : Nat) (r : (Int × Dice)) : (Nat → Prop) → World → Value → Prop := fun S w v => ∃ (pq0_0 : Option Addr) (kq0_0 : Nat), v = .int .i64 r.1 ∧ Outs X w0 S w [.box b2 [.slice pq0_0 r.2.L.length kq0_0, .int .i64 r.2.At] 70] ∧ (SlA pq0_0 r.2.L.length kq0_0 r.2.L).p S w
set_option maxHeartbeats 4000000 in
set_option maxRecDepth 100000 in
theorem made_Dice_Next_ok {w0 : World} {S0 : Nat → Prop} {b2 : Nat} {p3 : Option Addr} {k4 : Nat} {d1 : Dice} {n6 : Int} {r : (Int × Dice)} (hsh : made_Dice_Next d1 n6 = some r) (hS : ∀ b, S0 b → b < w0.heap.size) (hin : Ins S0 w0 [.box b2 [.slice p3 d1.L.length k4, .int .i64 d1.At] 70]) (h5 : (SlA p3 d1.L.length k4 d1.L).p S0 w0) : Calls Tryz.prog 9 #[.pointer (some ⟨b2, 0, none⟩), .int .i64 n6] w0 (Ret (blks [.box b2 [.slice p3 d1.L.length k4, .int .i64 d1.At] 70]) w0 S0 (made_Dice_Next_rd w0 (blks [.box b2 [.slice p3 d1.L.length k4, .int .i64 d1.At] 70]) b2 r)) := by
 refine calls_of_wp Tryz.func9 rfl ?_
 have hs := Sl.enter #[.pointer (some ⟨b2, 0, none⟩), .int .i64 n6] 45 [(0, .pointer (some ⟨b2, 0, none⟩)), (1, .int .i64 n6)] rfl ⟨rfl, rfl, trivial⟩
 have hw := Wd.enterI hS hin
 have hw := hw.addE h5
 delta made_Dice_Next at hsh
 refine sr ?_
 refine av hs rfl rfl fun a hs => ?_
 refine nl ?_
 refine wp_seq ?_
 refine wp_seq ?_
 refine wp_only (fun a w => ∃ (Sv7 : Nat → Prop), Sl 45 [(0, .pointer (some ⟨b2, 0, none⟩)), (1, .int .i64 n6), (19, .bool ((decide ((d1.L.length : Int) ≤ d1.At)) || (decide (n6 < 1))))] a ∧ Wd ⟨w0, S0, blks [.box b2 [.slice p3 d1.L.length k4, .int .i64 d1.At] 70]⟩ Sv7 [.box b2 [.slice p3 d1.L.length k4, .int .i64 d1.At] 70] [SlA p3 d1.L.length k4 d1.L] w) ?_ ?_
 ·rcases Bool.eq_false_or_eq_true (decide ((d1.L.length : Int) ≤ d1.At)) with h8 | h8
  ·refine h_b (C := Cls [.box b2 [.slice p3 d1.L.length k4, .int .i64 d1.At] 70] []) (by kernel_rfl) rfl (hw.drew.cs [0] [] rfl rfl) fun hC => ?_
   have hw := hw.drew
   refine gm hs 0 rfl rfl rfl hC fun a hs => ?_
   refine gv hs 1 rfl rfl hC (fun w hC => y_nilCheck rfl) fun a hs => ?_
   refine gv hs 2 rfl rfl hC (fun w hC => y_fieldAddr (o' := 1) Tryz.runUnderlying70 rfl Tryz.sizeOf3 rfl rfl rfl) fun a hs => ?_
   refine gv hs 3 rfl rfl hC (fun w hC => y_loadB1 (hC.ownAt 0 rfl) rfl Tryz.isAgg3 rfl) fun a hs => ?_
   refine gm hs 4 rfl rfl rfl hC fun a hs => ?_
   refine gv hs 5 rfl rfl hC (fun w hC => y_nilCheck rfl) fun a hs => ?_
   refine gv hs 6 rfl rfl hC (fun w hC => y_fieldAddr (o' := 0) Tryz.runUnderlying70 rfl Tryz.sizeOf22 rfl rfl rfl) fun a hs => ?_
   refine gv hs 7 rfl rfl hC (fun w hC => y_loadB1 (hC.ownAt 0 rfl) rfl Tryz.isAgg22 rfl) fun a hs => ?_
   refine gv hs 8 rfl rfl hC (fun w hC => y_len Tryz.runUnderlying22 rfl) fun a hs => ?_
   refine gv hs 9 rfl rfl hC (fun w hC => y_geq rfl rfl) fun a hs => ?_
   refine gm hs 10 rfl rfl rfl hC fun a hs => ?_
   have hs := hs.fix 16 (.bool true) rfl (vb h8)
   refine gs hs 11 rfl rfl rfl rfl hC fun a hs => ?_
   refine gs hs 12 rfl rfl rfl rfl hC fun a hs => ?_
   refine gv hs 13 rfl rfl hC (fun w hC => y_pickTE (v := .bool ((decide ((d1.L.length : Int) ≤ d1.At)) || (decide (n6 < 1)))) rfl rfl (or_t h8)) fun a hs => ?_
   refine h_done (by kernel_rfl) ?_
   exact ⟨S0, (hs.wk rfl), (hw.ft [0] [0] (by decide) rfl rfl)⟩
  refine h_b (C := Cls [.box b2 [.slice p3 d1.L.length k4, .int .i64 d1.At] 70] []) (by kernel_rfl) rfl (hw.drew.cs [0] [] rfl rfl) fun hC => ?_
  have hw := hw.drew
  refine gm hs 0 rfl rfl rfl hC fun a hs => ?_
  refine gv hs 1 rfl rfl hC (fun w hC => y_nilCheck rfl) fun a hs => ?_
  refine gv hs 2 rfl rfl hC (fun w hC => y_fieldAddr (o' := 1) Tryz.runUnderlying70 rfl Tryz.sizeOf3 rfl rfl rfl) fun a hs => ?_
  refine gv hs 3 rfl rfl hC (fun w hC => y_loadB1 (hC.ownAt 0 rfl) rfl Tryz.isAgg3 rfl) fun a hs => ?_
  refine gm hs 4 rfl rfl rfl hC fun a hs => ?_
  refine gv hs 5 rfl rfl hC (fun w hC => y_nilCheck rfl) fun a hs => ?_
  refine gv hs 6 rfl rfl hC (fun w hC => y_fieldAddr (o' := 0) Tryz.runUnderlying70 rfl Tryz.sizeOf22 rfl rfl rfl) fun a hs => ?_
  refine gv hs 7 rfl rfl hC (fun w hC => y_loadB1 (hC.ownAt 0 rfl) rfl Tryz.isAgg22 rfl) fun a hs => ?_
  refine gv hs 8 rfl rfl hC (fun w hC => y_len Tryz.runUnderlying22 rfl) fun a hs => ?_
  refine gv hs 9 rfl rfl hC (fun w hC => y_geq rfl rfl) fun a hs => ?_
  refine gm hs 10 rfl rfl rfl hC fun a hs => ?_
  have hs := hs.fix 16 (.bool false) rfl (vb h8)
  refine gt hs 11 rfl ⟨_, rfl, rfl⟩ rfl hC (fun w hC => y_move rfl) fun a hs => ?_
  refine gt hs 12 rfl ⟨_, rfl, rfl⟩ rfl hC (fun w hC => y_lss rfl rfl) fun a hs => ?_
  refine gv hs 13 rfl rfl hC (fun w hC => y_pickFE (v := .bool ((decide ((d1.L.length : Int) ≤ d1.At)) || (decide (n6 < 1)))) rfl rfl (or_f h8)) fun a hs => ?_
  refine h_done (by kernel_rfl) ?_
  exact ⟨S0, (hs.wk rfl), (hw.ft [0] [0] (by decide) rfl rfl)⟩
 rintro a w ⟨Sv7, hs, hw⟩
 refine then_normal ?_
 refine wp_cond_split (hs.ev rfl) (fun h12 => ?_) (fun h12 => ?_)
 ·have hsh := ite_t hsh h12
  refine sr ?_
  refine av hs rfl rfl fun a hs => ?_
  refine nl ?_
  have hsh := oi hsh
  subst hsh
  refine wp_ret ?_
  refine then_ret ?_
  exact ret1 hs rfl (rv_tmp rfl) (hw.ret ⟨p3, k4, rfl, (hw.outs [0] (by decide) rfl), (hw.envAt 0 rfl)⟩)
 have hsh := ite_f hsh h12
 refine wp_skip ?_
 refine then_normal ?_
 refine wp_seq ?_
 obtain ⟨x15, h13, hsh⟩ := bind_t hsh
 obtain ⟨b21, o22, q19, c20, h23, h16, h17, h18, h14⟩ := hw.elemV 0 rfl h13
 have hsv24 := hs
 have hwv25 := hw
 subst h23
 have hs := hsv24
 have hw := hwv25
 obtain ⟨_, rfl, rfl⟩ := h14
 have hw := hw.addE h18
 obtain ⟨rem27, h26, hsh⟩ := bind_t hsh
 refine wp_only (fun a w => ∃ (Sv28 : Nat → Prop), Sl 45 [(0, .pointer (some ⟨b2, 0, none⟩)), (1, .int .i64 n6), (5, .int .i64 rem27)] a ∧ Wd ⟨w0, S0, blks [.box b2 [.slice (some ⟨b21, o22, none⟩) d1.L.length k4, .int .i64 d1.At] 70]⟩ Sv28 [.box b2 [.slice (some ⟨b21, o22, none⟩) d1.L.length k4, .int .i64 d1.At] 70] [SlA (some ⟨b21, o22, none⟩) d1.L.length k4 d1.L] w) ?_ ?_
 ·refine h_b (C := Cls [.box b2 [.slice (some ⟨b21, o22, none⟩) d1.L.length k4, .int .i64 d1.At] 70] [CeA b21 q19 [.int .i64 x15]]) (by kernel_rfl) rfl (hw.drew.cs [0] [0] rfl rfl) fun hC => ?_
  have hw := hw.drew
  refine gm hs 0 rfl rfl rfl hC fun a hs => ?_
  refine gv hs 1 rfl rfl hC (fun w hC => y_nilCheck rfl) fun a hs => ?_
  refine gv hs 2 rfl rfl hC (fun w hC => y_fieldAddr (o' := 0) Tryz.runUnderlying70 rfl Tryz.sizeOf22 rfl rfl rfl) fun a hs => ?_
  refine gv hs 3 rfl rfl hC (fun w hC => y_loadB1 (hC.ownAt 0 rfl) rfl Tryz.isAgg22 rfl) fun a hs => ?_
  refine gm hs 4 rfl rfl rfl hC fun a hs => ?_
  refine gv hs 5 rfl rfl hC (fun w hC => y_nilCheck rfl) fun a hs => ?_
  refine gv hs 6 rfl rfl hC (fun w hC => y_fieldAddr (o' := 1) Tryz.runUnderlying70 rfl Tryz.sizeOf3 rfl rfl rfl) fun a hs => ?_
  refine gv hs 7 rfl rfl hC (fun w hC => y_loadB1 (hC.ownAt 0 rfl) rfl Tryz.isAgg3 rfl) fun a hs => ?_
  refine gv hs 8 rfl rfl hC (fun w hC => y_indexAt Tryz.runUnderlying22 Tryz.sizeOf3 rfl rfl h16.1 h16.2 h17) fun a hs => ?_
  refine gv hs 9 rfl rfl hC (fun w hC => y_loadE1 (j := 0) (hC.ceAt 0 rfl) rfl Tryz.isAgg3 rfl) fun a hs => ?_
  refine gm hs 10 rfl rfl rfl hC fun a hs => ?_
  refine gv hs 11 rfl rfl hC (fun w hC => y_remM rfl rfl h26) fun a hs => ?_
  refine gv hs 12 rfl rfl hC (fun w hC => y_assign rfl) fun a hs => ?_
  refine h_done (by kernel_rfl) ?_
  exact ⟨Sv7, (hs.wk rfl), (hw.ft [0] [1] (by decide) rfl rfl)⟩
 rintro a w ⟨Sv28, hs, hw⟩
 refine then_normal ?_
 refine sr ?_
 refine mv hs rfl rfl fun a hs => ?_
 refine sv hs (y_nilCheck rfl) rfl fun a hs => ?_
 refine sv hs (y_fieldAddr (o' := 1) Tryz.runUnderlying70 rfl Tryz.sizeOf3 rfl rfl rfl) rfl fun a hs => ?_
 refine sv hs (y_loadB1 (hw.ownAt 0 rfl) rfl Tryz.isAgg3 rfl) rfl fun a hs => ?_
 refine sv hs (y_add rfl rfl) rfl fun a hs => ?_
 refine sv hs (y_nilCheck rfl) rfl fun a hs => ?_
 refine sv hs (y_fieldAddr (o' := 1) Tryz.runUnderlying70 rfl Tryz.sizeOf3 rfl rfl rfl) rfl fun a hs => ?_
 refine w_store (m := 1) (cs' := [.slice (some ⟨b21, o22, none⟩) d1.L.length k4, .int .i64 (w64 (d1.At + 1))]) hs hw 0 rfl rfl rfl Tryz.sizeOf3 rfl rfl rfl rfl trivial ?_
 intro a w hs hw
 refine nl ?_
 refine wp_seq ?_
 refine sr ?_
 refine mv hs rfl rfl fun a hs => ?_
 refine sv hs (y_lss rfl rfl) rfl fun a hs => ?_
 refine nl ?_
 refine wp_join (fun a w => ∃ (x33 : Int) (Sv32 : Nat → Prop), made_Dice_Next_j1 d1 x33 = some r ∧ Sl 45 [(5, .int .i64 x33)] a ∧ Wd ⟨w0, S0, blks [.box b2 [.slice (some ⟨b21, o22, none⟩) d1.L.length k4, .int .i64 d1.At] 70]⟩ Sv32 [.box b2 [.slice (some ⟨b21, o22, none⟩) d1.L.length k4, .int .i64 (w64 (d1.At + 1))] 70] [SlA (some ⟨b21, o22, none⟩) d1.L.length k4 d1.L] w) ?_ ?_
 ·refine wp_cond_split (hs.ev rfl) (fun h34 => ?_) (fun h34 => ?_)
  ·have hsh := ite_t hsh h34
   refine wp_region_lit ?_
   refine mv hs rfl rfl fun a hs => ?_
   refine mv hs rfl rfl fun a hs => ?_
   refine sv hs (y_add rfl rfl) rfl fun a hs => ?_
   obtain ⟨x36, h35, hsh⟩ := bind_t hsh
   refine sv hs (y_assignI rfl h35) rfl fun a hs => ?_
   refine nl ?_
   exact ⟨x36, Sv28, hsh, (hs.wk rfl), (hw.ft [0] [0] (by decide) rfl rfl)⟩
  have hsh := ite_f hsh h34
  refine wp_skip ?_
  refine then_normal ?_
  exact ⟨rem27, Sv28, hsh, (hs.wk rfl), (hw.ft [0] [0] (by decide) rfl rfl)⟩
 rintro a w ⟨x33, Sv32, hsh, hs, hw⟩
 delta made_Dice_Next_j1 at hsh
 refine then_normal ?_
 refine sr ?_
 refine mv hs rfl rfl fun a hs => ?_
 refine av hs rfl rfl fun a hs => ?_
 refine nl ?_
 have hsh := oi hsh
 subst hsh
 refine wp_ret ?_
 exact ret1 hs rfl (rv_tmp rfl) (hw.ret ⟨(some ⟨b21, o22, none⟩), k4, rfl, (hw.outs [0] (by decide) rfl), (hw.envAt 0 rfl)⟩)
abbrev made_Dice_Pick_rd (w0 : World) (X : List Nat) (b2 : Nat) (r : (Int × Dice)) : (Nat → Prop) → World → Value → Prop := fun S w v => ∃ (pq0_0 : Option Addr) (kq0_0 : Nat), v = .int .i64 r.1 ∧ Outs X w0 S w [.box b2 [.slice pq0_0 r.2.L.length kq0_0, .int .i64 r.2.At] 70] ∧ (SlA pq0_0 r.2.L.length kq0_0 r.2.L).p S w
set_option maxHeartbeats 4000000 in
set_option maxRecDepth 100000 in
theorem made_Dice_Pick_ok {w0 : World} {S0 : Nat → Prop} {b2 : Nat} {p3 : Option Addr} {k4 : Nat} {p7 : Option Addr} {k8 : Nat} {d1 : Dice} {l6 : (List Int)} {r : (Int × Dice)} (hsh : made_Dice_Pick d1 l6 = some r) (hS : ∀ b, S0 b → b < w0.heap.size) (hin : Ins S0 w0 [.box b2 [.slice p3 d1.L.length k4, .int .i64 d1.At] 70]) (h5 : (SlA p3 d1.L.length k4 d1.L).p S0 w0) (h9 : (SlA p7 l6.length k8 l6).p S0 w0) : Calls Tryz.prog 10 #[.pointer (some ⟨b2, 0, none⟩), .slice p7 l6.length k8] w0 (Ret (blks [.box b2 [.slice p3 d1.L.length k4, .int .i64 d1.At] 70]) w0 S0 (made_Dice_Pick_rd w0 (blks [.box b2 [.slice p3 d1.L.length k4, .int .i64 d1.At] 70]) b2 r)) := by
 refine calls_of_wp Tryz.func10 rfl ?_
 have hs := Sl.enter #[.pointer (some ⟨b2, 0, none⟩), .slice p7 l6.length k8] 12 [(0, .pointer (some ⟨b2, 0, none⟩)), (1, .slice p7 l6.length k8)] rfl ⟨rfl, rfl, trivial⟩
 have hw := Wd.enterI hS hin
 have hw := hw.addE h5
 have hw := hw.addE h9
 delta made_Dice_Pick at hsh
 refine sr ?_
 refine av hs rfl rfl fun a hs => ?_
 refine nl ?_
 refine sr ?_
 refine mv hs rfl rfl fun a hs => ?_
 refine mv hs rfl rfl fun a hs => ?_
 refine mv hs rfl rfl fun a hs => ?_
 refine sv hs (y_len Tryz.runUnderlying22 rfl) rfl fun a hs => ?_
 obtain ⟨rv11, h10, hsh⟩ := bind_t hsh
 refine st_callR hs (made_Dice_Next_ok h10 hw.dom (hw.ins [0] (by decide) rfl) (hw.envAt 1 rfl)) (do_call Tryz.call9 rfl) trivial rfl rfl ?_
 intro v18 Sv15 w a h16 h17 hs
 obtain ⟨p12, k13, rfl, h19, h14⟩ := h17
 have hw := hw.callO [0] [] (by decide) rfl h16 h19
 have hw := hw.addE (e := SlA p12 rv11.2.L.length k13 rv11.2.L) h14
 obtain ⟨x22, h20, hsh⟩ := bind_t hsh
 obtain ⟨b28, o29, q26, c27, h30, h23, h24, h25, h21⟩ := hw.elemV 1 rfl h20
 have hsv31 := hs
 have hwv32 := hw
 subst h30
 have hs := hsv31
 have hw := hwv32
 obtain ⟨_, rfl, rfl⟩ := h21
 have hw := hw.addE h25
 refine sv hs (y_indexAt Tryz.runUnderlying22 Tryz.sizeOf3 rfl rfl h23.1 h23.2 h24) rfl fun a hs => ?_
 refine sv hs (y_loadE1 (j := 0) (hw.ceAt 0 rfl) rfl Tryz.isAgg3 rfl) rfl fun a hs => ?_
 refine av hs rfl rfl fun a hs => ?_
 refine nl ?_
 have hsh := oi hsh
 subst hsh
 refine wp_ret ?_
 exact ret1 hs rfl (rv_tmp rfl) (hw.ret ⟨p12, k13, rfl, (hw.outs [0] (by decide) rfl), (hw.envAt 1 rfl)⟩)
abbrev made_Dice_Detector_rd (w0 : World) (X : List Nat) (b2 : Nat) (r : (Detector × Dice)) : (Nat → Prop) → World → Value → Prop := fun S w v => ∃ (pq0_0 : Option Addr) (kq0_0 : Nat), v = .agg #[.int .i64 r.1.Short, .int .i64 r.1.Long, .int .i64 r.1.On, .int .i64 r.1.Off] ∧ Outs X w0 S w [.box b2 [.slice pq0_0 r.2.L.length kq0_0, .int .i64 r.2.At] 70] ∧ (SlA pq0_0 r.2.L.length kq0_0 r.2.L).p S w
set_option maxHeartbeats 4000000 in
set_option maxRecDepth 100000 in
theorem made_Dice_Detector_ok {w0 : World} {S0 : Nat → Prop} {b2 : Nat} {p3 : Option Addr} {k4 : Nat} {d1 : Dice} {r : (Detector × Dice)} (hsh : made_Dice_Detector d1 = some r) (hS : ∀ b, S0 b → b < w0.heap.size) (hin : Ins S0 w0 [.box b2 [.slice p3 d1.L.length k4, .int .i64 d1.At] 70]) (h5 : (SlA p3 d1.L.length k4 d1.L).p S0 w0) : Calls Tryz.prog 29 #[.pointer (some ⟨b2, 0, none⟩)] w0 (Ret (blks [.box b2 [.slice p3 d1.L.length k4, .int .i64 d1.At] 70]) w0 S0 (made_Dice_Detector_rd w0 (blks [.box b2 [.slice p3 d1.L.length k4, .int .i64 d1.At] 70]) b2 r)) := by
 refine calls_of_wp Tryz.func29 rfl ?_
 have hs := Sl.enter #[.pointer (some ⟨b2, 0, none⟩)] 24 [(0, .pointer (some ⟨b2, 0, none⟩))] rfl ⟨rfl, trivial⟩
 have hw := Wd.enterI hS hin
 have hw := hw.addE h5
 delta made_Dice_Detector at hsh
 refine sr ?_
 refine w_alloc (cs := [.int .i64 0, .int .i64 0, .int .i64 0, .int .i64 0]) hs hw Tryz.zeroValue24 rfl rfl trivial ?_
 intro b6 a w hs hw
 refine nl ?_
 refine sr ?_
 refine mv hs rfl rfl fun a hs => ?_
 obtain ⟨rv8, h7, hsh⟩ := bind_t hsh
 refine st_callR hs (made_Dice_Next_ok h7 hw.dom (hw.ins [1] (by decide) rfl) (hw.envAt 0 rfl)) (do_call Tryz.call9 rfl) trivial rfl rfl ?_
 intro v15 Sv12 w a h13 h14 hs
 obtain ⟨p9, k10, rfl, h16, h11⟩ := h14
 have hw := hw.callO [1] [0] (by decide) rfl h13 h16
 have hw := hw.addE (e := SlA p9 rv8.2.L.length k10 rv8.2.L) h11
 refine sv hs (y_add rfl rfl) rfl fun a hs => ?_
 obtain ⟨short18, h17, hsh⟩ := bind_t hsh
 refine sv hs (y_assignI rfl h17) rfl fun a hs => ?_
 refine nl ?_
 refine sr ?_
 refine mv hs rfl rfl fun a hs => ?_
 refine w_litSlice (α := Int) (vs := [.int .i64 50, .int .i64 100, .int .i64 120]) (cs := [.int .i64 50, .int .i64 100, .int .i64 120]) (xs := ([50, 100, 120] : List Int)) hs hw El22 rfl rfl rfl rfl rfl rfl ⟨⟨_, rfl, rfl⟩, ⟨⟨_, rfl, rfl⟩, ⟨⟨_, rfl, rfl⟩, rfl⟩⟩⟩ rfl trivial rfl fun b20 a w hs hw => ?_
 obtain ⟨rv22, h21, hsh⟩ := bind_t hsh
 obtain ⟨Sv26, hw⟩ := w_share (α := Int) hw 0 rfl 0 rfl
 refine st_callR hs (made_Dice_Pick_ok h21 hw.dom (hw.ins [0] (by decide) rfl) (hw.envAt 2 rfl) (hw.envAt 0 rfl)) (do_call Tryz.call10 rfl) trivial rfl rfl ?_
 intro v30 Sv27 w a h28 h29 hs
 obtain ⟨p23, k24, rfl, h31, h25⟩ := h29
 have hw := hw.callO [0] [1] (by decide) rfl h28 h31
 have hw := hw.addE (e := SlA p23 rv22.2.L.length k24 rv22.2.L) h25
 refine av hs rfl rfl fun a hs => ?_
 refine nl ?_
 refine sr ?_
 refine mv hs rfl rfl fun a hs => ?_
 refine mv hs rfl rfl fun a hs => ?_
 refine sv hs (y_add rfl rfl) rfl fun a hs => ?_
 refine mv hs rfl rfl fun a hs => ?_
 obtain ⟨rv33, h32, hsh⟩ := bind_t hsh
 refine st_callR hs (made_Dice_Next_ok h32 hw.dom (hw.ins [0] (by decide) rfl) (hw.envAt 0 rfl)) (do_call Tryz.call9 rfl) trivial rfl rfl ?_
 intro v40 Sv37 w a h38 h39 hs
 obtain ⟨p34, k35, rfl, h41, h36⟩ := h39
 have hw := hw.callO [0] [1] (by decide) rfl h38 h41
 have hw := hw.addE (e := SlA p34 rv33.2.L.length k35 rv33.2.L) h36
 refine sv hs (y_add rfl rfl) rfl fun a hs => ?_
 refine mv hs rfl rfl fun a hs => ?_
 refine mv hs rfl rfl fun a hs => ?_
 refine w_litSlice (α := Int) (vs := [.int .i64 0, .int .i64 50, .int .i64 100]) (cs := [.int .i64 0, .int .i64 50, .int .i64 100]) (xs := ([0, 50, 100] : List Int)) hs hw El22 rfl rfl rfl rfl rfl rfl ⟨⟨_, rfl, rfl⟩, ⟨⟨_, rfl, rfl⟩, ⟨⟨_, rfl, rfl⟩, rfl⟩⟩⟩ rfl trivial rfl fun b43 a w hs hw => ?_
 obtain ⟨rv45, h44, hsh⟩ := bind_t hsh
 obtain ⟨Sv49, hw⟩ := w_share (α := Int) hw 0 rfl 0 rfl
 refine st_callR hs (made_Dice_Pick_ok h44 hw.dom (hw.ins [0] (by decide) rfl) (hw.envAt 2 rfl) (hw.envAt 0 rfl)) (do_call Tryz.call10 rfl) trivial rfl rfl ?_
 intro v53 Sv50 w a h51 h52 hs
 obtain ⟨p46, k47, rfl, h54, h48⟩ := h52
 have hw := hw.callO [0] [1] (by decide) rfl h51 h54
 have hw := hw.addE (e := SlA p46 rv45.2.L.length k47 rv45.2.L) h48
 refine sv hs (y_add rfl rfl) rfl fun a hs => ?_
 refine mv hs rfl rfl fun a hs => ?_
 refine sv hs (y_build (vs := [(0, .int .i64 short18), (1, .int .i64 (w64 ((w64 (short18 + 1)) + rv33.1))), (2, .int .i64 (w64 (rv22.1 + rv45.1))), (3, .int .i64 rv22.1)]) Bld24 rfl rfl) rfl fun a hs => ?_
 refine w_store (m := 4) (cs' := [.int .i64 short18, .int .i64 (w64 ((w64 (short18 + 1)) + rv33.1)), .int .i64 (w64 (rv22.1 + rv45.1)), .int .i64 rv22.1]) hs hw 1 rfl rfl rfl Tryz.sizeOf24 rfl rfl rfl rfl trivial ?_
 intro a w hs hw
 refine nl ?_
 have hsh := oi hsh
 subst hsh
 refine wp_ret ?_
 exact ret1 hs rfl (rv_cell hw 1 rfl rfl Tryz.isAgg24 Tryz.sizeOf24 rfl) (hw.ret ⟨p46, k47, rfl, (hw.outs [0] (by decide) rfl), (hw.envAt 0 rfl)⟩)
abbrev made_Dice_Picking_rd (w0 : World) (X : List Nat) (b2 : Nat) (r : (Picking × Dice)) : (Nat → Prop) → World → Value → Prop := fun S w v => ∃ (pq0_0 : Option Addr) (kq0_0 : Nat), v = .agg #[.int .i64 r.1.Detector.Short, .int .i64 r.1.Detector.Long, .int .i64 r.1.Detector.On, .int .i64 r.1.Detector.Off, .int .i64 r.1.Back, .int .i64 r.1.Level, .int .i64 r.1.Floor] ∧ Outs X w0 S w [.box b2 [.slice pq0_0 r.2.L.length kq0_0, .int .i64 r.2.At] 70] ∧ (SlA pq0_0 r.2.L.length kq0_0 r.2.L).p S w
set_option maxHeartbeats 4000000 in
set_option maxRecDepth 100000 in
theorem made_Dice_Picking_ok {w0 : World} {S0 : Nat → Prop} {b2 : Nat} {p3 : Option Addr} {k4 : Nat} {d1 : Dice} {r : (Picking × Dice)} (hsh : made_Dice_Picking d1 = some r) (hS : ∀ b, S0 b → b < w0.heap.size) (hin : Ins S0 w0 [.box b2 [.slice p3 d1.L.length k4, .int .i64 d1.At] 70]) (h5 : (SlA p3 d1.L.length k4 d1.L).p S0 w0) : Calls Tryz.prog 7 #[.pointer (some ⟨b2, 0, none⟩)] w0 (Ret (blks [.box b2 [.slice p3 d1.L.length k4, .int .i64 d1.At] 70]) w0 S0 (made_Dice_Picking_rd w0 (blks [.box b2 [.slice p3 d1.L.length k4, .int .i64 d1.At] 70]) b2 r)) := by
 refine calls_of_wp Tryz.func7 rfl ?_
 have hs := Sl.enter #[.pointer (some ⟨b2, 0, none⟩)] 14 [(0, .pointer (some ⟨b2, 0, none⟩))] rfl ⟨rfl, trivial⟩
 have hw := Wd.enterI hS hin
 have hw := hw.addE h5
 delta made_Dice_Picking at hsh
 refine sr ?_
 refine w_alloc (cs := [.int .i64 0, .int .i64 0, .int .i64 0, .int .i64 0, .int .i64 0, .int .i64 0, .int .i64 0]) hs hw Tryz.zeroValue26 rfl rfl trivial ?_
 intro b6 a w hs hw
 refine nl ?_
 refine sr ?_
 refine mv hs rfl rfl fun a hs => ?_
 obtain ⟨rv8, h7, hsh⟩ := bind_t hsh
 refine st_callR hs (made_Dice_Detector_ok h7 hw.dom (hw.ins [1] (by decide) rfl) (hw.envAt 0 rfl)) (do_call Tryz.call29 rfl) trivial rfl rfl ?_
 intro v15 Sv12 w a h13 h14 hs
 obtain ⟨p9, k10, rfl, h16, h11⟩ := h14
 have hw := hw.callO [1] [0] (by decide) rfl h13 h16
 have hw := hw.addE (e := SlA p9 rv8.2.L.length k10 rv8.2.L) h11
 refine mv hs rfl rfl fun a hs => ?_
 obtain ⟨rv18, h17, hsh⟩ := bind_t hsh
 refine st_callR hs (made_Dice_Next_ok h17 hw.dom (hw.ins [0] (by decide) rfl) (hw.envAt 0 rfl)) (do_call Tryz.call9 rfl) trivial rfl rfl ?_
 intro v25 Sv22 w a h23 h24 hs
 obtain ⟨p19, k20, rfl, h26, h21⟩ := h24
 have hw := hw.callO [0] [1] (by decide) rfl h23 h26
 have hw := hw.addE (e := SlA p19 rv18.2.L.length k20 rv18.2.L) h21
 refine mv hs rfl rfl fun a hs => ?_
 refine w_litSlice (α := Int) (vs := [.int .i64 50, .int .i64 100, .int .i64 200]) (cs := [.int .i64 50, .int .i64 100, .int .i64 200]) (xs := ([50, 100, 200] : List Int)) hs hw El22 rfl rfl rfl rfl rfl rfl ⟨⟨_, rfl, rfl⟩, ⟨⟨_, rfl, rfl⟩, ⟨⟨_, rfl, rfl⟩, rfl⟩⟩⟩ rfl trivial rfl fun b28 a w hs hw => ?_
 obtain ⟨rv30, h29, hsh⟩ := bind_t hsh
 obtain ⟨Sv34, hw⟩ := w_share (α := Int) hw 0 rfl 0 rfl
 refine st_callR hs (made_Dice_Pick_ok h29 hw.dom (hw.ins [0] (by decide) rfl) (hw.envAt 2 rfl) (hw.envAt 0 rfl)) (do_call Tryz.call10 rfl) trivial rfl rfl ?_
 intro v38 Sv35 w a h36 h37 hs
 obtain ⟨p31, k32, rfl, h39, h33⟩ := h37
 have hw := hw.callO [0] [1] (by decide) rfl h36 h39
 have hw := hw.addE (e := SlA p31 rv30.2.L.length k32 rv30.2.L) h33
 refine mv hs rfl rfl fun a hs => ?_
 refine w_litSlice (α := Int) (vs := [.int .i64 0, .int .i64 0, .int .i64 30]) (cs := [.int .i64 0, .int .i64 0, .int .i64 30]) (xs := ([0, 0, 30] : List Int)) hs hw El22 rfl rfl rfl rfl rfl rfl ⟨⟨_, rfl, rfl⟩, ⟨⟨_, rfl, rfl⟩, ⟨⟨_, rfl, rfl⟩, rfl⟩⟩⟩ rfl trivial rfl fun b41 a w hs hw => ?_
 obtain ⟨rv43, h42, hsh⟩ := bind_t hsh
 obtain ⟨Sv47, hw⟩ := w_share (α := Int) hw 0 rfl 0 rfl
 refine st_callR hs (made_Dice_Pick_ok h42 hw.dom (hw.ins [0] (by decide) rfl) (hw.envAt 2 rfl) (hw.envAt 0 rfl)) (do_call Tryz.call10 rfl) trivial rfl rfl ?_
 intro v51 Sv48 w a h49 h50 hs
 obtain ⟨p44, k45, rfl, h52, h46⟩ := h50
 have hw := hw.callO [0] [1] (by decide) rfl h49 h52
 have hw := hw.addE (e := SlA p44 rv43.2.L.length k45 rv43.2.L) h46
 refine sv hs (y_build (vs := [(0, .agg #[.int .i64 rv8.1.Short, .int .i64 rv8.1.Long, .int .i64 rv8.1.On, .int .i64 rv8.1.Off]), (1, .int .i64 rv18.1), (2, .int .i64 rv30.1), (3, .int .i64 rv43.1)]) Bld26 rfl rfl) rfl fun a hs => ?_
 refine w_store (m := 7) (cs' := [.int .i64 rv8.1.Short, .int .i64 rv8.1.Long, .int .i64 rv8.1.On, .int .i64 rv8.1.Off, .int .i64 rv18.1, .int .i64 rv30.1, .int .i64 rv43.1]) hs hw 1 rfl rfl rfl Tryz.sizeOf26 rfl rfl rfl rfl trivial ?_
 intro a w hs hw
 refine nl ?_
 have hsh := oi hsh
 subst hsh
 refine wp_ret ?_
 exact ret1 hs rfl (rv_cell hw 1 rfl rfl Tryz.isAgg26 Tryz.sizeOf26 rfl) (hw.ret ⟨p44, k45, rfl, (hw.outs [0] (by decide) rfl), (hw.envAt 0 rfl)⟩)
abbrev made_Dice_Source_rd (w0 : World) (X : List Nat) (b2 : Nat) (r : (SourceID × Dice)) : (Nat → Prop) → World → Value → Prop := fun S w v => ∃ (pq0_0 : Option Addr) (kq0_0 : Nat), v = .agg #[.string r.1.Network, .string r.1.Station, .string r.1.Location, .string r.1.Channel] ∧ Outs X w0 S w [.box b2 [.slice pq0_0 r.2.L.length kq0_0, .int .i64 r.2.At] 70] ∧ (SlA pq0_0 r.2.L.length kq0_0 r.2.L).p S w
abbrev D8t1 (b2 : Nat) (b6 : Nat) : Slots := [(0, .pointer (some ⟨b2, 0, none⟩)), (2, .pointer (some ⟨b6, 0, none⟩))]
abbrev D8t2 (b2 : Nat) (b24 : Nat) (b40 : Nat) (b56 : Nat) (b8 : Nat) (rv10 : (Int × Dice)) (rv26 : (Int × Dice)) (rv42 : (Int × Dice)) (rv58 : (Int × Dice)) (x16 : ByteArray) (x32 : ByteArray) (x48 : ByteArray) (x64 : ByteArray) : Vs := [(0, 3, .slice (some ⟨b8, 0, none⟩) ([(⟨#[71, 82]⟩ : ByteArray), (⟨#[88]⟩ : ByteArray), (⟨#[55, 65]⟩ : ByteArray)] : List ByteArray).length ([(⟨#[71, 82]⟩ : ByteArray), (⟨#[88]⟩ : ByteArray), (⟨#[55, 65]⟩ : ByteArray)] : List ByteArray).length), (1, 4, .pointer (some ⟨b2, 0, none⟩)), (2, 5, .int .i64 rv10.1), (3, 6, .pointer (some ⟨b8, (0 + (rv10.1).toNat * 1), none⟩)), (4, 7, .string x16), (5, 8, .slice (some ⟨b24, 0, none⟩) ([(⟨#[70, 85, 82]⟩ : ByteArray), (⟨#[65]⟩ : ByteArray), (⟨#[65, 66, 67, 68, 69]⟩ : ByteArray), (⟨#[70, 85]⟩ : ByteArray)] : List ByteArray).length ([(⟨#[70, 85, 82]⟩ : ByteArray), (⟨#[65]⟩ : ByteArray), (⟨#[65, 66, 67, 68, 69]⟩ : ByteArray), (⟨#[70, 85]⟩ : ByteArray)] : List ByteArray).length), (6, 9, .pointer (some ⟨b2, 0, none⟩)), (7, 10, .int .i64 rv26.1), (8, 11, .pointer (some ⟨b24, (0 + (rv26.1).toNat * 1), none⟩)), (9, 12, .string x32), (10, 13, .slice (some ⟨b40, 0, none⟩) ([(⟨#[]⟩ : ByteArray), (⟨#[48, 48]⟩ : ByteArray), (⟨#[49, 48]⟩ : ByteArray)] : List ByteArray).length ([(⟨#[]⟩ : ByteArray), (⟨#[48, 48]⟩ : ByteArray), (⟨#[49, 48]⟩ : ByteArray)] : List ByteArray).length), (11, 14, .pointer (some ⟨b2, 0, none⟩)), (12, 15, .int .i64 rv42.1), (13, 16, .pointer (some ⟨b40, (0 + (rv42.1).toNat * 1), none⟩)), (14, 17, .string x48), (15, 18, .slice (some ⟨b56, 0, none⟩) ([(⟨#[72, 72, 90]⟩ : ByteArray), (⟨#[72, 72, 78]⟩ : ByteArray), (⟨#[66, 72, 90]⟩ : ByteArray)] : List ByteArray).length ([(⟨#[72, 72, 90]⟩ : ByteArray), (⟨#[72, 72, 78]⟩ : ByteArray), (⟨#[66, 72, 90]⟩ : ByteArray)] : List ByteArray).length), (16, 19, .pointer (some ⟨b2, 0, none⟩)), (17, 20, .int .i64 rv58.1), (18, 21, .pointer (some ⟨b56, (0 + (rv58.1).toNat * 1), none⟩)), (19, 22, .string x64), (20, 23, .agg #[.string x16, .string x32, .string x48, .string x64])]
abbrev D8t3 : List Value := [.string (⟨#[71, 82]⟩ : ByteArray), .string (⟨#[88]⟩ : ByteArray), .string (⟨#[55, 65]⟩ : ByteArray)]
abbrev D8t4 : List ByteArray := ([(⟨#[71, 82]⟩ : ByteArray), (⟨#[88]⟩ : ByteArray), (⟨#[55, 65]⟩ : ByteArray)] : List ByteArray)
abbrev D8t5 : List Value := [.string (⟨#[70, 85, 82]⟩ : ByteArray), .string (⟨#[65]⟩ : ByteArray), .string (⟨#[65, 66, 67, 68, 69]⟩ : ByteArray), .string (⟨#[70, 85]⟩ : ByteArray)]
abbrev D8t6 : List ByteArray := ([(⟨#[70, 85, 82]⟩ : ByteArray), (⟨#[65]⟩ : ByteArray), (⟨#[65, 66, 67, 68, 69]⟩ : ByteArray), (⟨#[70, 85]⟩ : ByteArray)] : List ByteArray)
abbrev D8t7 : List Value := [.string (⟨#[]⟩ : ByteArray), .string (⟨#[48, 48]⟩ : ByteArray), .string (⟨#[49, 48]⟩ : ByteArray)]
abbrev D8t8 : List ByteArray := ([(⟨#[]⟩ : ByteArray), (⟨#[48, 48]⟩ : ByteArray), (⟨#[49, 48]⟩ : ByteArray)] : List ByteArray)
abbrev D8t9 : List Value := [.string (⟨#[72, 72, 90]⟩ : ByteArray), .string (⟨#[72, 72, 78]⟩ : ByteArray), .string (⟨#[66, 72, 90]⟩ : ByteArray)]
abbrev D8t10 : List ByteArray := ([(⟨#[72, 72, 90]⟩ : ByteArray), (⟨#[72, 72, 78]⟩ : ByteArray), (⟨#[66, 72, 90]⟩ : ByteArray)] : List ByteArray)
set_option maxHeartbeats 4000000 in
set_option maxRecDepth 100000 in
theorem made_Dice_Source_ok {w0 : World} {S0 : Nat → Prop} {b2 : Nat} {p3 : Option Addr} {k4 : Nat} {d1 : Dice} {r : (SourceID × Dice)} (hsh : made_Dice_Source d1 = some r) (hS : ∀ b, S0 b → b < w0.heap.size) (hin : Ins S0 w0 [.box b2 [.slice p3 d1.L.length k4, .int .i64 d1.At] 70]) (h5 : (SlA p3 d1.L.length k4 d1.L).p S0 w0) : Calls Tryz.prog 8 #[.pointer (some ⟨b2, 0, none⟩)] w0 (Ret (blks [.box b2 [.slice p3 d1.L.length k4, .int .i64 d1.At] 70]) w0 S0 (made_Dice_Source_rd w0 (blks [.box b2 [.slice p3 d1.L.length k4, .int .i64 d1.At] 70]) b2 r)) := by
 refine calls_of_wp Tryz.func8 rfl ?_
 have hs := Sl.enter #[.pointer (some ⟨b2, 0, none⟩)] 24 [(0, .pointer (some ⟨b2, 0, none⟩))] rfl ⟨rfl, trivial⟩
 have hw := Wd.enterI hS hin
 have hw := hw.addE h5
 delta made_Dice_Source at hsh
 refine sr ?_
 refine w_alloc (cs := [.string ByteArray.empty, .string ByteArray.empty, .string ByteArray.empty, .string ByteArray.empty]) hs hw Tryz.zeroValue41 rfl rfl trivial ?_
 intro b6 a w hs hw
 refine nl ?_
 refine wp_seq ?_
 obtain ⟨rv10, h9, hsh⟩ := bind_t hsh
 obtain ⟨x16, h14, hsh⟩ := bind_t hsh
 obtain ⟨rv26, h25, hsh⟩ := bind_t hsh
 obtain ⟨x32, h30, hsh⟩ := bind_t hsh
 obtain ⟨rv42, h41, hsh⟩ := bind_t hsh
 obtain ⟨x48, h46, hsh⟩ := bind_t hsh
 obtain ⟨rv58, h57, hsh⟩ := bind_t hsh
 obtain ⟨x64, h62, hsh⟩ := bind_t hsh
 refine wp_only (fun a w => ∃ (Sv71 : Nat → Prop) (k60 : Nat) (p59 : Option Addr), Sl 24 [(2, .pointer (some ⟨b6, 0, none⟩))] a ∧ Wd ⟨w0, S0, blks [.box b2 [.slice p3 d1.L.length k4, .int .i64 d1.At] 70]⟩ Sv71 [.box b2 [.slice p59 rv58.2.L.length k60, .int .i64 rv58.2.At] 70, .box b6 [.string x16, .string x32, .string x48, .string x64] 41] [SlA p59 rv58.2.L.length k60 rv58.2.L] w) ?_ ?_
 ·refine wp_region_phi (n := 22) (Φ := fun l a w => ∃ (b24 : Nat) (b40 : Nat) (b56 : Nat) (b8 : Nat) (k12 : Nat) (k28 : Nat) (k44 : Nat) (k60 : Nat) (p11 : Option Addr) (p27 : Option Addr) (p43 : Option Addr) (p59 : Option Addr) (S : Nat → Prop), SlF 24 (D8t1 b2 b6) (D8t2 b2 b24 b40 b56 b8 rv10 rv26 rv42 rv58 x16 x32 x48 x64) l a ∧ Wd ⟨w0, S0, blks [.box b2 [.slice p3 d1.L.length k4, .int .i64 d1.At] 70]⟩ S [((bif l 21 then .box b6 [.string x16, .string x32, .string x48, .string x64] 41 else .box b6 [.string ByteArray.empty, .string ByteArray.empty, .string ByteArray.empty, .string ByteArray.empty] 41) : Res), ((bif l 17 then .box b2 [.slice p59 rv58.2.L.length k60, .int .i64 rv58.2.At] 70 else (bif l 12 then .box b2 [.slice p43 rv42.2.L.length k44, .int .i64 rv42.2.At] 70 else (bif l 7 then .box b2 [.slice p27 rv26.2.L.length k28, .int .i64 rv26.2.At] 70 else (bif l 2 then .box b2 [.slice p11 rv10.2.L.length k12, .int .i64 rv10.2.At] 70 else .box b2 [.slice p3 d1.L.length k4, .int .i64 d1.At] 70)))) : Res), ((bif l 0 then .row (some ⟨b8, 0, none⟩) ([(⟨#[71, 82]⟩ : ByteArray), (⟨#[88]⟩ : ByteArray), (⟨#[55, 65]⟩ : ByteArray)] : List ByteArray).length ([(⟨#[71, 82]⟩ : ByteArray), (⟨#[88]⟩ : ByteArray), (⟨#[55, 65]⟩ : ByteArray)] : List ByteArray).length [.string (⟨#[71, 82]⟩ : ByteArray), .string (⟨#[88]⟩ : ByteArray), .string (⟨#[55, 65]⟩ : ByteArray)] 9 1 else emp) : Res), ((bif l 5 then .row (some ⟨b24, 0, none⟩) ([(⟨#[70, 85, 82]⟩ : ByteArray), (⟨#[65]⟩ : ByteArray), (⟨#[65, 66, 67, 68, 69]⟩ : ByteArray), (⟨#[70, 85]⟩ : ByteArray)] : List ByteArray).length ([(⟨#[70, 85, 82]⟩ : ByteArray), (⟨#[65]⟩ : ByteArray), (⟨#[65, 66, 67, 68, 69]⟩ : ByteArray), (⟨#[70, 85]⟩ : ByteArray)] : List ByteArray).length [.string (⟨#[70, 85, 82]⟩ : ByteArray), .string (⟨#[65]⟩ : ByteArray), .string (⟨#[65, 66, 67, 68, 69]⟩ : ByteArray), .string (⟨#[70, 85]⟩ : ByteArray)] 9 1 else emp) : Res), ((bif l 10 then .row (some ⟨b40, 0, none⟩) ([(⟨#[]⟩ : ByteArray), (⟨#[48, 48]⟩ : ByteArray), (⟨#[49, 48]⟩ : ByteArray)] : List ByteArray).length ([(⟨#[]⟩ : ByteArray), (⟨#[48, 48]⟩ : ByteArray), (⟨#[49, 48]⟩ : ByteArray)] : List ByteArray).length [.string (⟨#[]⟩ : ByteArray), .string (⟨#[48, 48]⟩ : ByteArray), .string (⟨#[49, 48]⟩ : ByteArray)] 9 1 else emp) : Res), ((bif l 15 then .row (some ⟨b56, 0, none⟩) ([(⟨#[72, 72, 90]⟩ : ByteArray), (⟨#[72, 72, 78]⟩ : ByteArray), (⟨#[66, 72, 90]⟩ : ByteArray)] : List ByteArray).length ([(⟨#[72, 72, 90]⟩ : ByteArray), (⟨#[72, 72, 78]⟩ : ByteArray), (⟨#[66, 72, 90]⟩ : ByteArray)] : List ByteArray).length [.string (⟨#[72, 72, 90]⟩ : ByteArray), .string (⟨#[72, 72, 78]⟩ : ByteArray), .string (⟨#[66, 72, 90]⟩ : ByteArray)] 9 1 else emp) : Res)] [SlA p3 d1.L.length k4 d1.L, optA (l 0) (RowA [.string (⟨#[71, 82]⟩ : ByteArray), .string (⟨#[88]⟩ : ByteArray), .string (⟨#[55, 65]⟩ : ByteArray)] ([(⟨#[71, 82]⟩ : ByteArray), (⟨#[88]⟩ : ByteArray), (⟨#[55, 65]⟩ : ByteArray)] : List ByteArray)), optA (l 2) (SlA p11 rv10.2.L.length k12 rv10.2.L), optA (l 5) (RowA [.string (⟨#[70, 85, 82]⟩ : ByteArray), .string (⟨#[65]⟩ : ByteArray), .string (⟨#[65, 66, 67, 68, 69]⟩ : ByteArray), .string (⟨#[70, 85]⟩ : ByteArray)] ([(⟨#[70, 85, 82]⟩ : ByteArray), (⟨#[65]⟩ : ByteArray), (⟨#[65, 66, 67, 68, 69]⟩ : ByteArray), (⟨#[70, 85]⟩ : ByteArray)] : List ByteArray)), optA (l 7) (SlA p27 rv26.2.L.length k28 rv26.2.L), optA (l 10) (RowA [.string (⟨#[]⟩ : ByteArray), .string (⟨#[48, 48]⟩ : ByteArray), .string (⟨#[49, 48]⟩ : ByteArray)] ([(⟨#[]⟩ : ByteArray), (⟨#[48, 48]⟩ : ByteArray), (⟨#[49, 48]⟩ : ByteArray)] : List ByteArray)), optA (l 12) (SlA p43 rv42.2.L.length k44 rv42.2.L), optA (l 15) (RowA [.string (⟨#[72, 72, 90]⟩ : ByteArray), .string (⟨#[72, 72, 78]⟩ : ByteArray), .string (⟨#[66, 72, 90]⟩ : ByteArray)] ([(⟨#[72, 72, 90]⟩ : ByteArray), (⟨#[72, 72, 78]⟩ : ByteArray), (⟨#[66, 72, 90]⟩ : ByteArray)] : List ByteArray)), optA (l 17) (SlA p59 rv58.2.L.length k60 rv58.2.L)] w) [1, 1, 2, 3, 4, 1, 1, 3, 4, 5, 1, 1, 4, 5, 6, 1, 1, 5, 6, 7, 8, 9] (by kernel_rfl) rfl (by kernel_rfl) ?_ (AllS.succ (AllS.succ (AllS.succ (AllS.succ (AllS.succ (AllS.succ (AllS.succ (AllS.succ (AllS.succ (AllS.succ (AllS.succ (AllS.succ (AllS.succ (AllS.succ (AllS.succ (AllS.succ (AllS.succ (AllS.succ (AllS.succ (AllS.succ (AllS.succ (AllS.succ AllS.zero ?_) ?_) ?_) ?_) ?_) ?_) ?_) ?_) ?_) ?_) ?_) ?_) ?_) ?_) ?_) ?_) ?_) ?_) ?_) ?_) ?_) ?_) ?_
  ·obtain ⟨b24, b40, b56, b8, k12, k28, k44, k60, p11, p27, p43, p59, _⟩ : ∃ (b24 : Nat) (b40 : Nat) (b56 : Nat) (b8 : Nat) (k12 : Nat) (k28 : Nat) (k44 : Nat) (k60 : Nat) (p11 : Option Addr) (p27 : Option Addr) (p43 : Option Addr) (p59 : Option Addr), True := ⟨0, 0, 0, 0, 0, 0, 0, 0, none, none, none, none, trivial⟩
   have hw := hw.drew
   have hw := hw.emp
   have hw := hw.emp
   have hw := hw.emp
   have hw := hw.emp
   have hw := hw.noE (SlA p59 rv58.2.L.length k60 rv58.2.L)
   have hw := hw.noE (RowA [.string (⟨#[72, 72, 90]⟩ : ByteArray), .string (⟨#[72, 72, 78]⟩ : ByteArray), .string (⟨#[66, 72, 90]⟩ : ByteArray)] ([(⟨#[72, 72, 90]⟩ : ByteArray), (⟨#[72, 72, 78]⟩ : ByteArray), (⟨#[66, 72, 90]⟩ : ByteArray)] : List ByteArray))
   have hw := hw.noE (SlA p43 rv42.2.L.length k44 rv42.2.L)
   have hw := hw.noE (RowA [.string (⟨#[]⟩ : ByteArray), .string (⟨#[48, 48]⟩ : ByteArray), .string (⟨#[49, 48]⟩ : ByteArray)] ([(⟨#[]⟩ : ByteArray), (⟨#[48, 48]⟩ : ByteArray), (⟨#[49, 48]⟩ : ByteArray)] : List ByteArray))
   have hw := hw.noE (SlA p27 rv26.2.L.length k28 rv26.2.L)
   have hw := hw.noE (RowA [.string (⟨#[70, 85, 82]⟩ : ByteArray), .string (⟨#[65]⟩ : ByteArray), .string (⟨#[65, 66, 67, 68, 69]⟩ : ByteArray), .string (⟨#[70, 85]⟩ : ByteArray)] ([(⟨#[70, 85, 82]⟩ : ByteArray), (⟨#[65]⟩ : ByteArray), (⟨#[65, 66, 67, 68, 69]⟩ : ByteArray), (⟨#[70, 85]⟩ : ByteArray)] : List ByteArray))
   have hw := hw.noE (SlA p11 rv10.2.L.length k12 rv10.2.L)
   have hw := hw.noE (RowA [.string (⟨#[71, 82]⟩ : ByteArray), .string (⟨#[88]⟩ : ByteArray), .string (⟨#[55, 65]⟩ : ByteArray)] ([(⟨#[71, 82]⟩ : ByteArray), (⟨#[88]⟩ : ByteArray), (⟨#[55, 65]⟩ : ByteArray)] : List ByteArray))
   exact ⟨b24, b40, b56, b8, k12, k28, k44, k60, p11, p27, p43, p59, S0, SlF.init (hs.wk rfl) (by kernel_rfl), hw.ft [4, 5, 0, 1, 2, 3] [8, 0, 1, 2, 3, 4, 5, 6, 7] (by decide) rfl rfl⟩
  ·intro l hi hp hc a w ⟨b24, b40, b56, b8, k12, k28, k44, k60, p11, p27, p43, p59, S, hS, hw⟩
   refine S_eff rfl ?_
   have hs := hS.open_ .nil
   refine w_litSlice (α := ByteArray) (vs := D8t3) (cs := D8t3) (xs := D8t4) hs hw El72 rfl rfl rfl rfl rfl rfl ⟨⟨_, rfl, rfl⟩, ⟨⟨_, rfl, rfl⟩, ⟨⟨_, rfl, rfl⟩, rfl⟩⟩⟩ rfl trivial rfl fun b8 a w hs hw => ?_
   have h_3 := l_neg hc 3 hi rfl
   have hw := hw.opt 0 rfl true
   refine nl ?_
   exact ⟨b24, b40, b56, b8, k12, k28, k44, k60, p11, p27, p43, p59, S, hS.close .nil hs rfl (.here (.same (.same (.neg h_3 rfl (.same (.same (.same (.same (.same (.same (.same (.same (.same (.same (.same (.same (.same (.same (.same (.same (.same .nil))))))))))))))))))))) 0 rfl, hw.ft [1, 2, 0, 4, 5, 6] [2, 0, 4, 5, 6, 7, 8, 9, 10] (by decide) rfl rfl⟩
  ·intro l hi hp hc a w ⟨b24, b40, b56, b8, k12, k28, k44, k60, p11, p27, p43, p59, S, hS, hw⟩
   refine S_val hS (.b (t := 0) rfl .nil) rfl rfl trivial (y_move rfl) (rfl) 1 rfl fun a hS => ⟨b24, b40, b56, b8, k12, k28, k44, k60, p11, p27, p43, p59, S, hS, hw⟩
  ·intro l hi hp hc a w ⟨b24, b40, b56, b8, k12, k28, k44, k60, p11, p27, p43, p59, S, hS, hw⟩
   have h_7 := l_neg hc 7 hi rfl
   have h_12 := l_neg hc 12 h_7 rfl
   have h_17 := l_neg hc 17 h_12 rfl
   have hw := hw.fixR 1 (r' := .box b2 [.slice p3 d1.L.length k4, .int .i64 d1.At] 70) rfl ((bF h_17).trans ((bF h_12).trans ((bF h_7).trans ((bF hi)))))
   have h_1 := hp 1 rfl
   refine S_eff rfl ?_
   have hs := hS.open_ (.v (t := 4) 1 rfl h_1 .nil)
   refine st_callR hs (made_Dice_Next_ok h9 hw.dom (hw.ins [1] (by decide) rfl) (hw.envAt 0 rfl)) (do_call Tryz.call9 rfl) trivial rfl rfl ?_
   intro v100 Sv97 w a h98 h99 hs
   obtain ⟨p11, k12, rfl, h101, h13⟩ := h99
   have hw := hw.callO [1] [0, 2, 3, 4, 5] (by decide) rfl h98 h101
   have hw := hw.addE (e := SlA p11 rv10.2.L.length k12 rv10.2.L) h13
   have hw := hw.fixR 0 (r' := (bif l 17 then .box b2 [.slice p59 rv58.2.L.length k60, .int .i64 rv58.2.At] 70 else (bif l 12 then .box b2 [.slice p43 rv42.2.L.length k44, .int .i64 rv42.2.At] 70 else (bif l 7 then .box b2 [.slice p27 rv26.2.L.length k28, .int .i64 rv26.2.At] 70 else .box b2 [.slice p11 rv10.2.L.length k12, .int .i64 rv10.2.At] 70)))) rfl ((bF h_17).trans ((bF h_12).trans ((bF h_7)))).symm
   have hw := hw.opt 0 rfl true
   refine nl ?_
   exact ⟨b24, b40, b56, b8, k12, k28, k44, k60, p11, p27, p43, p59, Sv97, hS.close (.v (t := 4) 1 rfl h_1 .nil) hs rfl (.same (.same (.here (.same (.same (.same (.same (.same (.same (.same (.same (.same (.same (.same (.same (.same (.same (.same (.same (.same (.same .nil))))))))))))))))))))) 2 rfl, hw.ft [1, 0, 2, 3, 4, 5] [2, 3, 0, 5, 6, 7, 8, 9, 10] (by decide) rfl rfl⟩
  ·intro l hi hp hc a w ⟨b24, b40, b56, b8, k12, k28, k44, k60, p11, p27, p43, p59, S, hS, hw⟩
   have hw0 := hw
   have h_0 := hp 0 rfl
   have hw := hw.fixR 2 (r' := .row (some ⟨b8, 0, none⟩) ([(⟨#[71, 82]⟩ : ByteArray), (⟨#[88]⟩ : ByteArray), (⟨#[55, 65]⟩ : ByteArray)] : List ByteArray).length ([(⟨#[71, 82]⟩ : ByteArray), (⟨#[88]⟩ : ByteArray), (⟨#[55, 65]⟩ : ByteArray)] : List ByteArray).length [.string (⟨#[71, 82]⟩ : ByteArray), .string (⟨#[88]⟩ : ByteArray), .string (⟨#[55, 65]⟩ : ByteArray)] 9 1) rfl ((bT h_0))
   have hw := hw.yes 1 rfl h_0
   have h_2 := hp 2 rfl
   obtain ⟨c21, h17, h22, h15⟩ := hw.elemRX (α := ByteArray) 2 rfl 0 rfl h14
   obtain ⟨_, rfl, rfl⟩ := h15
   refine S_val hS (.v (t := 3) 0 rfl h_0 (.v (t := 5) 2 rfl h_2 .nil)) rfl rfl trivial (y_indexAt Tryz.runUnderlying72 Tryz.sizeOf9 rfl rfl h17.1 h17.2 rfl) (rfl) 3 rfl fun a hS => ⟨b24, b40, b56, b8, k12, k28, k44, k60, p11, p27, p43, p59, S, hS, hw0⟩
  ·intro l hi hp hc a w ⟨b24, b40, b56, b8, k12, k28, k44, k60, p11, p27, p43, p59, S, hS, hw⟩
   have hw0 := hw
   have h_3 := hp 3 rfl
   have h_0 := hc 3 0 rfl h_3
   have hw := hw.fixR 2 (r' := .row (some ⟨b8, 0, none⟩) ([(⟨#[71, 82]⟩ : ByteArray), (⟨#[88]⟩ : ByteArray), (⟨#[55, 65]⟩ : ByteArray)] : List ByteArray).length ([(⟨#[71, 82]⟩ : ByteArray), (⟨#[88]⟩ : ByteArray), (⟨#[55, 65]⟩ : ByteArray)] : List ByteArray).length [.string (⟨#[71, 82]⟩ : ByteArray), .string (⟨#[88]⟩ : ByteArray), .string (⟨#[55, 65]⟩ : ByteArray)] 9 1) rfl ((bT h_0))
   have hw := hw.yes 1 rfl h_0
   obtain ⟨c21, h17, h22, h15⟩ := hw.elemRX (α := ByteArray) 2 rfl 0 rfl h14
   obtain ⟨_, rfl, rfl⟩ := h15
   refine S_val hS (.v (t := 6) 3 rfl h_3 .nil) rfl rfl trivial (y_loadQ1 (j := 0) (hw.ownAt 2 rfl) rfl Tryz.isAgg9 h22 rfl) (rfl) 4 rfl fun a hS => ⟨b24, b40, b56, b8, k12, k28, k44, k60, p11, p27, p43, p59, S, hS, hw0⟩
  ·intro l hi hp hc a w ⟨b24, b40, b56, b8, k12, k28, k44, k60, p11, p27, p43, p59, S, hS, hw⟩
   refine S_eff rfl ?_
   have hs := hS.open_ .nil
   refine w_litSlice (α := ByteArray) (vs := D8t5) (cs := D8t5) (xs := D8t6) hs hw El72 rfl rfl rfl rfl rfl rfl ⟨⟨_, rfl, rfl⟩, ⟨⟨_, rfl, rfl⟩, ⟨⟨_, rfl, rfl⟩, ⟨⟨_, rfl, rfl⟩, rfl⟩⟩⟩⟩ rfl trivial rfl fun b24 a w hs hw => ?_
   have h_8 := l_neg hc 8 hi rfl
   have hw := hw.opt 0 rfl true
   refine nl ?_
   exact ⟨b24, b40, b56, b8, k12, k28, k44, k60, p11, p27, p43, p59, S, hS.close .nil hs rfl (.same (.same (.same (.same (.same (.here (.same (.same (.neg h_8 rfl (.same (.same (.same (.same (.same (.same (.same (.same (.same (.same (.same (.same .nil))))))))))))))))))))) 5 rfl, hw.ft [1, 2, 3, 0, 5, 6] [2, 3, 4, 0, 6, 7, 8, 9, 10] (by decide) rfl rfl⟩
  ·intro l hi hp hc a w ⟨b24, b40, b56, b8, k12, k28, k44, k60, p11, p27, p43, p59, S, hS, hw⟩
   refine S_val hS (.b (t := 0) rfl .nil) rfl rfl trivial (y_move rfl) (rfl) 6 rfl fun a hS => ⟨b24, b40, b56, b8, k12, k28, k44, k60, p11, p27, p43, p59, S, hS, hw⟩
  ·intro l hi hp hc a w ⟨b24, b40, b56, b8, k12, k28, k44, k60, p11, p27, p43, p59, S, hS, hw⟩
   have h_12 := l_neg hc 12 hi rfl
   have h_17 := l_neg hc 17 h_12 rfl
   have h_2 := hp 2 rfl
   have hw := hw.fixR 1 (r' := .box b2 [.slice p11 rv10.2.L.length k12, .int .i64 rv10.2.At] 70) rfl ((bF h_17).trans ((bF h_12).trans ((bF hi).trans ((bT h_2)))))
   have hw := hw.yes 2 rfl h_2
   have h_6 := hp 6 rfl
   refine S_eff rfl ?_
   have hs := hS.open_ (.v (t := 9) 6 rfl h_6 .nil)
   refine st_callR hs (made_Dice_Next_ok h25 hw.dom (hw.ins [1] (by decide) rfl) (hw.envAt 0 rfl)) (do_call Tryz.call9 rfl) trivial rfl rfl ?_
   intro v110 Sv107 w a h108 h109 hs
   obtain ⟨p27, k28, rfl, h111, h29⟩ := h109
   have hw := hw.callO [1] [0, 2, 3, 4, 5] (by decide) rfl h108 h111
   have hw := hw.addE (e := SlA p27 rv26.2.L.length k28 rv26.2.L) h29
   have hw := hw.fixR 0 (r' := (bif l 17 then .box b2 [.slice p59 rv58.2.L.length k60, .int .i64 rv58.2.At] 70 else (bif l 12 then .box b2 [.slice p43 rv42.2.L.length k44, .int .i64 rv42.2.At] 70 else .box b2 [.slice p27 rv26.2.L.length k28, .int .i64 rv26.2.At] 70))) rfl ((bF h_17).trans ((bF h_12))).symm
   have hw := hw.opt 0 rfl true
   refine nl ?_
   exact ⟨b24, b40, b56, b8, k12, k28, k44, k60, p11, p27, p43, p59, Sv107, hS.close (.v (t := 9) 6 rfl h_6 .nil) hs rfl (.same (.same (.same (.same (.same (.same (.same (.here (.same (.same (.same (.same (.same (.same (.same (.same (.same (.same (.same (.same (.same .nil))))))))))))))))))))) 7 rfl, hw.ft [1, 0, 2, 3, 4, 5] [3, 4, 5, 6, 0, 8, 9, 10, 11] (by decide) rfl rfl⟩
  ·intro l hi hp hc a w ⟨b24, b40, b56, b8, k12, k28, k44, k60, p11, p27, p43, p59, S, hS, hw⟩
   have hw0 := hw
   have h_5 := hp 5 rfl
   have hw := hw.fixR 3 (r' := .row (some ⟨b24, 0, none⟩) ([(⟨#[70, 85, 82]⟩ : ByteArray), (⟨#[65]⟩ : ByteArray), (⟨#[65, 66, 67, 68, 69]⟩ : ByteArray), (⟨#[70, 85]⟩ : ByteArray)] : List ByteArray).length ([(⟨#[70, 85, 82]⟩ : ByteArray), (⟨#[65]⟩ : ByteArray), (⟨#[65, 66, 67, 68, 69]⟩ : ByteArray), (⟨#[70, 85]⟩ : ByteArray)] : List ByteArray).length [.string (⟨#[70, 85, 82]⟩ : ByteArray), .string (⟨#[65]⟩ : ByteArray), .string (⟨#[65, 66, 67, 68, 69]⟩ : ByteArray), .string (⟨#[70, 85]⟩ : ByteArray)] 9 1) rfl ((bT h_5))
   have hw := hw.yes 3 rfl h_5
   have h_7 := hp 7 rfl
   obtain ⟨c37, h33, h38, h31⟩ := hw.elemRX (α := ByteArray) 3 rfl 0 rfl h30
   obtain ⟨_, rfl, rfl⟩ := h31
   refine S_val hS (.v (t := 8) 5 rfl h_5 (.v (t := 10) 7 rfl h_7 .nil)) rfl rfl trivial (y_indexAt Tryz.runUnderlying72 Tryz.sizeOf9 rfl rfl h33.1 h33.2 rfl) (rfl) 8 rfl fun a hS => ⟨b24, b40, b56, b8, k12, k28, k44, k60, p11, p27, p43, p59, S, hS, hw0⟩
  ·intro l hi hp hc a w ⟨b24, b40, b56, b8, k12, k28, k44, k60, p11, p27, p43, p59, S, hS, hw⟩
   have hw0 := hw
   have h_8 := hp 8 rfl
   have h_5 := hc 8 5 rfl h_8
   have hw := hw.fixR 3 (r' := .row (some ⟨b24, 0, none⟩) ([(⟨#[70, 85, 82]⟩ : ByteArray), (⟨#[65]⟩ : ByteArray), (⟨#[65, 66, 67, 68, 69]⟩ : ByteArray), (⟨#[70, 85]⟩ : ByteArray)] : List ByteArray).length ([(⟨#[70, 85, 82]⟩ : ByteArray), (⟨#[65]⟩ : ByteArray), (⟨#[65, 66, 67, 68, 69]⟩ : ByteArray), (⟨#[70, 85]⟩ : ByteArray)] : List ByteArray).length [.string (⟨#[70, 85, 82]⟩ : ByteArray), .string (⟨#[65]⟩ : ByteArray), .string (⟨#[65, 66, 67, 68, 69]⟩ : ByteArray), .string (⟨#[70, 85]⟩ : ByteArray)] 9 1) rfl ((bT h_5))
   have hw := hw.yes 3 rfl h_5
   obtain ⟨c37, h33, h38, h31⟩ := hw.elemRX (α := ByteArray) 3 rfl 0 rfl h30
   obtain ⟨_, rfl, rfl⟩ := h31
   refine S_val hS (.v (t := 11) 8 rfl h_8 .nil) rfl rfl trivial (y_loadQ1 (j := 0) (hw.ownAt 3 rfl) rfl Tryz.isAgg9 h38 rfl) (rfl) 9 rfl fun a hS => ⟨b24, b40, b56, b8, k12, k28, k44, k60, p11, p27, p43, p59, S, hS, hw0⟩
  ·intro l hi hp hc a w ⟨b24, b40, b56, b8, k12, k28, k44, k60, p11, p27, p43, p59, S, hS, hw⟩
   refine S_eff rfl ?_
   have hs := hS.open_ .nil
   refine w_litSlice (α := ByteArray) (vs := D8t7) (cs := D8t7) (xs := D8t8) hs hw El72 rfl rfl rfl rfl rfl rfl ⟨⟨_, rfl, rfl⟩, ⟨⟨_, rfl, rfl⟩, ⟨⟨_, rfl, rfl⟩, rfl⟩⟩⟩ rfl trivial rfl fun b40 a w hs hw => ?_
   have h_13 := l_neg hc 13 hi rfl
   have hw := hw.opt 0 rfl true
   refine nl ?_
   exact ⟨b24, b40, b56, b8, k12, k28, k44, k60, p11, p27, p43, p59, S, hS.close .nil hs rfl (.same (.same (.same (.same (.same (.same (.same (.same (.same (.same (.here (.same (.same (.neg h_13 rfl (.same (.same (.same (.same (.same (.same (.same .nil))))))))))))))))))))) 10 rfl, hw.ft [1, 2, 3, 4, 0, 6] [2, 3, 4, 5, 6, 0, 8, 9, 10] (by decide) rfl rfl⟩
  ·intro l hi hp hc a w ⟨b24, b40, b56, b8, k12, k28, k44, k60, p11, p27, p43, p59, S, hS, hw⟩
   refine S_val hS (.b (t := 0) rfl .nil) rfl rfl trivial (y_move rfl) (rfl) 11 rfl fun a hS => ⟨b24, b40, b56, b8, k12, k28, k44, k60, p11, p27, p43, p59, S, hS, hw⟩
  ·intro l hi hp hc a w ⟨b24, b40, b56, b8, k12, k28, k44, k60, p11, p27, p43, p59, S, hS, hw⟩
   have h_17 := l_neg hc 17 hi rfl
   have h_7 := hp 7 rfl
   have hw := hw.fixR 1 (r' := .box b2 [.slice p27 rv26.2.L.length k28, .int .i64 rv26.2.At] 70) rfl ((bF h_17).trans ((bF hi).trans ((bT h_7))))
   have hw := hw.yes 4 rfl h_7
   have h_11 := hp 11 rfl
   refine S_eff rfl ?_
   have hs := hS.open_ (.v (t := 14) 11 rfl h_11 .nil)
   refine st_callR hs (made_Dice_Next_ok h41 hw.dom (hw.ins [1] (by decide) rfl) (hw.envAt 0 rfl)) (do_call Tryz.call9 rfl) trivial rfl rfl ?_
   intro v120 Sv117 w a h118 h119 hs
   obtain ⟨p43, k44, rfl, h121, h45⟩ := h119
   have hw := hw.callO [1] [0, 2, 3, 4, 5] (by decide) rfl h118 h121
   have hw := hw.addE (e := SlA p43 rv42.2.L.length k44 rv42.2.L) h45
   have hw := hw.fixR 0 (r' := (bif l 17 then .box b2 [.slice p59 rv58.2.L.length k60, .int .i64 rv58.2.At] 70 else .box b2 [.slice p43 rv42.2.L.length k44, .int .i64 rv42.2.At] 70)) rfl ((bF h_17)).symm
   have hw := hw.opt 0 rfl true
   refine nl ?_
   exact ⟨b24, b40, b56, b8, k12, k28, k44, k60, p11, p27, p43, p59, Sv117, hS.close (.v (t := 14) 11 rfl h_11 .nil) hs rfl (.same (.same (.same (.same (.same (.same (.same (.same (.same (.same (.same (.same (.here (.same (.same (.same (.same (.same (.same (.same (.same .nil))))))))))))))))))))) 12 rfl, hw.ft [1, 0, 2, 3, 4, 5] [3, 4, 5, 6, 7, 8, 0, 10, 11] (by decide) rfl rfl⟩
  ·intro l hi hp hc a w ⟨b24, b40, b56, b8, k12, k28, k44, k60, p11, p27, p43, p59, S, hS, hw⟩
   have hw0 := hw
   have h_10 := hp 10 rfl
   have hw := hw.fixR 4 (r' := .row (some ⟨b40, 0, none⟩) ([(⟨#[]⟩ : ByteArray), (⟨#[48, 48]⟩ : ByteArray), (⟨#[49, 48]⟩ : ByteArray)] : List ByteArray).length ([(⟨#[]⟩ : ByteArray), (⟨#[48, 48]⟩ : ByteArray), (⟨#[49, 48]⟩ : ByteArray)] : List ByteArray).length [.string (⟨#[]⟩ : ByteArray), .string (⟨#[48, 48]⟩ : ByteArray), .string (⟨#[49, 48]⟩ : ByteArray)] 9 1) rfl ((bT h_10))
   have hw := hw.yes 5 rfl h_10
   have h_12 := hp 12 rfl
   obtain ⟨c53, h49, h54, h47⟩ := hw.elemRX (α := ByteArray) 4 rfl 0 rfl h46
   obtain ⟨_, rfl, rfl⟩ := h47
   refine S_val hS (.v (t := 13) 10 rfl h_10 (.v (t := 15) 12 rfl h_12 .nil)) rfl rfl trivial (y_indexAt Tryz.runUnderlying72 Tryz.sizeOf9 rfl rfl h49.1 h49.2 rfl) (rfl) 13 rfl fun a hS => ⟨b24, b40, b56, b8, k12, k28, k44, k60, p11, p27, p43, p59, S, hS, hw0⟩
  ·intro l hi hp hc a w ⟨b24, b40, b56, b8, k12, k28, k44, k60, p11, p27, p43, p59, S, hS, hw⟩
   have hw0 := hw
   have h_13 := hp 13 rfl
   have h_10 := hc 13 10 rfl h_13
   have hw := hw.fixR 4 (r' := .row (some ⟨b40, 0, none⟩) ([(⟨#[]⟩ : ByteArray), (⟨#[48, 48]⟩ : ByteArray), (⟨#[49, 48]⟩ : ByteArray)] : List ByteArray).length ([(⟨#[]⟩ : ByteArray), (⟨#[48, 48]⟩ : ByteArray), (⟨#[49, 48]⟩ : ByteArray)] : List ByteArray).length [.string (⟨#[]⟩ : ByteArray), .string (⟨#[48, 48]⟩ : ByteArray), .string (⟨#[49, 48]⟩ : ByteArray)] 9 1) rfl ((bT h_10))
   have hw := hw.yes 5 rfl h_10
   obtain ⟨c53, h49, h54, h47⟩ := hw.elemRX (α := ByteArray) 4 rfl 0 rfl h46
   obtain ⟨_, rfl, rfl⟩ := h47
   refine S_val hS (.v (t := 16) 13 rfl h_13 .nil) rfl rfl trivial (y_loadQ1 (j := 0) (hw.ownAt 4 rfl) rfl Tryz.isAgg9 h54 rfl) (rfl) 14 rfl fun a hS => ⟨b24, b40, b56, b8, k12, k28, k44, k60, p11, p27, p43, p59, S, hS, hw0⟩
  ·intro l hi hp hc a w ⟨b24, b40, b56, b8, k12, k28, k44, k60, p11, p27, p43, p59, S, hS, hw⟩
   refine S_eff rfl ?_
   have hs := hS.open_ .nil
   refine w_litSlice (α := ByteArray) (vs := D8t9) (cs := D8t9) (xs := D8t10) hs hw El72 rfl rfl rfl rfl rfl rfl ⟨⟨_, rfl, rfl⟩, ⟨⟨_, rfl, rfl⟩, ⟨⟨_, rfl, rfl⟩, rfl⟩⟩⟩ rfl trivial rfl fun b56 a w hs hw => ?_
   have h_18 := l_neg hc 18 hi rfl
   have hw := hw.opt 0 rfl true
   refine nl ?_
   exact ⟨b24, b40, b56, b8, k12, k28, k44, k60, p11, p27, p43, p59, S, hS.close .nil hs rfl (.same (.same (.same (.same (.same (.same (.same (.same (.same (.same (.same (.same (.same (.same (.same (.here (.same (.same (.neg h_18 rfl (.same (.same .nil))))))))))))))))))))) 15 rfl, hw.ft [1, 2, 3, 4, 5, 0] [2, 3, 4, 5, 6, 7, 8, 0, 10] (by decide) rfl rfl⟩
  ·intro l hi hp hc a w ⟨b24, b40, b56, b8, k12, k28, k44, k60, p11, p27, p43, p59, S, hS, hw⟩
   refine S_val hS (.b (t := 0) rfl .nil) rfl rfl trivial (y_move rfl) (rfl) 16 rfl fun a hS => ⟨b24, b40, b56, b8, k12, k28, k44, k60, p11, p27, p43, p59, S, hS, hw⟩
  ·intro l hi hp hc a w ⟨b24, b40, b56, b8, k12, k28, k44, k60, p11, p27, p43, p59, S, hS, hw⟩
   have h_12 := hp 12 rfl
   have hw := hw.fixR 1 (r' := .box b2 [.slice p43 rv42.2.L.length k44, .int .i64 rv42.2.At] 70) rfl ((bF hi).trans ((bT h_12)))
   have hw := hw.yes 6 rfl h_12
   have h_16 := hp 16 rfl
   refine S_eff rfl ?_
   have hs := hS.open_ (.v (t := 19) 16 rfl h_16 .nil)
   refine st_callR hs (made_Dice_Next_ok h57 hw.dom (hw.ins [1] (by decide) rfl) (hw.envAt 0 rfl)) (do_call Tryz.call9 rfl) trivial rfl rfl ?_
   intro v130 Sv127 w a h128 h129 hs
   obtain ⟨p59, k60, rfl, h131, h61⟩ := h129
   have hw := hw.callO [1] [0, 2, 3, 4, 5] (by decide) rfl h128 h131
   have hw := hw.addE (e := SlA p59 rv58.2.L.length k60 rv58.2.L) h61
   have hw := hw.opt 0 rfl true
   refine nl ?_
   exact ⟨b24, b40, b56, b8, k12, k28, k44, k60, p11, p27, p43, p59, Sv127, hS.close (.v (t := 19) 16 rfl h_16 .nil) hs rfl (.same (.same (.same (.same (.same (.same (.same (.same (.same (.same (.same (.same (.same (.same (.same (.same (.same (.here (.same (.same (.same .nil))))))))))))))))))))) 17 rfl, hw.ft [1, 0, 2, 3, 4, 5] [3, 4, 5, 6, 7, 8, 9, 10, 0] (by decide) rfl rfl⟩
  ·intro l hi hp hc a w ⟨b24, b40, b56, b8, k12, k28, k44, k60, p11, p27, p43, p59, S, hS, hw⟩
   have hw0 := hw
   have h_15 := hp 15 rfl
   have hw := hw.fixR 5 (r' := .row (some ⟨b56, 0, none⟩) ([(⟨#[72, 72, 90]⟩ : ByteArray), (⟨#[72, 72, 78]⟩ : ByteArray), (⟨#[66, 72, 90]⟩ : ByteArray)] : List ByteArray).length ([(⟨#[72, 72, 90]⟩ : ByteArray), (⟨#[72, 72, 78]⟩ : ByteArray), (⟨#[66, 72, 90]⟩ : ByteArray)] : List ByteArray).length [.string (⟨#[72, 72, 90]⟩ : ByteArray), .string (⟨#[72, 72, 78]⟩ : ByteArray), .string (⟨#[66, 72, 90]⟩ : ByteArray)] 9 1) rfl ((bT h_15))
   have hw := hw.yes 7 rfl h_15
   have h_17 := hp 17 rfl
   obtain ⟨c69, h65, h70, h63⟩ := hw.elemRX (α := ByteArray) 5 rfl 0 rfl h62
   obtain ⟨_, rfl, rfl⟩ := h63
   refine S_val hS (.v (t := 18) 15 rfl h_15 (.v (t := 20) 17 rfl h_17 .nil)) rfl rfl trivial (y_indexAt Tryz.runUnderlying72 Tryz.sizeOf9 rfl rfl h65.1 h65.2 rfl) (rfl) 18 rfl fun a hS => ⟨b24, b40, b56, b8, k12, k28, k44, k60, p11, p27, p43, p59, S, hS, hw0⟩
  ·intro l hi hp hc a w ⟨b24, b40, b56, b8, k12, k28, k44, k60, p11, p27, p43, p59, S, hS, hw⟩
   have hw0 := hw
   have h_18 := hp 18 rfl
   have h_15 := hc 18 15 rfl h_18
   have hw := hw.fixR 5 (r' := .row (some ⟨b56, 0, none⟩) ([(⟨#[72, 72, 90]⟩ : ByteArray), (⟨#[72, 72, 78]⟩ : ByteArray), (⟨#[66, 72, 90]⟩ : ByteArray)] : List ByteArray).length ([(⟨#[72, 72, 90]⟩ : ByteArray), (⟨#[72, 72, 78]⟩ : ByteArray), (⟨#[66, 72, 90]⟩ : ByteArray)] : List ByteArray).length [.string (⟨#[72, 72, 90]⟩ : ByteArray), .string (⟨#[72, 72, 78]⟩ : ByteArray), .string (⟨#[66, 72, 90]⟩ : ByteArray)] 9 1) rfl ((bT h_15))
   have hw := hw.yes 7 rfl h_15
   obtain ⟨c69, h65, h70, h63⟩ := hw.elemRX (α := ByteArray) 5 rfl 0 rfl h62
   obtain ⟨_, rfl, rfl⟩ := h63
   refine S_val hS (.v (t := 21) 18 rfl h_18 .nil) rfl rfl trivial (y_loadQ1 (j := 0) (hw.ownAt 5 rfl) rfl Tryz.isAgg9 h70 rfl) (rfl) 19 rfl fun a hS => ⟨b24, b40, b56, b8, k12, k28, k44, k60, p11, p27, p43, p59, S, hS, hw0⟩
  ·intro l hi hp hc a w ⟨b24, b40, b56, b8, k12, k28, k44, k60, p11, p27, p43, p59, S, hS, hw⟩
   have h_19 := hp 19 rfl
   have h_14 := hp 14 rfl
   have h_9 := hp 9 rfl
   have h_4 := hp 4 rfl
   refine S_val hS (.v (t := 7) 4 rfl h_4 (.v (t := 12) 9 rfl h_9 (.v (t := 17) 14 rfl h_14 (.v (t := 22) 19 rfl h_19 .nil)))) rfl rfl trivial (y_build (vs := [(0, .string x16), (1, .string x32), (2, .string x48), (3, .string x64)]) Bld41 rfl rfl) (rfl) 20 rfl fun a hS => ⟨b24, b40, b56, b8, k12, k28, k44, k60, p11, p27, p43, p59, S, hS, hw⟩
  ·intro l hi hp hc a w ⟨b24, b40, b56, b8, k12, k28, k44, k60, p11, p27, p43, p59, S, hS, hw⟩
   have hw := hw.fixR 0 (r' := .box b6 [.string ByteArray.empty, .string ByteArray.empty, .string ByteArray.empty, .string ByteArray.empty] 41) rfl ((bF hi))
   have h_20 := hp 20 rfl
   refine S_eff rfl ?_
   have hs := hS.open_ (.b (t := 2) rfl (.v (t := 23) 20 rfl h_20 .nil))
   refine w_store (m := 4) (cs' := [.string x16, .string x32, .string x48, .string x64]) hs hw 0 rfl rfl rfl Tryz.sizeOf41 rfl rfl rfl rfl trivial ?_
   intro a w hs hw
   refine nl ?_
   exact ⟨b24, b40, b56, b8, k12, k28, k44, k60, p11, p27, p43, p59, S, hS.close0 (.b (t := 2) rfl (.v (t := 23) 20 rfl h_20 .nil)) hs rfl, hw.ft [0, 1, 2, 3, 4, 5] [0, 1, 2, 3, 4, 5, 6, 7, 8] (by decide) rfl rfl⟩
  intro l a w hl ⟨b24, b40, b56, b8, k12, k28, k44, k60, p11, p27, p43, p59, S, hS, hw⟩
  have hw := hw.yes 8 rfl (hl 17 (by decide))
  have hw := hw.fixR 1 (r' := .box b2 [.slice p59 rv58.2.L.length k60, .int .i64 rv58.2.At] 70) rfl (bT (hl 17 (by decide)))
  have hw := hw.fixR 0 (r' := .box b6 [.string x16, .string x32, .string x48, .string x64] 41) rfl (bT (hl 21 (by decide)))
  have hs := hS.on (.b (t := 2) rfl .nil)
  exact ⟨S, k60, p59, (hs.wk rfl), (hw.ft [1, 0] [0] (by decide) rfl rfl)⟩
 rintro a w ⟨Sv71, k60, p59, hs, hw⟩
 refine then_normal ?_
 have hsh := oi hsh
 subst hsh
 refine wp_ret ?_
 exact ret1 hs rfl (rv_cell hw 1 rfl rfl Tryz.isAgg41 Tryz.sizeOf41 rfl) (hw.ret ⟨p59, k60, rfl, (hw.outs [0] (by decide) rfl), (hw.envAt 0 rfl)⟩)
abbrev made_Dice_Wave_rd (w0 : World) (X : List Nat) (b2 : Nat) (r : ((List Int) × Dice)) : (Nat → Prop) → World → Value → Prop := fun S w v => ∃ (p0_0 : Option Addr) (k0_0 : Nat) (c0_0 : List Value) (pq0_0 : Option Addr) (kq0_0 : Nat), v = .slice p0_0 r.1.length k0_0 ∧ Outs X w0 S w [.row p0_0 r.1.length k0_0 c0_0 3 1, .box b2 [.slice pq0_0 r.2.L.length kq0_0, .int .i64 r.2.At] 70] ∧ (RowA c0_0 r.1).p S w ∧ (SlA pq0_0 r.2.L.length kq0_0 r.2.L).p S w
set_option maxHeartbeats 4000000 in
set_option maxRecDepth 100000 in
theorem made_Dice_Wave_ok {w0 : World} {S0 : Nat → Prop} {b2 : Nat} {p3 : Option Addr} {k4 : Nat} {d1 : Dice} {n6 : Int} {r : ((List Int) × Dice)} (hsh : made_Dice_Wave d1 n6 = some r) (hS : ∀ b, S0 b → b < w0.heap.size) (hin : Ins S0 w0 [.box b2 [.slice p3 d1.L.length k4, .int .i64 d1.At] 70]) (h5 : (SlA p3 d1.L.length k4 d1.L).p S0 w0) : Calls Tryz.prog 11 #[.pointer (some ⟨b2, 0, none⟩), .int .i64 n6] w0 (Ret (blks [.box b2 [.slice p3 d1.L.length k4, .int .i64 d1.At] 70]) w0 S0 (made_Dice_Wave_rd w0 (blks [.box b2 [.slice p3 d1.L.length k4, .int .i64 d1.At] 70]) b2 r)) := by
 refine calls_of_wp Tryz.func11 rfl ?_
 have hs := Sl.enter #[.pointer (some ⟨b2, 0, none⟩), .int .i64 n6] 47 [(0, .pointer (some ⟨b2, 0, none⟩)), (1, .int .i64 n6)] rfl ⟨rfl, rfl, trivial⟩
 have hw := Wd.enterI hS hin
 have hw := hw.addE h5
 delta made_Dice_Wave at hsh
 refine sr ?_
 refine av hs rfl rfl fun a hs => ?_
 refine nl ?_
 refine sr ?_
 refine av hs rfl rfl fun a hs => ?_
 refine nl ?_
 refine sr ?_
 refine av hs rfl rfl fun a hs => ?_
 refine nl ?_
 refine wp_seq ?_
 refine sr ?_
 refine mv hs rfl rfl fun a hs => ?_
 refine mv hs rfl rfl fun a hs => ?_
 obtain ⟨rv8, h7, hsh⟩ := bind_t hsh
 refine st_callR hs (made_Dice_Next_ok h7 hw.dom (hw.ins [0] (by decide) rfl) (hw.envAt 0 rfl)) (do_call Tryz.call9 rfl) trivial rfl rfl ?_
 intro v15 Sv12 w a h13 h14 hs
 obtain ⟨p9, k10, rfl, h16, h11⟩ := h14
 have hw := hw.callO [0] [] (by decide) rfl h13 h16
 have hw := hw.addE (e := SlA p9 rv8.2.L.length k10 rv8.2.L) h11
 refine sv hs (y_add rfl rfl) rfl fun a hs => ?_
 obtain ⟨i18, h17, hsh⟩ := bind_t hsh
 refine sv hs (y_assignI rfl h17) rfl fun a hs => ?_
 refine nl ?_
 obtain ⟨e329, h569, hsh⟩ := bind_t hsh
 refine wp_join (fun a w => ∃ (p330 : Option Addr) (k331 : Nat) (c332 : List Value) (p333 : Option Addr) (k334 : Nat) (Sv335 : Nat → Prop), Sl 47 [(5, .slice p333 e329.2.2.length k334)] a ∧ Wd ⟨w0, S0, blks [.box b2 [.slice p3 d1.L.length k4, .int .i64 d1.At] 70]⟩ Sv335 [.box b2 [.slice p330 e329.1.length k331, .int .i64 e329.2.1] 70, .row p333 e329.2.2.length k334 c332 3 1] [SlA p330 e329.1.length k331 e329.1, RowA c332 e329.2.2] w) ?_ ?_
 ·refine wp_block ?_
  have hw := hw.nilRow Int 3
  refine wp_while (fun sv19 a w => ∃ (p222 : Option Addr) (k223 : Nat) (c224 : List Value) (p225 : Option Addr) (k226 : Nat) (Sv227 : Nat → Prop), Sl 47 [(0, .pointer (some ⟨b2, 0, none⟩)), (5, .slice p225 sv19.2.2.1.length k226), (6, .int .i64 sv19.2.2.2.1), (7, .int .i64 sv19.2.2.2.2)] a ∧ Wd ⟨w0, S0, blks [.box b2 [.slice p3 d1.L.length k4, .int .i64 d1.At] 70]⟩ Sv227 [.box b2 [.slice p222 sv19.1.length k223, .int .i64 sv19.2.1] 70, .row p225 sv19.2.2.1.length k226 c224 3 1] [SlA p222 sv19.1.length k223 sv19.1, RowA c224 sv19.2.2.1] w) (rv8.2.L, rv8.2.At, ([] : List Int), 0, i18) h569 ⟨p9, k10, [], none, 0, Sv12, (hs.wk rfl), (hw.ft [1, 0] [1, 0] (by decide) rfl rfl)⟩ ?_
  clear h569
  repeat clear hsh
  rintro sv19 a w tv327 ⟨p222, k223, c224, p225, k226, Sv227, hs, hw⟩ hsh hd326
  delta made_Dice_Wave_l1 at hsh
  refine wp_seq ?_
  refine sr ?_
  refine mv hs rfl rfl fun a hs => ?_
  refine sv hs (y_gtr rfl rfl) rfl fun a hs => ?_
  refine nl ?_
  refine wp_cond_split (hs.ev rfl) (fun h337 => ?_) (fun h337 => ?_)
  ·have hsh := ite_t hsh h337
   refine wp_skip ?_
   refine then_normal ?_
   refine wp_seq ?_
   refine wp_block ?_
   refine wp_seq ?_
   refine sr ?_
   refine mv hs rfl rfl fun a hs => ?_
   refine sv hs (y_eql rfl rfl) rfl fun a hs => ?_
   refine mv hs rfl rfl fun a hs => ?_
   obtain ⟨c444, hc444, hsh⟩ := bind_t hsh
   refine wpl_join 4 (fun a w => ∃ (p445 : Option Addr) (k446 : Nat) (Sv447 : Nat → Prop), Sl 47 [(0, .pointer (some ⟨b2, 0, none⟩)), (5, .slice p225 sv19.2.2.1.length k226), (6, .int .i64 sv19.2.2.2.1), (7, .int .i64 sv19.2.2.2.2), (23, .bool c444.2.2)] a ∧ Wd ⟨w0, S0, blks [.box b2 [.slice p3 d1.L.length k4, .int .i64 d1.At] 70]⟩ Sv447 [.box b2 [.slice p445 c444.1.length k446, .int .i64 c444.2.1] 70, .row p225 sv19.2.2.1.length k226 c224 3 1] [SlA p445 c444.1.length k446 c444.1, RowA c224 sv19.2.2.1] w) ?_ ?_
   ·rcases Bool.eq_false_or_eq_true (sv19.2.2.2.1 == 0) with h443 | h443
    ·have hs := hs.fix 19 (.bool true) rfl (vb h443)
     have hsh := ite_t hc444 h443
     refine st_val hs (y_move rfl) ⟨_, rfl, rfl⟩ rfl rfl fun a hs => ?_
     obtain ⟨rv449, h448, hsh⟩ := bind_t hsh
     refine st_callR hs (made_Dice_Next_ok h448 hw.dom (hw.ins [0] (by decide) rfl) (hw.envAt 0 rfl)) (do_call Tryz.call9 rfl) ⟨_, rfl, rfl⟩ rfl rfl ?_
     intro v456 Sv453 w a h454 h455 hs
     obtain ⟨p450, k451, rfl, h457, h452⟩ := h455
     have hw := hw.callO [0] [1] (by decide) rfl h454 h457
     have hw := hw.addE (e := SlA p450 rv449.2.L.length k451 rv449.2.L) h452
     refine st_val hs (y_eql rfl rfl) ⟨_, rfl, rfl⟩ rfl rfl fun a hs => ?_
     refine sv hs (y_pickT rfl rfl) rfl fun a hs => ?_
     refine wpList_nil ?_
     have hsh := oi hsh
     subst hsh
     refine then_normal ?_
     exact ⟨p450, k451, Sv453, (hs.wk rfl), (hw.ft [0, 1] [0, 2] (by decide) rfl rfl)⟩
    have hs := hs.fix 19 (.bool false) rfl (vb h443)
    have hsh := ite_f hc444 h443
    refine st_skip hs rfl rfl rfl rfl rfl fun a hs => ?_
    refine st_skip hs rfl rfl rfl rfl rfl fun a hs => ?_
    refine st_skip hs rfl rfl rfl rfl rfl fun a hs => ?_
    refine sv hs (y_pickF rfl rfl) rfl fun a hs => ?_
    refine wpList_nil ?_
    have hsh := oi hsh
    subst hsh
    refine then_normal ?_
    exact ⟨p222, k223, Sv227, (hs.wk rfl), (hw.ft [0, 1] [0, 1] (by decide) rfl rfl)⟩
   rintro a w ⟨p445, k446, Sv447, hs, hw⟩
   refine nl ?_
   refine wp_join (fun a w => ∃ (x474 : (List Int)) (x475 : Int) (loud476 : Int) (p471 : Option Addr) (k472 : Nat) (Sv473 : Nat → Prop), made_Dice_Wave_j1 sv19 x474 x475 loud476 = some tv327 ∧ Sl 47 [(0, .pointer (some ⟨b2, 0, none⟩)), (5, .slice p225 sv19.2.2.1.length k226), (6, .int .i64 loud476), (7, .int .i64 sv19.2.2.2.2)] a ∧ Wd ⟨w0, S0, blks [.box b2 [.slice p3 d1.L.length k4, .int .i64 d1.At] 70]⟩ Sv473 [.box b2 [.slice p471 x474.length k472, .int .i64 x475] 70, .row p225 sv19.2.2.1.length k226 c224 3 1] [SlA p471 x474.length k472 x474, RowA c224 sv19.2.2.1] w) ?_ ?_
   ·refine wp_cond_split (hs.ev rfl) (fun h555 => ?_) (fun h555 => ?_)
    ·have hsh := ite_t hsh h555
     refine wp_region_lit ?_
     refine mv hs rfl rfl fun a hs => ?_
     obtain ⟨rv557, h556, hsh⟩ := bind_t hsh
     refine st_callR hs (made_Dice_Next_ok h556 hw.dom (hw.ins [0] (by decide) rfl) (hw.envAt 0 rfl)) (do_call Tryz.call9 rfl) trivial rfl rfl ?_
     intro v564 Sv561 w a h562 h563 hs
     obtain ⟨p558, k559, rfl, h565, h560⟩ := h563
     have hw := hw.callO [0] [1] (by decide) rfl h562 h565
     have hw := hw.addE (e := SlA p558 rv557.2.L.length k559 rv557.2.L) h560
     refine sv hs (y_add rfl rfl) rfl fun a hs => ?_
     obtain ⟨loud567, h566, hsh⟩ := bind_t hsh
     refine sv hs (y_assignI rfl h566) rfl fun a hs => ?_
     refine nl ?_
     exact ⟨rv557.2.L, rv557.2.At, loud567, p558, k559, Sv561, hsh, (hs.wk rfl), (hw.ft [0, 1] [0, 2] (by decide) rfl rfl)⟩
    have hsh := ite_f hsh h555
    refine wp_skip ?_
    refine then_normal ?_
    exact ⟨c444.1, c444.2.1, sv19.2.2.2.1, p445, k446, Sv447, hsh, (hs.wk rfl), (hw.ft [0, 1] [0, 1] (by decide) rfl rfl)⟩
   rintro a w ⟨x474, x475, loud476, p471, k472, Sv473, hsh, hs, hw⟩
   delta made_Dice_Wave_j1 at hsh
   refine then_normal ?_
   refine sr ?_
   refine mv hs rfl rfl fun a hs => ?_
   obtain ⟨rv478, h477, hsh⟩ := bind_t hsh
   refine st_callR hs (made_Dice_Next_ok h477 hw.dom (hw.ins [0] (by decide) rfl) (hw.envAt 0 rfl)) (do_call Tryz.call9 rfl) trivial rfl rfl ?_
   intro v485 Sv482 w a h483 h484 hs
   obtain ⟨p479, k480, rfl, h486, h481⟩ := h484
   have hw := hw.callO [0] [1] (by decide) rfl h483 h486
   have hw := hw.addE (e := SlA p479 rv478.2.L.length k480 rv478.2.L) h481
   refine sv hs (y_sub rfl rfl) rfl fun a hs => ?_
   obtain ⟨x488, h487, hsh⟩ := bind_t hsh
   refine sv hs (y_assignI rfl h487) rfl fun a hs => ?_
   refine nl ?_
   refine wp_seq ?_
   refine sr ?_
   refine mv hs rfl rfl fun a hs => ?_
   refine sv hs (y_gtr rfl rfl) rfl fun a hs => ?_
   refine nl ?_
   refine wp_join (fun a w => ∃ (x517 : (List Int)) (x518 : Int) (loud519 : Int) (x520 : Int) (p514 : Option Addr) (k515 : Nat) (Sv516 : Nat → Prop), made_Dice_Wave_j2 sv19 x517 x518 loud519 x520 = some tv327 ∧ Sl 47 [(0, .pointer (some ⟨b2, 0, none⟩)), (5, .slice p225 sv19.2.2.1.length k226), (6, .int .i64 loud519), (7, .int .i64 sv19.2.2.2.2), (8, .int .i64 x520)] a ∧ Wd ⟨w0, S0, blks [.box b2 [.slice p3 d1.L.length k4, .int .i64 d1.At] 70]⟩ Sv516 [.box b2 [.slice p514 x517.length k515, .int .i64 x518] 70, .row p225 sv19.2.2.1.length k226 c224 3 1] [SlA p514 x517.length k515 x517, RowA c224 sv19.2.2.1] w) ?_ ?_
   ·refine wp_cond_split (hs.ev rfl) (fun h530 => ?_) (fun h530 => ?_)
    ·have hsh := ite_t hsh h530
     refine sr ?_
     refine mv hs rfl rfl fun a hs => ?_
     obtain ⟨rv532, h531, hsh⟩ := bind_t hsh
     refine st_callR hs (made_Dice_Next_ok h531 hw.dom (hw.ins [0] (by decide) rfl) (hw.envAt 0 rfl)) (do_call Tryz.call9 rfl) trivial rfl rfl ?_
     intro v539 Sv536 w a h537 h538 hs
     obtain ⟨p533, k534, rfl, h540, h535⟩ := h538
     have hw := hw.callO [0] [1] (by decide) rfl h537 h540
     have hw := hw.addE (e := SlA p533 rv532.2.L.length k534 rv532.2.L) h535
     refine sv hs (y_add rfl rfl) rfl fun a hs => ?_
     refine mv hs rfl rfl fun a hs => ?_
     obtain ⟨rv542, h541, hsh⟩ := bind_t hsh
     refine st_callR hs (made_Dice_Next_ok h541 hw.dom (hw.ins [0] (by decide) rfl) (hw.envAt 0 rfl)) (do_call Tryz.call9 rfl) trivial rfl rfl ?_
     intro v549 Sv546 w a h547 h548 hs
     obtain ⟨p543, k544, rfl, h550, h545⟩ := h548
     have hw := hw.callO [0] [1] (by decide) rfl h547 h550
     have hw := hw.addE (e := SlA p543 rv542.2.L.length k544 rv542.2.L) h545
     refine sv hs (y_mul rfl rfl) rfl fun a hs => ?_
     refine sv hs (y_sub rfl rfl) rfl fun a hs => ?_
     refine sv hs (y_mul rfl rfl) rfl fun a hs => ?_
     obtain ⟨x552, h551, hsh⟩ := bind_t hsh
     refine sv hs (y_assignI rfl h551) rfl fun a hs => ?_
     refine nl ?_
     refine wp_region_lit ?_
     refine mv hs rfl rfl fun a hs => ?_
     refine sv hs (y_sub rfl rfl) rfl fun a hs => ?_
     obtain ⟨loud554, h553, hsh⟩ := bind_t hsh
     refine sv hs (y_assignI rfl h553) rfl fun a hs => ?_
     refine nl ?_
     exact ⟨rv542.2.L, rv542.2.At, loud554, x552, p543, k544, Sv546, hsh, (hs.wk rfl), (hw.ft [0, 1] [0, 4] (by decide) rfl rfl)⟩
    have hsh := ite_f hsh h530
    refine wp_skip ?_
    refine then_normal ?_
    exact ⟨rv478.2.L, rv478.2.At, loud476, x488, p479, k480, Sv482, hsh, (hs.wk rfl), (hw.ft [0, 1] [0, 2] (by decide) rfl rfl)⟩
   rintro a w ⟨x517, x518, loud519, x520, p514, k515, Sv516, hsh, hs, hw⟩
   delta made_Dice_Wave_j2 at hsh
   refine then_normal ?_
   refine wp_region_lit ?_
   refine mv hs rfl rfl fun a hs => ?_
   refine mv hs rfl rfl fun a hs => ?_
   refine w_litSlice (α := Int) (vs := [.int .i64 x520]) (cs := [.int .i64 x520]) (xs := ([x520] : List Int)) hs hw El22 rfl rfl rfl rfl rfl rfl ⟨⟨_, rfl, rfl⟩, rfl⟩ rfl trivial rfl fun b522 a w hs hw => ?_
   obtain ⟨l524, h523, hsh⟩ := bind_t hsh
   refine w_appendR (α := Int) hs hw El22 2 rfl rfl rfl 2 rfl 0 rfl 0 rfl h523 rfl trivial ?_
   intro p525 k526 c527 a w hs hw
   refine av hs rfl rfl fun a hs => ?_
   refine wpList_nil ?_
   refine blk_normal ?_
   refine then_normal ?_
   refine wp_region_lit ?_
   refine mv hs rfl rfl fun a hs => ?_
   refine sv hs (y_sub rfl rfl) rfl fun a hs => ?_
   obtain ⟨i529, h528, hsh⟩ := bind_t hsh
   refine sv hs (y_assignI rfl h528) rfl fun a hs => ?_
   refine nl ?_
   exact ⟨_, (Option.some.inj hsh).symm, p514, k515, c527, p525, k526, Sv516, (hs.wk rfl), (hw.ft [1, 2] [2, 0] (by decide) rfl rfl)⟩
  have hsh := ite_f hsh h337
  refine wp_exit ?_
  refine then_exit ?_
  refine then_exit ?_
  refine blk_exit ?_
  have hsh := oi hsh
  subst hsh
  have h568 := hd326 _ rfl
  subst h568
  refine then_normal ?_
  exact ⟨p222, k223, c224, p225, k226, Sv227, (hs.wk rfl), (hw.ft [0, 1] [0, 1] (by decide) rfl rfl)⟩
 rintro a w ⟨p330, k331, c332, p333, k334, Sv335, hs, hw⟩
 refine then_normal ?_
 refine sr ?_
 refine mv hs rfl rfl fun a hs => ?_
 refine av hs rfl rfl fun a hs => ?_
 refine nl ?_
 have hsh := oi hsh
 subst hsh
 refine wp_ret ?_
 exact ret1 hs rfl (rv_tmp rfl) (hw.ret ⟨p333, k334, c332, p330, k331, rfl, (hw.outs [1, 0] (by decide) rfl), (hw.envAt 1 rfl), (hw.envAt 0 rfl)⟩)
end Go.Proofs.YtmlekplbmfengaaGreat.Wk

/- The walks of RecordExact, part 5: each Go function computes what its plain program computes. Printed by a program of ours. -/
import Derived.Test.YtdifjkamipeibaaProg
import Derived.Test.YtdifjkamipeibaaDat
import Derived.Test.YtdifjkamipeibaaSh
import Derived.Test.YtdifjkamipeibaaLibL
import Derived.KernelRfl
import Derived.Test.YtdifjkamipeibaaWRecordExact4
namespace Go.Proofs.Ytdifjkamipeibaa.Wk
open Go Go.RowKit Go.Proofs Go.Proofs.Ytdifjkamipeibaa.Sh
set_option linter.unusedVariables false
set_option linter.unusedSimpArgs false

abbrev law14_RecordExact_rd (w0 : World) (X : List Nat) (r : Bool) : (Nat → Prop) → World → Value → Prop := fun S w v => v = .bool r
abbrev D6t1 (b12 : Nat) (b39 : Nat) (b58 : Nat) (i9 : Int) (j10 : Int) (k11 : Int) : Slots := [(2, .int .i64 i9), (3, .int .i64 j10), (4, .int .i64 k11), (6, .pointer (some ⟨b12, 0, none⟩)), (11, .pointer (some ⟨b39, 0, none⟩)), (12, .pointer (some ⟨b58, 0, none⟩))]
abbrev D6t2 (b39 : Nat) (b77 : Nat) (b78 : Nat) (k62 : Nat) (k71 : Nat) (p61 : Option Addr) (p70 : Option Addr) (rv49 : (SourceID × Dice)) (rv60 : (Record × Dice)) (rv69 : (Record × Dice)) : Vs := [(0, 63, .pointer (some ⟨b39, 0, none⟩)), (1, 64, .agg #[.string rv49.1.Network, .string rv49.1.Station, .string rv49.1.Location, .string rv49.1.Channel]), (2, 65, .agg #[.string rv60.1.Source.Network, .string rv60.1.Source.Station, .string rv60.1.Source.Location, .string rv60.1.Source.Channel, .int .i64 rv60.1.Start, .int .i64 rv60.1.First, .int .i64 rv60.1.Rate.Num, .int .i64 rv60.1.Rate.Den, .int .i64 rv60.1.Error, .int .i64 rv60.1.Run, .int .i64 rv60.1.Seq, .slice p61 rv60.1.Samples.length k62]), (3, 66, .pointer (some ⟨b39, 0, none⟩)), (4, 67, .agg #[.string rv49.1.Network, .string rv49.1.Station, .string rv49.1.Location, .string rv49.1.Channel]), (5, 68, .agg #[.string rv69.1.Source.Network, .string rv69.1.Source.Station, .string rv69.1.Source.Location, .string rv69.1.Source.Channel, .int .i64 rv69.1.Start, .int .i64 rv69.1.First, .int .i64 rv69.1.Rate.Num, .int .i64 rv69.1.Rate.Den, .int .i64 rv69.1.Error, .int .i64 rv69.1.Run, .int .i64 rv69.1.Seq, .slice p70 rv69.1.Samples.length k71]), (6, 13, .pointer (some ⟨b77, 0, none⟩)), (7, 14, .pointer (some ⟨b78, 0, none⟩))]
abbrev D6t3 : List Value := [.int .i64 0, .int .i64 250000, .int .i64 3000000, .int .i64 9007199254740992]
abbrev D6t4 : List Int := ([0, 250000, 3000000, 9007199254740992] : List Int)
set_option maxHeartbeats 4000000 in
set_option maxRecDepth 100000 in
theorem law14_RecordExact_ok {w0 : World} {S0 : Nat → Prop} {p2 : Option Addr} {k3 : Nat} {p6 : Option Addr} {k7 : Nat} {t1 : (List Int)} {raw5 : Record} {i9 : Int} {j10 : Int} {k11 : Int} {r : Bool} (hsh : law14_RecordExact t1 raw5 i9 j10 k11 = some r) (hS : ∀ b, S0 b → b < w0.heap.size) (h4 : (SlA p2 t1.length k3 t1).p S0 w0) (h8 : (SlA p6 raw5.Samples.length k7 raw5.Samples).p S0 w0) : Calls Try.prog 6 #[.slice p2 t1.length k3, .agg #[.string raw5.Source.Network, .string raw5.Source.Station, .string raw5.Source.Location, .string raw5.Source.Channel, .int .i64 raw5.Start, .int .i64 raw5.First, .int .i64 raw5.Rate.Num, .int .i64 raw5.Rate.Den, .int .i64 raw5.Error, .int .i64 raw5.Run, .int .i64 raw5.Seq, .slice p6 raw5.Samples.length k7], .int .i64 i9, .int .i64 j10, .int .i64 k11] w0 (Ret ([]) w0 S0 (law14_RecordExact_rd w0 ([]) r)) := by
 refine calls_of_wp Try.func6 rfl ?_
 have hs := Sl.enter #[.slice p2 t1.length k3, .agg #[.string raw5.Source.Network, .string raw5.Source.Station, .string raw5.Source.Location, .string raw5.Source.Channel, .int .i64 raw5.Start, .int .i64 raw5.First, .int .i64 raw5.Rate.Num, .int .i64 raw5.Rate.Den, .int .i64 raw5.Error, .int .i64 raw5.Run, .int .i64 raw5.Seq, .slice p6 raw5.Samples.length k7], .int .i64 i9, .int .i64 j10, .int .i64 k11] 365 [(0, .slice p2 t1.length k3), (1, .agg #[.string raw5.Source.Network, .string raw5.Source.Station, .string raw5.Source.Location, .string raw5.Source.Channel, .int .i64 raw5.Start, .int .i64 raw5.First, .int .i64 raw5.Rate.Num, .int .i64 raw5.Rate.Den, .int .i64 raw5.Error, .int .i64 raw5.Run, .int .i64 raw5.Seq, .slice p6 raw5.Samples.length k7]), (2, .int .i64 i9), (3, .int .i64 j10), (4, .int .i64 k11)] rfl ⟨rfl, rfl, rfl, rfl, rfl, trivial⟩
 have hw := Wd.enter (E := []) hS (fun _ h => (by cases h))
 have hw := hw.addE h4
 have hw := hw.addE h8
 delta law14_RecordExact at hsh
 refine wp_seq ?_
 refine wp_region_lit ?_
 refine w_box (cs := [.string raw5.Source.Network, .string raw5.Source.Station, .string raw5.Source.Location, .string raw5.Source.Channel, .int .i64 raw5.Start, .int .i64 raw5.First, .int .i64 raw5.Rate.Num, .int .i64 raw5.Rate.Den, .int .i64 raw5.Error, .int .i64 raw5.Run, .int .i64 raw5.Seq, .slice p6 raw5.Samples.length k7]) hs hw rfl rfl rfl trivial ?_
 intro b12 a w hs hw
 refine st_val hs (y_assign rfl) trivial rfl rfl fun a hs => ?_
 refine wpList_nil ?_
 refine then_normal ?_
 refine wp_seq ?_
 refine wp_seq ?_
 refine wp_region_lit ?_
 refine st_val hs (y_move rfl) trivial rfl rfl fun a hs => ?_
 obtain ⟨rv14, h13, hsh⟩ := bind_t hsh
 refine st_callR hs (made_Light_ok h13 hw.bdom (hw.bE 1 rfl)) (do_call Try.call7 rfl) trivial rfl rfl ?_
 intro v18 Sv15 w a h16 h17 hs
 subst h17
 have hw := hw.callB h16
 refine st_val hs (y_not rfl) trivial rfl rfl fun a hs => ?_
 refine st_val hs (y_move rfl) trivial rfl rfl fun a hs => ?_
 refine wpl_join 5 (fun a w1 => w = w1 ∧ Sl 365 [(0, .slice p2 t1.length k3), (2, .int .i64 i9), (3, .int .i64 j10), (4, .int .i64 k11), (6, .pointer (some ⟨b12, 0, none⟩)), (57, .bool ((!rv14) || (decide (100 < (raw5.Samples.length : Int)))))] a) ?_ ?_
 ·rcases Bool.eq_false_or_eq_true (!rv14) with h20 | h20
  ·have hs := hs.fix 52 (.bool true) rfl (vb h20)
   refine st_skip hs rfl rfl rfl rfl rfl fun a hs => ?_
   refine st_skip hs rfl rfl rfl rfl rfl fun a hs => ?_
   refine st_skip hs rfl rfl rfl rfl rfl fun a hs => ?_
   refine st_skip hs rfl rfl rfl rfl rfl fun a hs => ?_
   refine st_val hs (y_pickT rfl rfl) trivial rfl rfl fun a hs => ?_
   refine wpList_nil ?_
   refine then_normal ?_
   exact ⟨rfl, (hs.fix 57 (.bool ((!rv14) || (decide (100 < (raw5.Samples.length : Int))))) rfl (or_t h20)).weaken _ ⟨rfl, rfl, rfl, rfl, rfl, rfl, trivial⟩⟩
  ·have hs := hs.fix 52 (.bool false) rfl (vb h20)
   refine st_val hs (y_fieldAddr (o' := 11) Try.runUnderlying32 rfl Try.sizeOf22 rfl rfl rfl) ⟨_, rfl, rfl⟩ rfl rfl fun a hs => ?_
   refine st_val hs (y_loadB1 (hw.ownAt 0 rfl) rfl Try.isAgg22 rfl) ⟨_, rfl, rfl⟩ rfl rfl fun a hs => ?_
   refine st_val hs (y_len Try.runUnderlying22 rfl) ⟨_, rfl, rfl⟩ rfl rfl fun a hs => ?_
   refine st_val hs (y_gtr rfl rfl) ⟨_, rfl, rfl⟩ rfl rfl fun a hs => ?_
   refine st_val hs (y_pickF rfl rfl) trivial rfl rfl fun a hs => ?_
   refine wpList_nil ?_
   refine then_normal ?_
   exact ⟨rfl, (hs.fix 57 (.bool ((!rv14) || (decide (100 < (raw5.Samples.length : Int))))) rfl (or_f h20)).weaken _ ⟨rfl, rfl, rfl, rfl, rfl, rfl, trivial⟩⟩
 ·rintro a w1 ⟨h7515, hs⟩
  subst h7515
  refine wpList_nil ?_
  refine then_normal ?_
  refine wp_cond_split (hs.ev rfl) (fun h29 => ?_) (fun h29 => ?_)
  ·have hsh := ite_t hsh h29
   refine wp_seq ?_
   refine wp_region_lit ?_
   obtain ⟨rv31, h30, hsh⟩ := bind_t hsh
   refine st_callR hs (law14_sane_ok h30 hw.bdom) (do_call Try.call8 rfl) trivial rfl rfl ?_
   intro v35 Sv32 w a h33 h34 hs
   subst h34
   have hw := hw.callB h33
   refine st_val hs (y_assign rfl) trivial rfl rfl fun a hs => ?_
   refine wpList_nil ?_
   refine then_normal ?_
   have hsh := Option.some.inj hsh
   subst hsh
   refine wp_ret ?_
   refine then_ret ?_
   exact ret1 hs rfl (rv_tmp rfl) (hw.ret rfl)
  ·have hsh := ite_f hsh h29
   refine wp_skip ?_
   refine then_normal ?_
   refine wp_seq ?_
   refine wp_region_lit ?_
   refine st_val hs (y_move rfl) trivial rfl rfl fun a hs => ?_
   obtain ⟨rv38, h37, hsh⟩ := bind_t hsh
   refine st_callR hs (made_Roll_ok h37 hw.dom (hw.envAt 1 rfl)) (do_call Try.call9 rfl) trivial rfl rfl ?_
   intro v46 Sv43 w a h44 h45 hs
   obtain ⟨b39, p40, k41, rfl, h47, h42⟩ := h45
   have hw := hw.callN h44 h47
   have hw := hw.addE (e := SlA p40 rv38.L.length k41 rv38.L) h42
   refine st_val hs (y_assign rfl) trivial rfl rfl fun a hs => ?_
   refine wpList_nil ?_
   refine then_normal ?_
   refine wp_seq ?_
   refine wp_region_lit ?_
   refine st_val hs (y_move rfl) trivial rfl rfl fun a hs => ?_
   obtain ⟨rv49, h48, hsh⟩ := bind_t hsh
   refine st_callR hs (made_Dice_Source_ok h48 hw.dom (hw.ins [0] (by decide) rfl) (hw.envAt 0 rfl)) (do_call Try.call11 rfl) trivial rfl rfl ?_
   intro v56 Sv53 w a h54 h55 hs
   obtain ⟨p50, k51, rfl, h57, h52⟩ := h55
   have hw := hw.callO [0] [1] (by decide) rfl h54 h57
   have hw := hw.addE (e := SlA p50 rv49.2.L.length k51 rv49.2.L) h52
   refine w_alloc (cs := [.string ByteArray.empty, .string ByteArray.empty, .string ByteArray.empty, .string ByteArray.empty]) hs hw Try.zeroValue28 rfl rfl trivial ?_
   intro b58 a w hs hw
   refine w_store (m := 4) (cs' := [.string rv49.1.Network, .string rv49.1.Station, .string rv49.1.Location, .string rv49.1.Channel]) hs hw 0 rfl rfl rfl Try.sizeOf28 rfl rfl rfl rfl trivial ?_
   intro a w hs hw
   refine wpList_nil ?_
   refine then_normal ?_
   refine wp_seq ?_
   obtain ⟨rv60, h59, hsh⟩ := bind_t hsh
   obtain ⟨rv69, h68, hsh⟩ := bind_t hsh
   refine wp_only (fun a w => ∃ (Sv79 : Nat → Prop) (b77 : Nat) (b78 : Nat) (c64 : List Value) (c73 : List Value) (k62 : Nat) (k71 : Nat) (k75 : Nat) (p61 : Option Addr) (p70 : Option Addr) (p74 : Option Addr), Sl 365 [(2, .int .i64 i9), (3, .int .i64 j10), (4, .int .i64 k11), (6, .pointer (some ⟨b12, 0, none⟩)), (11, .pointer (some ⟨b39, 0, none⟩)), (13, .pointer (some ⟨b77, 0, none⟩)), (14, .pointer (some ⟨b78, 0, none⟩))] a ∧ Wd ⟨w0, S0, []⟩ Sv79 [.box b12 [.string raw5.Source.Network, .string raw5.Source.Station, .string raw5.Source.Location, .string raw5.Source.Channel, .int .i64 raw5.Start, .int .i64 raw5.First, .int .i64 raw5.Rate.Num, .int .i64 raw5.Rate.Den, .int .i64 raw5.Error, .int .i64 raw5.Run, .int .i64 raw5.Seq, .slice p6 raw5.Samples.length k7] 32, .box b39 [.slice p74 rv69.2.L.length k75, .int .i64 rv69.2.At] 60, .box b77 [.string rv60.1.Source.Network, .string rv60.1.Source.Station, .string rv60.1.Source.Location, .string rv60.1.Source.Channel, .int .i64 rv60.1.Start, .int .i64 rv60.1.First, .int .i64 rv60.1.Rate.Num, .int .i64 rv60.1.Rate.Den, .int .i64 rv60.1.Error, .int .i64 rv60.1.Run, .int .i64 rv60.1.Seq, .slice p61 rv60.1.Samples.length k62] 32, .box b78 [.string rv69.1.Source.Network, .string rv69.1.Source.Station, .string rv69.1.Source.Location, .string rv69.1.Source.Channel, .int .i64 rv69.1.Start, .int .i64 rv69.1.First, .int .i64 rv69.1.Rate.Num, .int .i64 rv69.1.Rate.Den, .int .i64 rv69.1.Error, .int .i64 rv69.1.Run, .int .i64 rv69.1.Seq, .slice p70 rv69.1.Samples.length k71] 32, .row p61 rv60.1.Samples.length k62 c64 3 1, .row p70 rv69.1.Samples.length k71 c73 3 1] [SlA p6 raw5.Samples.length k7 raw5.Samples, SlA p74 rv69.2.L.length k75 rv69.2.L, RowA c64 rv60.1.Samples, RowA c73 rv69.1.Samples] w) ?_ ?_
   ·refine wp_region_phi (n := 10) (Φ := fun l a w => ∃ (b77 : Nat) (b78 : Nat) (c64 : List Value) (c73 : List Value) (k62 : Nat) (k66 : Nat) (k71 : Nat) (k75 : Nat) (p61 : Option Addr) (p65 : Option Addr) (p70 : Option Addr) (p74 : Option Addr) (S : Nat → Prop), SlF 365 (D6t1 b12 b39 b58 i9 j10 k11) (D6t2 b39 b77 b78 k62 k71 p61 p70 rv49 rv60 rv69) l a ∧ Wd ⟨w0, S0, []⟩ S [.box b58 [.string rv49.1.Network, .string rv49.1.Station, .string rv49.1.Location, .string rv49.1.Channel] 28, ((bif l 5 then .box b39 [.slice p74 rv69.2.L.length k75, .int .i64 rv69.2.At] 60 else (bif l 2 then .box b39 [.slice p65 rv60.2.L.length k66, .int .i64 rv60.2.At] 60 else .box b39 [.slice p50 rv49.2.L.length k51, .int .i64 rv49.2.At] 60)) : Res), .box b12 [.string raw5.Source.Network, .string raw5.Source.Station, .string raw5.Source.Location, .string raw5.Source.Channel, .int .i64 raw5.Start, .int .i64 raw5.First, .int .i64 raw5.Rate.Num, .int .i64 raw5.Rate.Den, .int .i64 raw5.Error, .int .i64 raw5.Run, .int .i64 raw5.Seq, .slice p6 raw5.Samples.length k7] 32, ((bif l 2 then .row p61 rv60.1.Samples.length k62 c64 3 1 else emp) : Res), ((bif l 5 then .row p70 rv69.1.Samples.length k71 c73 3 1 else emp) : Res), ((bif l 8 then .box b77 [.string rv60.1.Source.Network, .string rv60.1.Source.Station, .string rv60.1.Source.Location, .string rv60.1.Source.Channel, .int .i64 rv60.1.Start, .int .i64 rv60.1.First, .int .i64 rv60.1.Rate.Num, .int .i64 rv60.1.Rate.Den, .int .i64 rv60.1.Error, .int .i64 rv60.1.Run, .int .i64 rv60.1.Seq, .slice p61 rv60.1.Samples.length k62] 32 else (bif l 6 then .box b77 [.string ByteArray.empty, .string ByteArray.empty, .string ByteArray.empty, .string ByteArray.empty, .int .i64 0, .int .i64 0, .int .i64 0, .int .i64 0, .int .i64 0, .int .i64 0, .int .i64 0, .slice none ([] : List Int).length 0] 32 else emp)) : Res), ((bif l 9 then .box b78 [.string rv69.1.Source.Network, .string rv69.1.Source.Station, .string rv69.1.Source.Location, .string rv69.1.Source.Channel, .int .i64 rv69.1.Start, .int .i64 rv69.1.First, .int .i64 rv69.1.Rate.Num, .int .i64 rv69.1.Rate.Den, .int .i64 rv69.1.Error, .int .i64 rv69.1.Run, .int .i64 rv69.1.Seq, .slice p70 rv69.1.Samples.length k71] 32 else (bif l 7 then .box b78 [.string ByteArray.empty, .string ByteArray.empty, .string ByteArray.empty, .string ByteArray.empty, .int .i64 0, .int .i64 0, .int .i64 0, .int .i64 0, .int .i64 0, .int .i64 0, .int .i64 0, .slice none ([] : List Int).length 0] 32 else emp)) : Res)] [SlA p50 rv49.2.L.length k51 rv49.2.L, SlA p40 rv38.L.length k41 rv38.L, SlA p6 raw5.Samples.length k7 raw5.Samples, SlA p2 t1.length k3 t1, optA (l 2) (RowA c64 rv60.1.Samples), optA (l 2) (SlA p65 rv60.2.L.length k66 rv60.2.L), optA (l 5) (RowA c73 rv69.1.Samples), optA (l 5) (SlA p74 rv69.2.L.length k75 rv69.2.L)] w) [1, 1, 2, 1, 1, 3, 1, 1, 4, 5] (by kernel_rfl) rfl (by kernel_rfl) ?_ (AllS.succ (AllS.succ (AllS.succ (AllS.succ (AllS.succ (AllS.succ (AllS.succ (AllS.succ (AllS.succ (AllS.succ AllS.zero ?_) ?_) ?_) ?_) ?_) ?_) ?_) ?_) ?_) ?_) ?_
    ·obtain ⟨b77, b78, c64, c73, k62, k66, k71, k75, p61, p65, p70, p74, _⟩ : ∃ (b77 : Nat) (b78 : Nat) (c64 : List Value) (c73 : List Value) (k62 : Nat) (k66 : Nat) (k71 : Nat) (k75 : Nat) (p61 : Option Addr) (p65 : Option Addr) (p70 : Option Addr) (p74 : Option Addr), True := ⟨0, 0, [], [], 0, 0, 0, 0, none, none, none, none, trivial⟩
     have hw := hw.drew
     have hw := hw.emp
     have hw := hw.emp
     have hw := hw.emp
     have hw := hw.emp
     have hw := hw.noE (SlA p74 rv69.2.L.length k75 rv69.2.L)
     have hw := hw.noE (RowA c73 rv69.1.Samples)
     have hw := hw.noE (SlA p65 rv60.2.L.length k66 rv60.2.L)
     have hw := hw.noE (RowA c64 rv60.1.Samples)
     exact ⟨b77, b78, c64, c73, k62, k66, k71, k75, p61, p65, p70, p74, Sv53, SlF.init (hs.wk rfl) (by kernel_rfl), hw.ft [4, 5, 6, 0, 1, 2, 3] [4, 5, 6, 7, 0, 1, 2, 3] (by decide) rfl rfl⟩
    ·intro l hi hp hc a w ⟨b77, b78, c64, c73, k62, k66, k71, k75, p61, p65, p70, p74, S, hS, hw⟩
     refine S_val hS (.b (t := 11) rfl .nil) rfl rfl trivial (y_move rfl) (rfl) 0 rfl fun a hS => ⟨b77, b78, c64, c73, k62, k66, k71, k75, p61, p65, p70, p74, S, hS, hw⟩
    ·intro l hi hp hc a w ⟨b77, b78, c64, c73, k62, k66, k71, k75, p61, p65, p70, p74, S, hS, hw⟩
     refine S_val hS (.b (t := 12) rfl .nil) rfl rfl trivial (y_loadBA (hw.ownAt 0 rfl) rfl Try.isAgg28 Try.sizeOf28 rfl rfl) (rfl) 1 rfl fun a hS => ⟨b77, b78, c64, c73, k62, k66, k71, k75, p61, p65, p70, p74, S, hS, hw⟩
    ·intro l hi hp hc a w ⟨b77, b78, c64, c73, k62, k66, k71, k75, p61, p65, p70, p74, S, hS, hw⟩
     have h_5 := l_neg hc 5 hi rfl
     have hw := hw.fixR 1 (r' := .box b39 [.slice p50 rv49.2.L.length k51, .int .i64 rv49.2.At] 60) rfl ((bF h_5).trans ((bF hi)))
     have h_1 := hp 1 rfl
     have h_0 := hp 0 rfl
     refine S_eff rfl ?_
     have hs := hS.open_ (.v (t := 63) 0 rfl h_0 (.v (t := 64) 1 rfl h_1 .nil))
     refine st_callR hs (made_Dice_Record_ok h59 hw.dom (hw.ins [1] (by decide) rfl) (hw.envAt 0 rfl)) (do_call Try.call10 rfl) trivial rfl rfl ?_
     intro v98 Sv95 w a h96 h97 hs
     obtain ⟨p61, k62, c64, p65, k66, rfl, h99, h63, h67⟩ := h97
     have hw := hw.callO [1] [0, 2, 3, 4, 5, 6] (by decide) rfl h96 h99
     have hw := hw.addE (e := RowA c64 rv60.1.Samples) h63
     have hw := hw.addE (e := SlA p65 rv60.2.L.length k66 rv60.2.L) h67
     have hw := hw.fixR 1 (r' := (bif l 5 then .box b39 [.slice p74 rv69.2.L.length k75, .int .i64 rv69.2.At] 60 else .box b39 [.slice p65 rv60.2.L.length k66, .int .i64 rv60.2.At] 60)) rfl ((bF h_5)).symm
     have h_8 := l_neg hc 8 hi rfl
     have hw := hw.fixR 6 (r' := (bif l 6 then .box b77 [.string ByteArray.empty, .string ByteArray.empty, .string ByteArray.empty, .string ByteArray.empty, .int .i64 0, .int .i64 0, .int .i64 0, .int .i64 0, .int .i64 0, .int .i64 0, .int .i64 0, .slice none ([] : List Int).length 0] 32 else emp)) rfl ((bF h_8))
     have hw := hw.fixR 6 (r' := (bif l 8 then .box b77 [.string rv60.1.Source.Network, .string rv60.1.Source.Station, .string rv60.1.Source.Location, .string rv60.1.Source.Channel, .int .i64 rv60.1.Start, .int .i64 rv60.1.First, .int .i64 rv60.1.Rate.Num, .int .i64 rv60.1.Rate.Den, .int .i64 rv60.1.Error, .int .i64 rv60.1.Run, .int .i64 rv60.1.Seq, .slice p61 rv60.1.Samples.length k62] 32 else (bif l 6 then .box b77 [.string ByteArray.empty, .string ByteArray.empty, .string ByteArray.empty, .string ByteArray.empty, .int .i64 0, .int .i64 0, .int .i64 0, .int .i64 0, .int .i64 0, .int .i64 0, .int .i64 0, .slice none ([] : List Int).length 0] 32 else emp))) rfl ((bF h_8)).symm
     have hw := hw.opt 1 rfl true
     have hw := hw.opt 1 rfl true
     refine wpList_nil ?_
     refine then_normal ?_
     exact ⟨b77, b78, c64, c73, k62, k66, k71, k75, p61, p65, p70, p74, Sv95, hS.close (.v (t := 63) 0 rfl h_0 (.v (t := 64) 1 rfl h_1 .nil)) hs rfl (.same (.same (.here (.same (.same (.same (.same (.same .nil)))))))) 2 rfl, hw.ft [2, 1, 3, 0, 5, 6, 7] [4, 5, 6, 7, 1, 0, 10, 11] (by decide) rfl rfl⟩
    ·intro l hi hp hc a w ⟨b77, b78, c64, c73, k62, k66, k71, k75, p61, p65, p70, p74, S, hS, hw⟩
     refine S_val hS (.b (t := 11) rfl .nil) rfl rfl trivial (y_move rfl) (rfl) 3 rfl fun a hS => ⟨b77, b78, c64, c73, k62, k66, k71, k75, p61, p65, p70, p74, S, hS, hw⟩
    ·intro l hi hp hc a w ⟨b77, b78, c64, c73, k62, k66, k71, k75, p61, p65, p70, p74, S, hS, hw⟩
     refine S_val hS (.b (t := 12) rfl .nil) rfl rfl trivial (y_loadBA (hw.ownAt 0 rfl) rfl Try.isAgg28 Try.sizeOf28 rfl rfl) (rfl) 4 rfl fun a hS => ⟨b77, b78, c64, c73, k62, k66, k71, k75, p61, p65, p70, p74, S, hS, hw⟩
    ·intro l hi hp hc a w ⟨b77, b78, c64, c73, k62, k66, k71, k75, p61, p65, p70, p74, S, hS, hw⟩
     have h_2 := hp 2 rfl
     have hw := hw.fixR 1 (r' := .box b39 [.slice p65 rv60.2.L.length k66, .int .i64 rv60.2.At] 60) rfl ((bF hi).trans ((bT h_2)))
     have hw := hw.yes 5 rfl h_2
     have h_4 := hp 4 rfl
     have h_3 := hp 3 rfl
     refine S_eff rfl ?_
     have hs := hS.open_ (.v (t := 66) 3 rfl h_3 (.v (t := 67) 4 rfl h_4 .nil))
     refine st_callR hs (made_Dice_Record_ok h68 hw.dom (hw.ins [1] (by decide) rfl) (hw.envAt 0 rfl)) (do_call Try.call10 rfl) trivial rfl rfl ?_
     intro v108 Sv105 w a h106 h107 hs
     obtain ⟨p70, k71, c73, p74, k75, rfl, h109, h72, h76⟩ := h107
     have hw := hw.callO [1] [0, 2, 3, 4, 5, 6] (by decide) rfl h106 h109
     have hw := hw.addE (e := RowA c73 rv69.1.Samples) h72
     have hw := hw.addE (e := SlA p74 rv69.2.L.length k75 rv69.2.L) h76
     have h_9 := l_neg hc 9 hi rfl
     have hw := hw.fixR 7 (r' := (bif l 7 then .box b78 [.string ByteArray.empty, .string ByteArray.empty, .string ByteArray.empty, .string ByteArray.empty, .int .i64 0, .int .i64 0, .int .i64 0, .int .i64 0, .int .i64 0, .int .i64 0, .int .i64 0, .slice none ([] : List Int).length 0] 32 else emp)) rfl ((bF h_9))
     have hw := hw.fixR 7 (r' := (bif l 9 then .box b78 [.string rv69.1.Source.Network, .string rv69.1.Source.Station, .string rv69.1.Source.Location, .string rv69.1.Source.Channel, .int .i64 rv69.1.Start, .int .i64 rv69.1.First, .int .i64 rv69.1.Rate.Num, .int .i64 rv69.1.Rate.Den, .int .i64 rv69.1.Error, .int .i64 rv69.1.Run, .int .i64 rv69.1.Seq, .slice p70 rv69.1.Samples.length k71] 32 else (bif l 7 then .box b78 [.string ByteArray.empty, .string ByteArray.empty, .string ByteArray.empty, .string ByteArray.empty, .int .i64 0, .int .i64 0, .int .i64 0, .int .i64 0, .int .i64 0, .int .i64 0, .int .i64 0, .slice none ([] : List Int).length 0] 32 else emp))) rfl ((bF h_9)).symm
     have hw := hw.opt 1 rfl true
     have hw := hw.opt 1 rfl true
     refine wpList_nil ?_
     refine then_normal ?_
     exact ⟨b77, b78, c64, c73, k62, k66, k71, k75, p61, p65, p70, p74, Sv105, hS.close (.v (t := 66) 3 rfl h_3 (.v (t := 67) 4 rfl h_4 .nil)) hs rfl (.same (.same (.same (.same (.same (.here (.same (.same .nil)))))))) 5 rfl, hw.ft [2, 1, 3, 4, 0, 6, 7] [5, 6, 7, 8, 9, 10, 1, 0] (by decide) rfl rfl⟩
    ·intro l hi hp hc a w ⟨b77, b78, c64, c73, k62, k66, k71, k75, p61, p65, p70, p74, S, hS, hw⟩
     refine S_eff rfl ?_
     have hs := hS.open_ .nil
     refine w_alloc (cs := [.string ByteArray.empty, .string ByteArray.empty, .string ByteArray.empty, .string ByteArray.empty, .int .i64 0, .int .i64 0, .int .i64 0, .int .i64 0, .int .i64 0, .int .i64 0, .int .i64 0, .slice none ([] : List Int).length 0]) hs hw Try.zeroValue32 rfl rfl trivial ?_
     intro b77 a w hs hw
     have h_8 := l_neg hc 8 hi rfl
     have hw := hw.fixR 0 (r' := (bif l 8 then .box b77 [.string rv60.1.Source.Network, .string rv60.1.Source.Station, .string rv60.1.Source.Location, .string rv60.1.Source.Channel, .int .i64 rv60.1.Start, .int .i64 rv60.1.First, .int .i64 rv60.1.Rate.Num, .int .i64 rv60.1.Rate.Den, .int .i64 rv60.1.Error, .int .i64 rv60.1.Run, .int .i64 rv60.1.Seq, .slice p61 rv60.1.Samples.length k62] 32 else .box b77 [.string ByteArray.empty, .string ByteArray.empty, .string ByteArray.empty, .string ByteArray.empty, .int .i64 0, .int .i64 0, .int .i64 0, .int .i64 0, .int .i64 0, .int .i64 0, .int .i64 0, .slice none ([] : List Int).length 0] 32)) rfl ((bF h_8)).symm
     refine wpList_nil ?_
     refine then_normal ?_
     exact ⟨b77, b78, c64, c73, k62, k66, k71, k75, p61, p65, p70, p74, S, hS.close .nil hs rfl (.same (.same (.same (.same (.same (.same (.here (.same .nil)))))))) 6 rfl, hw.ft [1, 2, 3, 4, 5, 0, 7] [0, 1, 2, 3, 4, 5, 6, 7] (by decide) rfl rfl⟩
    ·intro l hi hp hc a w ⟨b77, b78, c64, c73, k62, k66, k71, k75, p61, p65, p70, p74, S, hS, hw⟩
     refine S_eff rfl ?_
     have hs := hS.open_ .nil
     refine w_alloc (cs := [.string ByteArray.empty, .string ByteArray.empty, .string ByteArray.empty, .string ByteArray.empty, .int .i64 0, .int .i64 0, .int .i64 0, .int .i64 0, .int .i64 0, .int .i64 0, .int .i64 0, .slice none ([] : List Int).length 0]) hs hw Try.zeroValue32 rfl rfl trivial ?_
     intro b78 a w hs hw
     have h_9 := l_neg hc 9 hi rfl
     have hw := hw.fixR 0 (r' := (bif l 9 then .box b78 [.string rv69.1.Source.Network, .string rv69.1.Source.Station, .string rv69.1.Source.Location, .string rv69.1.Source.Channel, .int .i64 rv69.1.Start, .int .i64 rv69.1.First, .int .i64 rv69.1.Rate.Num, .int .i64 rv69.1.Rate.Den, .int .i64 rv69.1.Error, .int .i64 rv69.1.Run, .int .i64 rv69.1.Seq, .slice p70 rv69.1.Samples.length k71] 32 else .box b78 [.string ByteArray.empty, .string ByteArray.empty, .string ByteArray.empty, .string ByteArray.empty, .int .i64 0, .int .i64 0, .int .i64 0, .int .i64 0, .int .i64 0, .int .i64 0, .int .i64 0, .slice none ([] : List Int).length 0] 32)) rfl ((bF h_9)).symm
     refine wpList_nil ?_
     refine then_normal ?_
     exact ⟨b77, b78, c64, c73, k62, k66, k71, k75, p61, p65, p70, p74, S, hS.close .nil hs rfl (.same (.same (.same (.same (.same (.same (.same (.here .nil)))))))) 7 rfl, hw.ft [1, 2, 3, 4, 5, 6, 0] [0, 1, 2, 3, 4, 5, 6, 7] (by decide) rfl rfl⟩
    ·intro l hi hp hc a w ⟨b77, b78, c64, c73, k62, k66, k71, k75, p61, p65, p70, p74, S, hS, hw⟩
     have h_6 := hp 6 rfl
     have hw := hw.fixR 5 (r' := .box b77 [.string ByteArray.empty, .string ByteArray.empty, .string ByteArray.empty, .string ByteArray.empty, .int .i64 0, .int .i64 0, .int .i64 0, .int .i64 0, .int .i64 0, .int .i64 0, .int .i64 0, .slice none ([] : List Int).length 0] 32) rfl ((bF hi).trans ((bT h_6)))
     have h_2 := hp 2 rfl
     refine S_eff rfl ?_
     have hs := hS.open_ (.v (t := 13) 6 rfl h_6 (.v (t := 65) 2 rfl h_2 .nil))
     refine w_store (m := 12) (cs' := [.string rv60.1.Source.Network, .string rv60.1.Source.Station, .string rv60.1.Source.Location, .string rv60.1.Source.Channel, .int .i64 rv60.1.Start, .int .i64 rv60.1.First, .int .i64 rv60.1.Rate.Num, .int .i64 rv60.1.Rate.Den, .int .i64 rv60.1.Error, .int .i64 rv60.1.Run, .int .i64 rv60.1.Seq, .slice p61 rv60.1.Samples.length k62]) hs hw 5 rfl rfl rfl Try.sizeOf32 rfl rfl rfl rfl trivial ?_
     intro a w hs hw
     refine wpList_nil ?_
     refine then_normal ?_
     exact ⟨b77, b78, c64, c73, k62, k66, k71, k75, p61, p65, p70, p74, S, hS.close0 (.v (t := 13) 6 rfl h_6 (.v (t := 65) 2 rfl h_2 .nil)) hs rfl, hw.ft [0, 1, 2, 3, 4, 5, 6] [0, 1, 2, 3, 4, 5, 6, 7] (by decide) rfl rfl⟩
    ·intro l hi hp hc a w ⟨b77, b78, c64, c73, k62, k66, k71, k75, p61, p65, p70, p74, S, hS, hw⟩
     have h_7 := hp 7 rfl
     have hw := hw.fixR 6 (r' := .box b78 [.string ByteArray.empty, .string ByteArray.empty, .string ByteArray.empty, .string ByteArray.empty, .int .i64 0, .int .i64 0, .int .i64 0, .int .i64 0, .int .i64 0, .int .i64 0, .int .i64 0, .slice none ([] : List Int).length 0] 32) rfl ((bF hi).trans ((bT h_7)))
     have h_5 := hp 5 rfl
     refine S_eff rfl ?_
     have hs := hS.open_ (.v (t := 14) 7 rfl h_7 (.v (t := 68) 5 rfl h_5 .nil))
     refine w_store (m := 12) (cs' := [.string rv69.1.Source.Network, .string rv69.1.Source.Station, .string rv69.1.Source.Location, .string rv69.1.Source.Channel, .int .i64 rv69.1.Start, .int .i64 rv69.1.First, .int .i64 rv69.1.Rate.Num, .int .i64 rv69.1.Rate.Den, .int .i64 rv69.1.Error, .int .i64 rv69.1.Run, .int .i64 rv69.1.Seq, .slice p70 rv69.1.Samples.length k71]) hs hw 6 rfl rfl rfl Try.sizeOf32 rfl rfl rfl rfl trivial ?_
     intro a w hs hw
     refine wpList_nil ?_
     refine then_normal ?_
     exact ⟨b77, b78, c64, c73, k62, k66, k71, k75, p61, p65, p70, p74, S, hS.close0 (.v (t := 14) 7 rfl h_7 (.v (t := 68) 5 rfl h_5 .nil)) hs rfl, hw.ft [0, 1, 2, 3, 4, 5, 6] [0, 1, 2, 3, 4, 5, 6, 7] (by decide) rfl rfl⟩
    ·intro l a w hl ⟨b77, b78, c64, c73, k62, k66, k71, k75, p61, p65, p70, p74, S, hS, hw⟩
     have hw := hw.yes 4 rfl (hl 2 (by decide))
     have hw := hw.yes 7 rfl (hl 5 (by decide))
     have hw := hw.yes 9 rfl (hl 5 (by decide))
     have hw := hw.fixR 1 (r' := .box b39 [.slice p74 rv69.2.L.length k75, .int .i64 rv69.2.At] 60) rfl (bT (hl 5 (by decide)))
     have hw := hw.fixR 5 (r' := .box b77 [.string rv60.1.Source.Network, .string rv60.1.Source.Station, .string rv60.1.Source.Location, .string rv60.1.Source.Channel, .int .i64 rv60.1.Start, .int .i64 rv60.1.First, .int .i64 rv60.1.Rate.Num, .int .i64 rv60.1.Rate.Den, .int .i64 rv60.1.Error, .int .i64 rv60.1.Run, .int .i64 rv60.1.Seq, .slice p61 rv60.1.Samples.length k62] 32) rfl (bT (hl 8 (by decide)))
     have hw := hw.fixR 6 (r' := .box b78 [.string rv69.1.Source.Network, .string rv69.1.Source.Station, .string rv69.1.Source.Location, .string rv69.1.Source.Channel, .int .i64 rv69.1.Start, .int .i64 rv69.1.First, .int .i64 rv69.1.Rate.Num, .int .i64 rv69.1.Rate.Den, .int .i64 rv69.1.Error, .int .i64 rv69.1.Run, .int .i64 rv69.1.Seq, .slice p70 rv69.1.Samples.length k71] 32) rfl (bT (hl 9 (by decide)))
     have hw := hw.fixR 3 (r' := .row p61 rv60.1.Samples.length k62 c64 3 1) rfl (bT (hl 2 (by decide)))
     have hw := hw.fixR 4 (r' := .row p70 rv69.1.Samples.length k71 c73 3 1) rfl (bT (hl 5 (by decide)))
     have hs := hS.on (.b (t := 2) rfl (.b (t := 3) rfl (.b (t := 4) rfl (.b (t := 6) rfl (.b (t := 11) rfl (.v (t := 13) 6 rfl (hl 6 (by decide)) (.v (t := 14) 7 rfl (hl 7 (by decide)) .nil)))))))
     exact ⟨S, b77, b78, c64, c73, k62, k71, k75, p61, p70, p74, (hs.wk rfl), (hw.ft [2, 1, 5, 6, 3, 4] [5, 0, 2, 1] (by decide) rfl rfl)⟩
   ·rintro a w ⟨Sv79, b77, b78, c64, c73, k62, k71, k75, p61, p70, p74, hs, hw⟩
    refine then_normal ?_
    refine wp_seq ?_
    refine wp_seq ?_
    refine wp_region_lit ?_
    refine st_val hs (y_move rfl) trivial rfl rfl fun a hs => ?_
    obtain ⟨rv111, h110, hsh⟩ := bind_t hsh
    refine st_callR hs (made_Dice_Next_ok h110 hw.dom (hw.ins [1] (by decide) rfl) (hw.envAt 1 rfl)) (do_call Try.call16 rfl) trivial rfl rfl ?_
    intro v118 Sv115 w a h116 h117 hs
    obtain ⟨p112, k113, rfl, h119, h114⟩ := h117
    have hw := hw.callO [1] [0, 2, 3, 4, 5] (by decide) rfl h116 h119
    have hw := hw.addE (e := SlA p112 rv111.2.L.length k113 rv111.2.L) h114
    refine st_val hs (y_eql rfl rfl) trivial rfl rfl fun a hs => ?_
    refine wpList_nil ?_
    refine then_normal ?_
    refine wp_join (fun a w => ∃ (x164 : (List Int)) (x165 : Int) (x166 : ByteArray) (x167 : ByteArray) (x168 : ByteArray) (x169 : ByteArray) (x170 : Int) (x171 : Int) (x172 : Int) (x173 : Int) (x174 : Int) (x175 : Int) (x176 : Int) (x177 : (List Int)) (p158 : Option Addr) (k159 : Nat) (c160 : List Value) (p161 : Option Addr) (k162 : Nat) (Sv163 : Nat → Prop), law14_RecordExact_j1 raw5 i9 j10 k11 rv60 x164 x165 x166 x167 x168 x169 x170 x171 x172 x173 x174 x175 x176 x177 = some r ∧ Sl 365 [(2, .int .i64 i9), (3, .int .i64 j10), (4, .int .i64 k11), (6, .pointer (some ⟨b12, 0, none⟩)), (11, .pointer (some ⟨b39, 0, none⟩)), (13, .pointer (some ⟨b77, 0, none⟩)), (14, .pointer (some ⟨b78, 0, none⟩))] a ∧ Wd ⟨w0, S0, []⟩ Sv163 [.box b12 [.string raw5.Source.Network, .string raw5.Source.Station, .string raw5.Source.Location, .string raw5.Source.Channel, .int .i64 raw5.Start, .int .i64 raw5.First, .int .i64 raw5.Rate.Num, .int .i64 raw5.Rate.Den, .int .i64 raw5.Error, .int .i64 raw5.Run, .int .i64 raw5.Seq, .slice p6 raw5.Samples.length k7] 32, .box b39 [.slice p158 x164.length k159, .int .i64 x165] 60, .box b77 [.string rv60.1.Source.Network, .string rv60.1.Source.Station, .string rv60.1.Source.Location, .string rv60.1.Source.Channel, .int .i64 rv60.1.Start, .int .i64 rv60.1.First, .int .i64 rv60.1.Rate.Num, .int .i64 rv60.1.Rate.Den, .int .i64 rv60.1.Error, .int .i64 rv60.1.Run, .int .i64 rv60.1.Seq, .slice p61 rv60.1.Samples.length k62] 32, .box b78 [.string x166, .string x167, .string x168, .string x169, .int .i64 x170, .int .i64 x171, .int .i64 x172, .int .i64 x173, .int .i64 x174, .int .i64 x175, .int .i64 x176, .slice p161 x177.length k162] 32, .row p61 rv60.1.Samples.length k62 c64 3 1, .row p161 x177.length k162 c160 3 1] [SlA p6 raw5.Samples.length k7 raw5.Samples, SlA p158 x164.length k159 x164, RowA c64 rv60.1.Samples, RowA c160 x177] w) ?_ ?_
    ·refine wp_cond_split (hs.ev rfl) (fun h7472 => ?_) (fun h7472 => ?_)
     ·have hsh := ite_t hsh h7472
      refine wp_seq ?_
      refine wp_region_lit ?_
      refine st_val hs (y_loadBA (hw.ownAt 2 rfl) rfl Try.isAgg32 Try.sizeOf32 rfl rfl) trivial rfl rfl fun a hs => ?_
      refine w_store (m := 12) (cs' := [.string rv60.1.Source.Network, .string rv60.1.Source.Station, .string rv60.1.Source.Location, .string rv60.1.Source.Channel, .int .i64 rv60.1.Start, .int .i64 rv60.1.First, .int .i64 rv60.1.Rate.Num, .int .i64 rv60.1.Rate.Den, .int .i64 rv60.1.Error, .int .i64 rv60.1.Run, .int .i64 rv60.1.Seq, .slice p61 rv60.1.Samples.length k62]) hs hw 3 rfl rfl rfl Try.sizeOf32 rfl rfl rfl rfl trivial ?_
      intro a w hs hw
      refine wpList_nil ?_
      refine then_normal ?_
      refine wp_seq ?_
      refine wp_region_lit ?_
      refine st_val hs (y_fieldAddr (o' := 11) Try.runUnderlying32 rfl Try.sizeOf22 rfl rfl rfl) trivial rfl rfl fun a hs => ?_
      refine st_val hs (y_loadB1 (hw.ownAt 2 rfl) rfl Try.isAgg22 rfl) trivial rfl rfl fun a hs => ?_
      obtain ⟨l7474, h7473, hsh⟩ := bind_t hsh
      have hw := hw.nilRow Int 3
      refine w_appendR (α := Int) hs hw El22 0 rfl rfl rfl 0 rfl 5 rfl 4 rfl h7473 rfl trivial ?_
      intro p7475 k7476 c7477 a w hs hw
      refine st_val hs (y_fieldAddr (o' := 11) Try.runUnderlying32 rfl Try.sizeOf22 rfl rfl rfl) trivial rfl rfl fun a hs => ?_
      refine w_store (m := 1) (cs' := [.string rv60.1.Source.Network, .string rv60.1.Source.Station, .string rv60.1.Source.Location, .string rv60.1.Source.Channel, .int .i64 rv60.1.Start, .int .i64 rv60.1.First, .int .i64 rv60.1.Rate.Num, .int .i64 rv60.1.Rate.Den, .int .i64 rv60.1.Error, .int .i64 rv60.1.Run, .int .i64 rv60.1.Seq, .slice p7475 l7474.length k7476]) hs hw 4 rfl rfl rfl Try.sizeOf22 rfl rfl rfl rfl trivial ?_
      intro a w hs hw
      refine wpList_nil ?_
      refine then_normal ?_
      obtain ⟨rv7479, h7478, hsh⟩ := bind_t hsh
      obtain ⟨x7485, h7483, hsh⟩ := bind_t hsh
      obtain ⟨b7492, q7489, c7490, h7493, h7486, h7487, h7491, h7484⟩ := hw.elemRV (α := Int) 0 rfl 0 rfl h7483
      have hsv7494 := hs
      have hwv7495 := hw
      subst h7493
      have hs := hsv7494
      have hw := hwv7495
      obtain ⟨_, rfl, rfl⟩ := h7484
      obtain ⟨x7498, h7496, hsh⟩ := bind_t hsh
      obtain ⟨q7502, c7503, h7499, h7500, h7504, h7497⟩ := hw.elemRK (α := Int) 0 rfl 0 rfl h7496
      obtain ⟨_, rfl, rfl⟩ := h7497
      obtain ⟨l7506, h7505, hsh⟩ := bind_t hsh
      refine wp_only (fun a w => ∃ (Sv7509 : Nat → Prop) (c7507 : List Value) (k7481 : Nat) (p7480 : Option Addr), Sl 365 [(2, .int .i64 i9), (3, .int .i64 j10), (4, .int .i64 k11), (6, .pointer (some ⟨b12, 0, none⟩)), (11, .pointer (some ⟨b39, 0, none⟩)), (13, .pointer (some ⟨b77, 0, none⟩)), (14, .pointer (some ⟨b78, 0, none⟩))] a ∧ Wd ⟨w0, S0, []⟩ Sv7509 [.box b12 [.string raw5.Source.Network, .string raw5.Source.Station, .string raw5.Source.Location, .string raw5.Source.Channel, .int .i64 raw5.Start, .int .i64 raw5.First, .int .i64 raw5.Rate.Num, .int .i64 raw5.Rate.Den, .int .i64 raw5.Error, .int .i64 raw5.Run, .int .i64 raw5.Seq, .slice p6 raw5.Samples.length k7] 32, .box b39 [.slice p7480 rv7479.2.L.length k7481, .int .i64 rv7479.2.At] 60, .box b77 [.string rv60.1.Source.Network, .string rv60.1.Source.Station, .string rv60.1.Source.Location, .string rv60.1.Source.Channel, .int .i64 rv60.1.Start, .int .i64 rv60.1.First, .int .i64 rv60.1.Rate.Num, .int .i64 rv60.1.Rate.Den, .int .i64 rv60.1.Error, .int .i64 rv60.1.Run, .int .i64 rv60.1.Seq, .slice p61 rv60.1.Samples.length k62] 32, .box b78 [.string rv60.1.Source.Network, .string rv60.1.Source.Station, .string rv60.1.Source.Location, .string rv60.1.Source.Channel, .int .i64 rv60.1.Start, .int .i64 rv60.1.First, .int .i64 rv60.1.Rate.Num, .int .i64 rv60.1.Rate.Den, .int .i64 rv60.1.Error, .int .i64 rv60.1.Run, .int .i64 rv60.1.Seq, .slice (some ⟨b7492, 0, none⟩) l7506.length k7476] 32, .row p61 rv60.1.Samples.length k62 c64 3 1, .row (some ⟨b7492, 0, none⟩) l7506.length k7476 c7507 3 1] [SlA p6 raw5.Samples.length k7 raw5.Samples, SlA p7480 rv7479.2.L.length k7481 rv7479.2.L, RowA c64 rv60.1.Samples, RowA c7507 l7506] w) ?_ ?_
      ·refine h_b (C := Cls [.box b12 [.string raw5.Source.Network, .string raw5.Source.Station, .string raw5.Source.Location, .string raw5.Source.Channel, .int .i64 raw5.Start, .int .i64 raw5.First, .int .i64 raw5.Rate.Num, .int .i64 raw5.Rate.Den, .int .i64 raw5.Error, .int .i64 raw5.Run, .int .i64 raw5.Seq, .slice p6 raw5.Samples.length k7] 32, .box b77 [.string rv60.1.Source.Network, .string rv60.1.Source.Station, .string rv60.1.Source.Location, .string rv60.1.Source.Channel, .int .i64 rv60.1.Start, .int .i64 rv60.1.First, .int .i64 rv60.1.Rate.Num, .int .i64 rv60.1.Rate.Den, .int .i64 rv60.1.Error, .int .i64 rv60.1.Run, .int .i64 rv60.1.Seq, .slice p61 rv60.1.Samples.length k62] 32, .box b78 [.string rv60.1.Source.Network, .string rv60.1.Source.Station, .string rv60.1.Source.Location, .string rv60.1.Source.Channel, .int .i64 rv60.1.Start, .int .i64 rv60.1.First, .int .i64 rv60.1.Rate.Num, .int .i64 rv60.1.Rate.Den, .int .i64 rv60.1.Error, .int .i64 rv60.1.Run, .int .i64 rv60.1.Seq, .slice (some ⟨b7492, 0, none⟩) l7474.length k7476] 32, .row p61 rv60.1.Samples.length k62 c64 3 1, .row p70 rv69.1.Samples.length k71 c73 3 1] []) (by kernel_rfl) rfl (hw.drew.cs [2, 3, 4, 5, 6] [] rfl rfl) fun hC => ?_
       have hw := hw.drew
       refine h_g hs 0 rfl (by kernel_rfl) rfl rfl hC rfl (fun w hC => y_fieldAddr (o' := 11) Try.runUnderlying32 rfl Try.sizeOf22 rfl rfl rfl) fun a hs => ?_
       refine h_g hs 1 rfl (by kernel_rfl) rfl rfl hC rfl (fun w hC => y_loadB1 (hC.ownAt 2 rfl) rfl Try.isAgg22 rfl) fun a hs => ?_
       refine h_g hs 2 rfl (by kernel_rfl) rfl rfl hC rfl (fun w hC => y_move rfl) fun a hs => ?_
       refine h_g hs 3 rfl (by kernel_rfl) rfl rfl hC rfl (fun w hC => y_fieldAddr (o' := 11) Try.runUnderlying32 rfl Try.sizeOf22 rfl rfl rfl) fun a hs => ?_
       refine h_g hs 4 rfl (by kernel_rfl) rfl rfl hC rfl (fun w hC => y_loadB1 (hC.ownAt 2 rfl) rfl Try.isAgg22 rfl) fun a hs => ?_
       refine h_g hs 5 rfl (by kernel_rfl) rfl rfl hC rfl (fun w hC => y_len Try.runUnderlying22 rfl) fun a hs => ?_
       refine h_one (i := 6) (by kernel_rfl) rfl ?_
       refine st_callR hs (made_Dice_Next_ok h7478 hw.dom (hw.ins [1] (by decide) rfl) (hw.envAt 2 rfl)) (do_call Try.call16 rfl) trivial rfl rfl ?_
       intro v7513 Sv7510 w a h7511 h7512 hs
       obtain ⟨p7480, k7481, rfl, h7514, h7482⟩ := h7512
       have hw := hw.callO [1] [0, 2, 3, 4, 5, 6] (by decide) rfl h7511 h7514
       have hw := hw.addE (e := SlA p7480 rv7479.2.L.length k7481 rv7479.2.L) h7482
       refine h_nx (hw.cs [2, 3, 4, 5, 6] [] rfl rfl) fun hC => ?_
       refine h_g hs 7 rfl (by kernel_rfl) rfl rfl hC rfl (fun w hC => y_indexAt Try.runUnderlying22 Try.sizeOf3 rfl rfl h7486.1 h7486.2 h7487) fun a hs => ?_
       refine h_one (i := 8) (by kernel_rfl) rfl ?_
       refine st_val hs (y_loadQ1 (j := 0) (hw.ownAt 1 rfl) rfl Try.isAgg3 h7491 rfl) trivial rfl rfl fun a hs => ?_
       refine h_nx (hw.cs [2, 3, 4, 5, 6] [] rfl rfl) fun hC => ?_
       refine h_g hs 9 rfl (by kernel_rfl) rfl rfl hC rfl (fun w hC => y_add rfl rfl) fun a hs => ?_
       refine h_g hs 10 rfl (by kernel_rfl) rfl rfl hC rfl (fun w hC => y_indexAt Try.runUnderlying22 Try.sizeOf3 rfl rfl h7499.1 h7499.2 h7500) fun a hs => ?_
       refine h_one (i := 11) (by kernel_rfl) rfl ?_
       refine w_storeF (α := Int) hs hw 1 rfl 1 rfl h7500 rfl rfl Try.sizeOf3 rfl h7505 ⟨_, rfl, rfl⟩ trivial ?_
       intro c7507 a w hs hw
       have h7508 := setM_len h7505
       try have hs := hs.fix 78 (.slice (some ⟨b7492, 0, none⟩) l7506.length k7476) rfl (by rw [h7508])
       try have hs := hs.fix 81 (.slice (some ⟨b7492, 0, none⟩) l7506.length k7476) rfl (by rw [h7508])
       refine h_nx (hw.cs [2, 3, 4, 5, 6] [] rfl rfl) fun hC => ?_
       refine h_done (by kernel_rfl) ?_
       have hw := hw.fixR 4 (r' := .box b78 [.string rv60.1.Source.Network, .string rv60.1.Source.Station, .string rv60.1.Source.Location, .string rv60.1.Source.Channel, .int .i64 rv60.1.Start, .int .i64 rv60.1.First, .int .i64 rv60.1.Rate.Num, .int .i64 rv60.1.Rate.Den, .int .i64 rv60.1.Error, .int .i64 rv60.1.Run, .int .i64 rv60.1.Seq, .slice (some ⟨b7492, 0, none⟩) l7506.length k7476] 32) rfl (by rw [h7508])
       exact ⟨Sv7510, c7507, k7481, p7480, (hs.wk rfl), (hw.ft [2, 0, 3, 4, 5, 1] [5, 1, 7, 0] (by decide) rfl rfl)⟩
      ·rintro a w ⟨Sv7509, c7507, k7481, p7480, hs, hw⟩
       refine then_normal ?_
       exact ⟨rv7479.2.L, rv7479.2.At, rv60.1.Source.Network, rv60.1.Source.Station, rv60.1.Source.Location, rv60.1.Source.Channel, rv60.1.Start, rv60.1.First, rv60.1.Rate.Num, rv60.1.Rate.Den, rv60.1.Error, rv60.1.Run, rv60.1.Seq, l7506, p7480, k7481, c7507, (some ⟨b7492, 0, none⟩), k7476, Sv7509, hsh, (hs.wk rfl), (hw.ft [0, 1, 2, 3, 4, 5] [0, 1, 2, 3] (by decide) rfl rfl)⟩
     ·have hsh := ite_f hsh h7472
      refine wp_skip ?_
      refine then_normal ?_
      exact ⟨rv111.2.L, rv111.2.At, rv69.1.Source.Network, rv69.1.Source.Station, rv69.1.Source.Location, rv69.1.Source.Channel, rv69.1.Start, rv69.1.First, rv69.1.Rate.Num, rv69.1.Rate.Den, rv69.1.Error, rv69.1.Run, rv69.1.Seq, rv69.1.Samples, p112, k113, c73, p70, k71, Sv115, hsh, (hs.wk rfl), (hw.ft [1, 0, 2, 3, 4, 5] [1, 0, 3, 4] (by decide) rfl rfl)⟩
    ·rintro a w ⟨x164, x165, x166, x167, x168, x169, x170, x171, x172, x173, x174, x175, x176, x177, p158, k159, c160, p161, k162, Sv163, hsh, hs, hw⟩
     delta law14_RecordExact_j1 at hsh
     refine then_normal ?_
     refine wp_seq ?_
     refine wp_seq ?_
     obtain ⟨rv179, h178, hsh⟩ := bind_t hsh
     obtain ⟨l190, h189, hsh⟩ := bind_t hsh
     refine wp_only (fun a w => ∃ (Sv192 : Nat → Prop) (b188 : Nat) (c191 : List Value) (k185 : Nat) (p184 : Option Addr), Sl 365 [(2, .int .i64 i9), (3, .int .i64 j10), (4, .int .i64 k11), (6, .pointer (some ⟨b12, 0, none⟩)), (11, .pointer (some ⟨b39, 0, none⟩)), (13, .pointer (some ⟨b77, 0, none⟩)), (14, .pointer (some ⟨b78, 0, none⟩)), (94, .slice (some ⟨b188, 0, none⟩) l190.length l190.length), (95, .int .i64 (l190.length : Int)), (96, .int .i64 0)] a ∧ Wd ⟨w0, S0, []⟩ Sv192 [.box b12 [.string raw5.Source.Network, .string raw5.Source.Station, .string raw5.Source.Location, .string raw5.Source.Channel, .int .i64 raw5.Start, .int .i64 raw5.First, .int .i64 raw5.Rate.Num, .int .i64 raw5.Rate.Den, .int .i64 raw5.Error, .int .i64 raw5.Run, .int .i64 raw5.Seq, .slice p6 raw5.Samples.length k7] 32, .box b39 [.slice p184 rv179.2.L.length k185, .int .i64 rv179.2.At] 60, .box b77 [.string rv60.1.Source.Network, .string rv60.1.Source.Station, .string rv60.1.Source.Location, .string rv60.1.Source.Channel, .int .i64 rv60.1.Start, .int .i64 rv60.1.First, .int .i64 rv60.1.Rate.Num, .int .i64 rv60.1.Rate.Den, .int .i64 rv60.1.Error, .int .i64 rv60.1.Run, .int .i64 rv60.1.Seq, .slice p61 rv60.1.Samples.length k62] 32, .box b78 [.string x166, .string x167, .string x168, .string x169, .int .i64 x170, .int .i64 x171, .int .i64 x172, .int .i64 x173, .int .i64 x174, .int .i64 x175, .int .i64 x176, .slice p161 x177.length k162] 32, .row (some ⟨b188, 0, none⟩) l190.length l190.length c191 32 12] [SlA p6 raw5.Samples.length k7 raw5.Samples, SlA p184 rv179.2.L.length k185 rv179.2.L, SlA p61 rv60.1.Samples.length k62 rv60.1.Samples, SlA p161 x177.length k162 x177, RowA c191 l190] w) ?_ ?_
     ·refine h_b (C := Cls [.box b12 [.string raw5.Source.Network, .string raw5.Source.Station, .string raw5.Source.Location, .string raw5.Source.Channel, .int .i64 raw5.Start, .int .i64 raw5.First, .int .i64 raw5.Rate.Num, .int .i64 raw5.Rate.Den, .int .i64 raw5.Error, .int .i64 raw5.Run, .int .i64 raw5.Seq, .slice p6 raw5.Samples.length k7] 32, .box b77 [.string rv60.1.Source.Network, .string rv60.1.Source.Station, .string rv60.1.Source.Location, .string rv60.1.Source.Channel, .int .i64 rv60.1.Start, .int .i64 rv60.1.First, .int .i64 rv60.1.Rate.Num, .int .i64 rv60.1.Rate.Den, .int .i64 rv60.1.Error, .int .i64 rv60.1.Run, .int .i64 rv60.1.Seq, .slice p61 rv60.1.Samples.length k62] 32, .box b78 [.string x166, .string x167, .string x168, .string x169, .int .i64 x170, .int .i64 x171, .int .i64 x172, .int .i64 x173, .int .i64 x174, .int .i64 x175, .int .i64 x176, .slice p161 x177.length k162] 32] []) (by kernel_rfl) rfl (hw.drew.cs [0, 2, 3] [] rfl rfl) fun hC => ?_
      have hw := hw.drew
      refine h_g hs 0 rfl (by kernel_rfl) rfl rfl hC rfl (fun w hC => y_loadBA (hC.ownAt 1 rfl) rfl Try.isAgg32 Try.sizeOf32 rfl rfl) fun a hs => ?_
      refine h_g hs 1 rfl (by kernel_rfl) rfl rfl hC rfl (fun w hC => y_loadBA (hC.ownAt 2 rfl) rfl Try.isAgg32 Try.sizeOf32 rfl rfl) fun a hs => ?_
      refine h_g hs 2 rfl (by kernel_rfl) rfl rfl hC rfl (fun w hC => y_move rfl) fun a hs => ?_
      refine h_g hs 3 rfl (by kernel_rfl) rfl rfl hC rfl (fun w hC => y_loadBA (hC.ownAt 1 rfl) rfl Try.isAgg32 Try.sizeOf32 rfl rfl) fun a hs => ?_
      refine h_g hs 5 rfl (by kernel_rfl) rfl rfl hC rfl (fun w hC => y_loadBA (hC.ownAt 0 rfl) rfl Try.isAgg32 Try.sizeOf32 rfl rfl) fun a hs => ?_
      refine h_g hs 8 rfl (by kernel_rfl) rfl rfl hC rfl (fun w hC => y_move rfl) fun a hs => ?_
      refine h_one (i := 4) (by kernel_rfl) rfl ?_
      obtain ⟨Sv193, hw⟩ := w_share (α := Int) hw 4 rfl 2 rfl
      refine st_callR hs (made_Dice_OddRecord_ok h178 hw.dom (hw.ins [1] (by decide) rfl) (hw.envAt 2 rfl) (hw.envAt 0 rfl)) (do_call Try.call25 rfl) trivial rfl rfl ?_
      intro v197 Sv194 w a h195 h196 hs
      obtain ⟨p180, k181, c183, p184, k185, rfl, h198, h182, h186⟩ := h196
      have hw := hw.callO [1] [0, 2, 3, 4] (by decide) rfl h195 h198
      have hw := hw.addE (e := RowA c183 rv179.1.Samples) h182
      have hw := hw.addE (e := SlA p184 rv179.2.L.length k185 rv179.2.L) h186
      refine h_nx (hw.cs [2, 3, 4] [] rfl rfl) fun hC => ?_
      refine h_one (i := 6) (by kernel_rfl) rfl ?_
      obtain ⟨Sv199, hw⟩ := w_share (α := Int) hw 5 rfl 6 rfl
      obtain ⟨Sv200, hw⟩ := w_share (α := Int) hw 0 rfl 2 rfl
      refine w_litSliceO (α := Record) (vs := [.agg #[.string rv60.1.Source.Network, .string rv60.1.Source.Station, .string rv60.1.Source.Location, .string rv60.1.Source.Channel, .int .i64 rv60.1.Start, .int .i64 rv60.1.First, .int .i64 rv60.1.Rate.Num, .int .i64 rv60.1.Rate.Den, .int .i64 rv60.1.Error, .int .i64 rv60.1.Run, .int .i64 rv60.1.Seq, .slice p61 rv60.1.Samples.length k62], .agg #[.string x166, .string x167, .string x168, .string x169, .int .i64 x170, .int .i64 x171, .int .i64 x172, .int .i64 x173, .int .i64 x174, .int .i64 x175, .int .i64 x176, .slice p161 x177.length k162], .agg #[.string rv179.1.Source.Network, .string rv179.1.Source.Station, .string rv179.1.Source.Location, .string rv179.1.Source.Channel, .int .i64 rv179.1.Start, .int .i64 rv179.1.First, .int .i64 rv179.1.Rate.Num, .int .i64 rv179.1.Rate.Den, .int .i64 rv179.1.Error, .int .i64 rv179.1.Run, .int .i64 rv179.1.Seq, .slice p180 rv179.1.Samples.length k181], .agg #[.string raw5.Source.Network, .string raw5.Source.Station, .string raw5.Source.Location, .string raw5.Source.Channel, .int .i64 raw5.Start, .int .i64 raw5.First, .int .i64 raw5.Rate.Num, .int .i64 raw5.Rate.Den, .int .i64 raw5.Error, .int .i64 raw5.Run, .int .i64 raw5.Seq, .slice p6 raw5.Samples.length k7]]) (cs := [.string rv60.1.Source.Network, .string rv60.1.Source.Station, .string rv60.1.Source.Location, .string rv60.1.Source.Channel, .int .i64 rv60.1.Start, .int .i64 rv60.1.First, .int .i64 rv60.1.Rate.Num, .int .i64 rv60.1.Rate.Den, .int .i64 rv60.1.Error, .int .i64 rv60.1.Run, .int .i64 rv60.1.Seq, .slice p61 rv60.1.Samples.length k62, .string x166, .string x167, .string x168, .string x169, .int .i64 x170, .int .i64 x171, .int .i64 x172, .int .i64 x173, .int .i64 x174, .int .i64 x175, .int .i64 x176, .slice p161 x177.length k162, .string rv179.1.Source.Network, .string rv179.1.Source.Station, .string rv179.1.Source.Location, .string rv179.1.Source.Channel, .int .i64 rv179.1.Start, .int .i64 rv179.1.First, .int .i64 rv179.1.Rate.Num, .int .i64 rv179.1.Rate.Den, .int .i64 rv179.1.Error, .int .i64 rv179.1.Run, .int .i64 rv179.1.Seq, .slice p180 rv179.1.Samples.length k181, .string raw5.Source.Network, .string raw5.Source.Station, .string raw5.Source.Location, .string raw5.Source.Channel, .int .i64 raw5.Start, .int .i64 raw5.First, .int .i64 raw5.Rate.Num, .int .i64 raw5.Rate.Den, .int .i64 raw5.Error, .int .i64 raw5.Run, .int .i64 raw5.Seq, .slice p6 raw5.Samples.length k7]) (xs := ([rv60.1, (⟨(⟨x166, x167, x168, x169⟩ : SourceID), x170, x171, (⟨x172, x173⟩ : Rate), x174, x175, x176, x177⟩ : Record), rv179.1, raw5] : List Record)) hs hw El51 rfl rfl rfl rfl rfl rfl ⟨⟨_, _, _, _, _, _, _, _, _, _, _, _, rfl, rfl, rfl, rfl, rfl, rfl, rfl, rfl, rfl, rfl, rfl, rfl, ⟨_, _, _, rfl, hw.envAt 4 rfl⟩⟩, ⟨⟨_, _, _, _, _, _, _, _, _, _, _, _, rfl, rfl, rfl, rfl, rfl, rfl, rfl, rfl, rfl, rfl, rfl, rfl, ⟨_, _, _, rfl, hw.envAt 1 rfl⟩⟩, ⟨⟨_, _, _, _, _, _, _, _, _, _, _, _, rfl, rfl, rfl, rfl, rfl, rfl, rfl, rfl, rfl, rfl, rfl, rfl, ⟨_, _, _, rfl, hw.envAt 0 rfl⟩⟩, ⟨⟨_, _, _, _, _, _, _, _, _, _, _, _, rfl, rfl, rfl, rfl, rfl, rfl, rfl, rfl, rfl, rfl, rfl, rfl, ⟨_, _, _, rfl, hw.envAt 5 rfl⟩⟩, rfl⟩⟩⟩⟩ rfl trivial rfl h189 fun b188 c191 a w hs hw => ?_
      refine h_nx (hw.cs [2, 3, 4] [] rfl rfl) fun hC => ?_
      refine h_st (C' := Cls [.box b12 [.string raw5.Source.Network, .string raw5.Source.Station, .string raw5.Source.Location, .string raw5.Source.Channel, .int .i64 raw5.Start, .int .i64 raw5.First, .int .i64 raw5.Rate.Num, .int .i64 raw5.Rate.Den, .int .i64 raw5.Error, .int .i64 raw5.Run, .int .i64 raw5.Seq, .slice p6 raw5.Samples.length k7] 32, .box b77 [.string rv60.1.Source.Network, .string rv60.1.Source.Station, .string rv60.1.Source.Location, .string rv60.1.Source.Channel, .int .i64 rv60.1.Start, .int .i64 rv60.1.First, .int .i64 rv60.1.Rate.Num, .int .i64 rv60.1.Rate.Den, .int .i64 rv60.1.Error, .int .i64 rv60.1.Run, .int .i64 rv60.1.Seq, .slice p61 rv60.1.Samples.length k62] 32, .box b78 [.string x166, .string x167, .string x168, .string x169, .int .i64 x170, .int .i64 x171, .int .i64 x172, .int .i64 x173, .int .i64 x174, .int .i64 x175, .int .i64 x176, .slice p161 x177.length k162] 32, .row (some ⟨b188, 0, none⟩) l190.length l190.length c191 32 12] []) (fun _ h => by exact h.sub [0, 1, 2] (Sel.of rfl) (AllIn.of [] rfl)) (hw.cs [2, 3, 4, 0] [] rfl rfl) fun hC => ?_
      refine h_g hs 7 rfl (by kernel_rfl) rfl rfl hC rfl (fun w hC => y_len Try.runUnderlying51 rfl) fun a hs => ?_
      refine h_done (by kernel_rfl) ?_
      exact ⟨Sv200, b188, c191, k185, p184, (hs.wk rfl), (hw.ft [2, 1, 3, 4, 0] [6, 3, 5, 2, 0] (by decide) rfl rfl)⟩
     ·rintro a w ⟨Sv192, b188, c191, k185, p184, hs, hw⟩
      refine then_normal ?_
      refine wp_block ?_
      refine wp_while (fun sv2325 a w => ∃ (p3739 : Option Addr) (k3740 : Nat) (Sv3741 : Nat → Prop), Sl 365 [(2, .int .i64 i9), (3, .int .i64 j10), (4, .int .i64 k11), (6, .pointer (some ⟨b12, 0, none⟩)), (11, .pointer (some ⟨b39, 0, none⟩)), (13, .pointer (some ⟨b77, 0, none⟩)), (14, .pointer (some ⟨b78, 0, none⟩)), (94, .slice (some ⟨b188, 0, none⟩) l190.length l190.length), (95, .int .i64 (l190.length : Int)), (96, .int .i64 sv2325.2.2)] a ∧ Wd ⟨w0, S0, []⟩ Sv3741 [.box b12 [.string raw5.Source.Network, .string raw5.Source.Station, .string raw5.Source.Location, .string raw5.Source.Channel, .int .i64 raw5.Start, .int .i64 raw5.First, .int .i64 raw5.Rate.Num, .int .i64 raw5.Rate.Den, .int .i64 raw5.Error, .int .i64 raw5.Run, .int .i64 raw5.Seq, .slice p6 raw5.Samples.length k7] 32, .box b39 [.slice p3739 sv2325.1.length k3740, .int .i64 sv2325.2.1] 60, .box b77 [.string rv60.1.Source.Network, .string rv60.1.Source.Station, .string rv60.1.Source.Location, .string rv60.1.Source.Channel, .int .i64 rv60.1.Start, .int .i64 rv60.1.First, .int .i64 rv60.1.Rate.Num, .int .i64 rv60.1.Rate.Den, .int .i64 rv60.1.Error, .int .i64 rv60.1.Run, .int .i64 rv60.1.Seq, .slice p61 rv60.1.Samples.length k62] 32, .box b78 [.string x166, .string x167, .string x168, .string x169, .int .i64 x170, .int .i64 x171, .int .i64 x172, .int .i64 x173, .int .i64 x174, .int .i64 x175, .int .i64 x176, .slice p161 x177.length k162] 32, .row (some ⟨b188, 0, none⟩) l190.length l190.length c191 32 12] [SlA p6 raw5.Samples.length k7 raw5.Samples, SlA p3739 sv2325.1.length k3740 sv2325.1, SlA p61 rv60.1.Samples.length k62 rv60.1.Samples, SlA p161 x177.length k162 x177, RowA c191 l190] w) (rv179.2.L, rv179.2.At, 0) hsh ⟨p184, k185, Sv192, (hs.wk rfl), (hw.ft [0, 1, 2, 3, 4] [0, 1, 2, 3, 4] (by decide) rfl rfl)⟩ ?_
      repeat clear hsh
      rintro sv2325 a w tv4448 ⟨p3739, k3740, Sv3741, hs, hw⟩ hsh hd4447
      delta law14_RecordExact_l17 at hsh
      refine wp_seq ?_
      refine wp_region_lit ?_
      refine st_val hs (y_lss rfl rfl) trivial rfl rfl fun a hs => ?_
      refine wpList_nil ?_
      refine then_normal ?_
      refine wp_seq ?_
      refine wp_cond_split (hs.ev rfl) (fun h4452 => ?_) (fun h4452 => ?_)
      ·have hsh := ite_t hsh h4452
       refine wp_skip ?_
       refine then_normal ?_
       refine wp_seq ?_
       refine wp_block ?_
       refine wp_seq ?_
       refine wp_region_lit ?_
       obtain ⟨x5159, h5157, hsh⟩ := bind_t hsh
       obtain ⟨q5163, c5164, h5160, h5161, h5165, h5158⟩ := hw.elemRK (α := Record) 4 rfl 4 rfl h5157
       obtain ⟨_, _, _, _, _, _, _, _, _, _, _, _, rfl, rfl, rfl, rfl, rfl, rfl, rfl, rfl, rfl, rfl, rfl, rfl, ⟨p5166, n5167, k5168, rfl, h5169⟩⟩ := h5158
       obtain rfl := h5169.1
       have hw := hw.addE (e := SlA p5166 _ k5168 x5159.Samples) h5169
       refine st_val hs (y_indexAt Try.runUnderlying51 Try.sizeOf32 rfl rfl h5160.1 h5160.2 h5161) trivial rfl rfl fun a hs => ?_
       refine st_val hs (y_loadQA (j := 0) (hw.ownAt 4 rfl) rfl Try.isAgg32 Try.sizeOf32 h5165 rfl rfl) trivial rfl rfl fun a hs => ?_
       refine w_alloc (cs := [.string ByteArray.empty, .string ByteArray.empty, .string ByteArray.empty, .string ByteArray.empty, .int .i64 0, .int .i64 0, .int .i64 0, .int .i64 0, .int .i64 0, .int .i64 0, .int .i64 0, .slice none ([] : List Int).length 0]) hs hw Try.zeroValue32 rfl rfl trivial ?_
       intro b5170 a w hs hw
       refine w_store (m := 12) (cs' := [.string x5159.Source.Network, .string x5159.Source.Station, .string x5159.Source.Location, .string x5159.Source.Channel, .int .i64 x5159.Start, .int .i64 x5159.First, .int .i64 x5159.Rate.Num, .int .i64 x5159.Rate.Den, .int .i64 x5159.Error, .int .i64 x5159.Run, .int .i64 x5159.Seq, .slice p5166 x5159.Samples.length k5168]) hs hw 0 rfl rfl rfl Try.sizeOf32 rfl rfl rfl rfl trivial ?_
       intro a w hs hw
       refine wpList_nil ?_
       refine then_normal ?_
       refine wp_seq ?_
       refine wp_region_lit ?_
       refine st_val hs (y_loadBA (hw.ownAt 0 rfl) rfl Try.isAgg32 Try.sizeOf32 rfl rfl) trivial rfl rfl fun a hs => ?_
       obtain ⟨rv5172, h5171, hsh⟩ := bind_t hsh
       refine st_callR hs (record_Span_ok h5171 hw.bdom (hw.bE 0 rfl)) (do_call Try.call13 rfl) trivial rfl rfl ?_
       intro v5176 Sv5173 w a h5174 h5175 hs
       subst h5175
       have hw := hw.callB h5174
       refine st_val hs (y_move rfl) trivial rfl rfl fun a hs => ?_
       refine st_val hs (y_extract rfl rfl) trivial rfl rfl fun a hs => ?_
       refine st_val hs (y_extract rfl rfl) trivial rfl rfl fun a hs => ?_
       refine w_alloc (cs := [.int .i64 0, .int .i64 0]) hs hw Try.zeroValue39 rfl rfl trivial ?_
       intro b5178 a w hs hw
       refine w_store (m := 2) (cs' := [.int .i64 rv5172.1.From, .int .i64 rv5172.1.To]) hs hw 0 rfl rfl rfl Try.sizeOf39 rfl rfl rfl rfl trivial ?_
       intro a w hs hw
       refine st_val hs (y_assign rfl) trivial rfl rfl fun a hs => ?_
       refine wpList_nil ?_
       refine then_normal ?_
       refine wp_seq ?_
       refine wp_region_lit ?_
       refine st_val hs (y_loadBA (hw.ownAt 1 rfl) rfl Try.isAgg32 Try.sizeOf32 rfl rfl) trivial rfl rfl fun a hs => ?_
       obtain ⟨rv5180, h5179, hsh⟩ := bind_t hsh
       refine st_callR hs (ref14_Span_ok h5179 hw.bdom (hw.bE 0 rfl)) (do_call Try.call18 rfl) trivial rfl rfl ?_
       intro v5184 Sv5181 w a h5182 h5183 hs
       subst h5183
       have hw := hw.callB h5182
       refine st_val hs (y_move rfl) trivial rfl rfl fun a hs => ?_
       refine st_val hs (y_extract rfl rfl) trivial rfl rfl fun a hs => ?_
       refine st_val hs (y_extract rfl rfl) trivial rfl rfl fun a hs => ?_
       refine w_alloc (cs := [.int .i64 0, .int .i64 0]) hs hw Try.zeroValue39 rfl rfl trivial ?_
       intro b5186 a w hs hw
       refine w_store (m := 2) (cs' := [.int .i64 rv5180.1.From, .int .i64 rv5180.1.To]) hs hw 0 rfl rfl rfl Try.sizeOf39 rfl rfl rfl rfl trivial ?_
       intro a w hs hw
       refine st_val hs (y_assign rfl) trivial rfl rfl fun a hs => ?_
       refine wpList_nil ?_
       refine then_normal ?_
       refine wp_seq ?_
       refine wp_seq ?_
       obtain ⟨c5191, hc5191, hsh⟩ := bind_t hsh
       refine wp_only (fun a w => ∃ (Sv5192 : Nat → Prop), Sl 365 [(2, .int .i64 i9), (3, .int .i64 j10), (4, .int .i64 k11), (6, .pointer (some ⟨b12, 0, none⟩)), (11, .pointer (some ⟨b39, 0, none⟩)), (13, .pointer (some ⟨b77, 0, none⟩)), (14, .pointer (some ⟨b78, 0, none⟩)), (16, .pointer (some ⟨b5170, 0, none⟩)), (17, .pointer (some ⟨b5178, 0, none⟩)), (94, .slice (some ⟨b188, 0, none⟩) l190.length l190.length), (95, .int .i64 (l190.length : Int)), (96, .int .i64 sv2325.2.2), (124, .bool c5191)] a ∧ Wd ⟨w0, S0, []⟩ Sv5192 [.box b12 [.string raw5.Source.Network, .string raw5.Source.Station, .string raw5.Source.Location, .string raw5.Source.Channel, .int .i64 raw5.Start, .int .i64 raw5.First, .int .i64 raw5.Rate.Num, .int .i64 raw5.Rate.Den, .int .i64 raw5.Error, .int .i64 raw5.Run, .int .i64 raw5.Seq, .slice p6 raw5.Samples.length k7] 32, .box b39 [.slice p3739 sv2325.1.length k3740, .int .i64 sv2325.2.1] 60, .box b77 [.string rv60.1.Source.Network, .string rv60.1.Source.Station, .string rv60.1.Source.Location, .string rv60.1.Source.Channel, .int .i64 rv60.1.Start, .int .i64 rv60.1.First, .int .i64 rv60.1.Rate.Num, .int .i64 rv60.1.Rate.Den, .int .i64 rv60.1.Error, .int .i64 rv60.1.Run, .int .i64 rv60.1.Seq, .slice p61 rv60.1.Samples.length k62] 32, .box b78 [.string x166, .string x167, .string x168, .string x169, .int .i64 x170, .int .i64 x171, .int .i64 x172, .int .i64 x173, .int .i64 x174, .int .i64 x175, .int .i64 x176, .slice p161 x177.length k162] 32, .box b5170 [.string x5159.Source.Network, .string x5159.Source.Station, .string x5159.Source.Location, .string x5159.Source.Channel, .int .i64 x5159.Start, .int .i64 x5159.First, .int .i64 x5159.Rate.Num, .int .i64 x5159.Rate.Den, .int .i64 x5159.Error, .int .i64 x5159.Run, .int .i64 x5159.Seq, .slice p5166 x5159.Samples.length k5168] 32, .box b5178 [.int .i64 rv5172.1.From, .int .i64 rv5172.1.To] 39, .row (some ⟨b188, 0, none⟩) l190.length l190.length c191 32 12] [SlA p6 raw5.Samples.length k7 raw5.Samples, SlA p3739 sv2325.1.length k3740 sv2325.1, SlA p61 rv60.1.Samples.length k62 rv60.1.Samples, SlA p161 x177.length k162 x177, SlA p5166 x5159.Samples.length k5168 x5159.Samples, RowA c191 l190] w) ?_ ?_
       ·rcases Bool.eq_false_or_eq_true (!((rv5172.1.From == rv5180.1.From) && ((rv5172.1.To == rv5180.1.To) && true))) with h5193 | h5193
        ·rcases Bool.eq_false_or_eq_true ((!((rv5172.1.From == rv5180.1.From) && ((rv5172.1.To == rv5180.1.To) && true))) || (rv5172.2 != rv5180.2)) with h5195 | h5195
         ·have h5196 := ite_t hc5191 h5195
          refine h_b (C := Cls [.box b5186 [.int .i64 rv5180.1.From, .int .i64 rv5180.1.To] 39, .box b5178 [.int .i64 rv5172.1.From, .int .i64 rv5172.1.To] 39, .box b5170 [.string x5159.Source.Network, .string x5159.Source.Station, .string x5159.Source.Location, .string x5159.Source.Channel, .int .i64 x5159.Start, .int .i64 x5159.First, .int .i64 x5159.Rate.Num, .int .i64 x5159.Rate.Den, .int .i64 x5159.Error, .int .i64 x5159.Run, .int .i64 x5159.Seq, .slice p5166 x5159.Samples.length k5168] 32, .box b12 [.string raw5.Source.Network, .string raw5.Source.Station, .string raw5.Source.Location, .string raw5.Source.Channel, .int .i64 raw5.Start, .int .i64 raw5.First, .int .i64 raw5.Rate.Num, .int .i64 raw5.Rate.Den, .int .i64 raw5.Error, .int .i64 raw5.Run, .int .i64 raw5.Seq, .slice p6 raw5.Samples.length k7] 32, .box b39 [.slice p3739 sv2325.1.length k3740, .int .i64 sv2325.2.1] 60, .box b77 [.string rv60.1.Source.Network, .string rv60.1.Source.Station, .string rv60.1.Source.Location, .string rv60.1.Source.Channel, .int .i64 rv60.1.Start, .int .i64 rv60.1.First, .int .i64 rv60.1.Rate.Num, .int .i64 rv60.1.Rate.Den, .int .i64 rv60.1.Error, .int .i64 rv60.1.Run, .int .i64 rv60.1.Seq, .slice p61 rv60.1.Samples.length k62] 32, .box b78 [.string x166, .string x167, .string x168, .string x169, .int .i64 x170, .int .i64 x171, .int .i64 x172, .int .i64 x173, .int .i64 x174, .int .i64 x175, .int .i64 x176, .slice p161 x177.length k162] 32, .row (some ⟨b188, 0, none⟩) l190.length l190.length c191 32 12] []) (by kernel_rfl) rfl (hw.drew.cs [0, 1, 2, 3, 4, 5, 6, 7] [] rfl rfl) fun hC => ?_
          have hw := hw.drew
          refine h_g hs 0 rfl (by kernel_rfl) rfl rfl hC rfl (fun w hC => y_loadBA (hC.ownAt 1 rfl) rfl Try.isAgg39 Try.sizeOf39 rfl rfl) fun a hs => ?_
          refine h_g hs 1 rfl (by kernel_rfl) rfl rfl hC rfl (fun w hC => y_loadBA (hC.ownAt 0 rfl) rfl Try.isAgg39 Try.sizeOf39 rfl rfl) fun a hs => ?_
          refine h_g hs 2 rfl (by kernel_rfl) rfl rfl hC rfl (fun w hC => y_neqA (by kernel_rfl) rfl rfl (eqv_struct Try.runUnderlying39 (by kernel_rfl) (EqF.cons1 rfl Try.isAgg3 rfl rfl (eqv_int Try.runUnderlying3) (EqF.cons1 rfl Try.isAgg3 rfl rfl (eqv_int Try.runUnderlying3) EqF.nil)))) fun a hs => ?_
          refine h_g hs 3 rfl (by kernel_rfl) rfl rfl hC rfl (fun w hC => y_move rfl) fun a hs => ?_
          have hs := hs.fix 113 (.bool true) rfl (vb h5193)
          refine h_s hs 4 rfl (by kernel_rfl) rfl rfl rfl (.inl rfl) rfl rfl hC fun a hs => ?_
          refine h_s hs 5 rfl (by kernel_rfl) rfl rfl rfl (.inl rfl) rfl rfl hC fun a hs => ?_
          refine h_s hs 6 rfl (by kernel_rfl) rfl rfl rfl (.inl rfl) rfl rfl hC fun a hs => ?_
          refine h_g hs 7 rfl (by kernel_rfl) rfl rfl hC rfl (fun w hC => y_pickTE (v := .bool ((!((rv5172.1.From == rv5180.1.From) && ((rv5172.1.To == rv5180.1.To) && true))) || (rv5172.2 != rv5180.2))) rfl rfl (or_t h5193)) fun a hs => ?_
          refine h_g hs 8 rfl (by kernel_rfl) rfl rfl hC rfl (fun w hC => y_move rfl) fun a hs => ?_
          have hs := hs.fix 118 (.bool true) rfl (vb h5195)
          refine h_s hs 9 rfl (by kernel_rfl) rfl rfl rfl (.inl rfl) rfl rfl hC fun a hs => ?_
          refine h_s hs 10 rfl (by kernel_rfl) rfl rfl rfl (.inl rfl) rfl rfl hC fun a hs => ?_
          refine h_s hs 11 rfl (by kernel_rfl) rfl rfl rfl (.inl rfl) rfl rfl hC fun a hs => ?_
          refine h_s hs 12 rfl (by kernel_rfl) rfl rfl rfl (.inl rfl) rfl rfl hC fun a hs => ?_
          refine h_s hs 13 rfl (by kernel_rfl) rfl rfl rfl (.inl rfl) rfl rfl hC fun a hs => ?_
          refine h_g hs 14 rfl (by kernel_rfl) rfl rfl hC rfl (fun w hC => y_pickTE (v := .bool c5191) rfl rfl (vbs h5196)) fun a hs => ?_
          refine h_done (by kernel_rfl) ?_
          exact ⟨Sv3741, (hs.wk rfl), (hw.ft [3, 4, 5, 6, 2, 1, 7] [1, 2, 3, 4, 0, 5] (by decide) rfl rfl)⟩
         ·have h5197 := ite_f hc5191 h5195
          obtain ⟨rv5199, h5198, h5197⟩ := bind_t h5197
          obtain ⟨rv5201, h5200, h5197⟩ := bind_t h5197
          refine h_b (C := Cls [.box b5186 [.int .i64 rv5180.1.From, .int .i64 rv5180.1.To] 39, .box b5178 [.int .i64 rv5172.1.From, .int .i64 rv5172.1.To] 39, .box b5170 [.string x5159.Source.Network, .string x5159.Source.Station, .string x5159.Source.Location, .string x5159.Source.Channel, .int .i64 x5159.Start, .int .i64 x5159.First, .int .i64 x5159.Rate.Num, .int .i64 x5159.Rate.Den, .int .i64 x5159.Error, .int .i64 x5159.Run, .int .i64 x5159.Seq, .slice p5166 x5159.Samples.length k5168] 32, .box b12 [.string raw5.Source.Network, .string raw5.Source.Station, .string raw5.Source.Location, .string raw5.Source.Channel, .int .i64 raw5.Start, .int .i64 raw5.First, .int .i64 raw5.Rate.Num, .int .i64 raw5.Rate.Den, .int .i64 raw5.Error, .int .i64 raw5.Run, .int .i64 raw5.Seq, .slice p6 raw5.Samples.length k7] 32, .box b39 [.slice p3739 sv2325.1.length k3740, .int .i64 sv2325.2.1] 60, .box b77 [.string rv60.1.Source.Network, .string rv60.1.Source.Station, .string rv60.1.Source.Location, .string rv60.1.Source.Channel, .int .i64 rv60.1.Start, .int .i64 rv60.1.First, .int .i64 rv60.1.Rate.Num, .int .i64 rv60.1.Rate.Den, .int .i64 rv60.1.Error, .int .i64 rv60.1.Run, .int .i64 rv60.1.Seq, .slice p61 rv60.1.Samples.length k62] 32, .box b78 [.string x166, .string x167, .string x168, .string x169, .int .i64 x170, .int .i64 x171, .int .i64 x172, .int .i64 x173, .int .i64 x174, .int .i64 x175, .int .i64 x176, .slice p161 x177.length k162] 32, .row (some ⟨b188, 0, none⟩) l190.length l190.length c191 32 12] []) (by kernel_rfl) rfl (hw.drew.cs [0, 1, 2, 3, 4, 5, 6, 7] [] rfl rfl) fun hC => ?_
          have hw := hw.drew
          refine h_g hs 0 rfl (by kernel_rfl) rfl rfl hC rfl (fun w hC => y_loadBA (hC.ownAt 1 rfl) rfl Try.isAgg39 Try.sizeOf39 rfl rfl) fun a hs => ?_
          refine h_g hs 1 rfl (by kernel_rfl) rfl rfl hC rfl (fun w hC => y_loadBA (hC.ownAt 0 rfl) rfl Try.isAgg39 Try.sizeOf39 rfl rfl) fun a hs => ?_
          refine h_g hs 2 rfl (by kernel_rfl) rfl rfl hC rfl (fun w hC => y_neqA (by kernel_rfl) rfl rfl (eqv_struct Try.runUnderlying39 (by kernel_rfl) (EqF.cons1 rfl Try.isAgg3 rfl rfl (eqv_int Try.runUnderlying3) (EqF.cons1 rfl Try.isAgg3 rfl rfl (eqv_int Try.runUnderlying3) EqF.nil)))) fun a hs => ?_
          refine h_g hs 3 rfl (by kernel_rfl) rfl rfl hC rfl (fun w hC => y_move rfl) fun a hs => ?_
          have hs := hs.fix 113 (.bool true) rfl (vb h5193)
          refine h_s hs 4 rfl (by kernel_rfl) rfl rfl rfl (.inl rfl) rfl rfl hC fun a hs => ?_
          refine h_s hs 5 rfl (by kernel_rfl) rfl rfl rfl (.inl rfl) rfl rfl hC fun a hs => ?_
          refine h_s hs 6 rfl (by kernel_rfl) rfl rfl rfl (.inl rfl) rfl rfl hC fun a hs => ?_
          refine h_g hs 7 rfl (by kernel_rfl) rfl rfl hC rfl (fun w hC => y_pickTE (v := .bool ((!((rv5172.1.From == rv5180.1.From) && ((rv5172.1.To == rv5180.1.To) && true))) || (rv5172.2 != rv5180.2))) rfl rfl (or_t h5193)) fun a hs => ?_
          refine h_g hs 8 rfl (by kernel_rfl) rfl rfl hC rfl (fun w hC => y_move rfl) fun a hs => ?_
          have hs := hs.fix 118 (.bool false) rfl (vb h5195)
          refine h_t hs 9 rfl (by kernel_rfl) ⟨_, rfl, rfl⟩ rfl rfl hC (fun w hC => y_loadBA (hC.ownAt 2 rfl) rfl Try.isAgg32 Try.sizeOf32 rfl rfl) fun a hs => ?_
          refine h_t hs 11 rfl (by kernel_rfl) ⟨_, rfl, rfl⟩ rfl rfl hC (fun w hC => y_loadBA (hC.ownAt 2 rfl) rfl Try.isAgg32 Try.sizeOf32 rfl rfl) fun a hs => ?_
          refine h_one (i := 10) (by kernel_rfl) rfl ?_
          refine st_callR hs (record_Valid_ok h5198 hw.bdom (hw.bE 0 rfl)) (do_call Try.call26 rfl) ⟨_, rfl, rfl⟩ rfl rfl ?_
          intro v5205 Sv5202 w a h5203 h5204 hs
          subst h5204
          have hw := hw.callB h5203
          refine h_nx (hw.cs [0, 1, 2, 3, 4, 5, 6, 7] [] rfl rfl) fun hC => ?_
          refine h_one (i := 12) (by kernel_rfl) rfl ?_
          refine st_callR hs (ref14_Valid_ok h5200 hw.bdom (hw.bE 0 rfl)) (do_call Try.call27 rfl) ⟨_, rfl, rfl⟩ rfl rfl ?_
          intro v5210 Sv5207 w a h5208 h5209 hs
          subst h5209
          have hw := hw.callB h5208
          refine h_nx (hw.cs [0, 1, 2, 3, 4, 5, 6, 7] [] rfl rfl) fun hC => ?_
          refine h_t hs 13 rfl (by kernel_rfl) ⟨_, rfl, rfl⟩ rfl rfl hC (fun w hC => y_neqB Try.runUnderlying4 rfl rfl) fun a hs => ?_
          refine h_g hs 14 rfl (by kernel_rfl) rfl rfl hC rfl (fun w hC => y_pickFE (v := .bool c5191) rfl rfl (vbs h5197)) fun a hs => ?_
          refine h_done (by kernel_rfl) ?_
          exact ⟨Sv3741, (hs.wk rfl), (hw.ft [3, 4, 5, 6, 2, 1, 7] [1, 2, 3, 4, 0, 5] (by decide) rfl rfl)⟩
        ·rcases Bool.eq_false_or_eq_true ((!((rv5172.1.From == rv5180.1.From) && ((rv5172.1.To == rv5180.1.To) && true))) || (rv5172.2 != rv5180.2)) with h5213 | h5213
         ·have h5214 := ite_t hc5191 h5213
          refine h_b (C := Cls [.box b5186 [.int .i64 rv5180.1.From, .int .i64 rv5180.1.To] 39, .box b5178 [.int .i64 rv5172.1.From, .int .i64 rv5172.1.To] 39, .box b5170 [.string x5159.Source.Network, .string x5159.Source.Station, .string x5159.Source.Location, .string x5159.Source.Channel, .int .i64 x5159.Start, .int .i64 x5159.First, .int .i64 x5159.Rate.Num, .int .i64 x5159.Rate.Den, .int .i64 x5159.Error, .int .i64 x5159.Run, .int .i64 x5159.Seq, .slice p5166 x5159.Samples.length k5168] 32, .box b12 [.string raw5.Source.Network, .string raw5.Source.Station, .string raw5.Source.Location, .string raw5.Source.Channel, .int .i64 raw5.Start, .int .i64 raw5.First, .int .i64 raw5.Rate.Num, .int .i64 raw5.Rate.Den, .int .i64 raw5.Error, .int .i64 raw5.Run, .int .i64 raw5.Seq, .slice p6 raw5.Samples.length k7] 32, .box b39 [.slice p3739 sv2325.1.length k3740, .int .i64 sv2325.2.1] 60, .box b77 [.string rv60.1.Source.Network, .string rv60.1.Source.Station, .string rv60.1.Source.Location, .string rv60.1.Source.Channel, .int .i64 rv60.1.Start, .int .i64 rv60.1.First, .int .i64 rv60.1.Rate.Num, .int .i64 rv60.1.Rate.Den, .int .i64 rv60.1.Error, .int .i64 rv60.1.Run, .int .i64 rv60.1.Seq, .slice p61 rv60.1.Samples.length k62] 32, .box b78 [.string x166, .string x167, .string x168, .string x169, .int .i64 x170, .int .i64 x171, .int .i64 x172, .int .i64 x173, .int .i64 x174, .int .i64 x175, .int .i64 x176, .slice p161 x177.length k162] 32, .row (some ⟨b188, 0, none⟩) l190.length l190.length c191 32 12] []) (by kernel_rfl) rfl (hw.drew.cs [0, 1, 2, 3, 4, 5, 6, 7] [] rfl rfl) fun hC => ?_
          have hw := hw.drew
          refine h_g hs 0 rfl (by kernel_rfl) rfl rfl hC rfl (fun w hC => y_loadBA (hC.ownAt 1 rfl) rfl Try.isAgg39 Try.sizeOf39 rfl rfl) fun a hs => ?_
          refine h_g hs 1 rfl (by kernel_rfl) rfl rfl hC rfl (fun w hC => y_loadBA (hC.ownAt 0 rfl) rfl Try.isAgg39 Try.sizeOf39 rfl rfl) fun a hs => ?_
          refine h_g hs 2 rfl (by kernel_rfl) rfl rfl hC rfl (fun w hC => y_neqA (by kernel_rfl) rfl rfl (eqv_struct Try.runUnderlying39 (by kernel_rfl) (EqF.cons1 rfl Try.isAgg3 rfl rfl (eqv_int Try.runUnderlying3) (EqF.cons1 rfl Try.isAgg3 rfl rfl (eqv_int Try.runUnderlying3) EqF.nil)))) fun a hs => ?_
          refine h_g hs 3 rfl (by kernel_rfl) rfl rfl hC rfl (fun w hC => y_move rfl) fun a hs => ?_
          have hs := hs.fix 113 (.bool false) rfl (vb h5193)
          refine h_t hs 4 rfl (by kernel_rfl) ⟨_, rfl, rfl⟩ rfl rfl hC (fun w hC => y_move rfl) fun a hs => ?_
          refine h_t hs 5 rfl (by kernel_rfl) ⟨_, rfl, rfl⟩ rfl rfl hC (fun w hC => y_move rfl) fun a hs => ?_
          refine h_t hs 6 rfl (by kernel_rfl) ⟨_, rfl, rfl⟩ rfl rfl hC (fun w hC => y_neq rfl rfl) fun a hs => ?_
          refine h_g hs 7 rfl (by kernel_rfl) rfl rfl hC rfl (fun w hC => y_pickFE (v := .bool ((!((rv5172.1.From == rv5180.1.From) && ((rv5172.1.To == rv5180.1.To) && true))) || (rv5172.2 != rv5180.2))) rfl rfl (or_f h5193)) fun a hs => ?_
          refine h_g hs 8 rfl (by kernel_rfl) rfl rfl hC rfl (fun w hC => y_move rfl) fun a hs => ?_
          have hs := hs.fix 118 (.bool true) rfl (vb h5213)
          refine h_s hs 9 rfl (by kernel_rfl) rfl rfl rfl (.inl rfl) rfl rfl hC fun a hs => ?_
          refine h_s hs 10 rfl (by kernel_rfl) rfl rfl rfl (.inl rfl) rfl rfl hC fun a hs => ?_
          refine h_s hs 11 rfl (by kernel_rfl) rfl rfl rfl (.inl rfl) rfl rfl hC fun a hs => ?_
          refine h_s hs 12 rfl (by kernel_rfl) rfl rfl rfl (.inl rfl) rfl rfl hC fun a hs => ?_
          refine h_s hs 13 rfl (by kernel_rfl) rfl rfl rfl (.inl rfl) rfl rfl hC fun a hs => ?_
          refine h_g hs 14 rfl (by kernel_rfl) rfl rfl hC rfl (fun w hC => y_pickTE (v := .bool c5191) rfl rfl (vbs h5214)) fun a hs => ?_
          refine h_done (by kernel_rfl) ?_
          exact ⟨Sv3741, (hs.wk rfl), (hw.ft [3, 4, 5, 6, 2, 1, 7] [1, 2, 3, 4, 0, 5] (by decide) rfl rfl)⟩
         ·have h5215 := ite_f hc5191 h5213
          obtain ⟨rv5217, h5216, h5215⟩ := bind_t h5215
          obtain ⟨rv5219, h5218, h5215⟩ := bind_t h5215
          refine h_b (C := Cls [.box b5186 [.int .i64 rv5180.1.From, .int .i64 rv5180.1.To] 39, .box b5178 [.int .i64 rv5172.1.From, .int .i64 rv5172.1.To] 39, .box b5170 [.string x5159.Source.Network, .string x5159.Source.Station, .string x5159.Source.Location, .string x5159.Source.Channel, .int .i64 x5159.Start, .int .i64 x5159.First, .int .i64 x5159.Rate.Num, .int .i64 x5159.Rate.Den, .int .i64 x5159.Error, .int .i64 x5159.Run, .int .i64 x5159.Seq, .slice p5166 x5159.Samples.length k5168] 32, .box b12 [.string raw5.Source.Network, .string raw5.Source.Station, .string raw5.Source.Location, .string raw5.Source.Channel, .int .i64 raw5.Start, .int .i64 raw5.First, .int .i64 raw5.Rate.Num, .int .i64 raw5.Rate.Den, .int .i64 raw5.Error, .int .i64 raw5.Run, .int .i64 raw5.Seq, .slice p6 raw5.Samples.length k7] 32, .box b39 [.slice p3739 sv2325.1.length k3740, .int .i64 sv2325.2.1] 60, .box b77 [.string rv60.1.Source.Network, .string rv60.1.Source.Station, .string rv60.1.Source.Location, .string rv60.1.Source.Channel, .int .i64 rv60.1.Start, .int .i64 rv60.1.First, .int .i64 rv60.1.Rate.Num, .int .i64 rv60.1.Rate.Den, .int .i64 rv60.1.Error, .int .i64 rv60.1.Run, .int .i64 rv60.1.Seq, .slice p61 rv60.1.Samples.length k62] 32, .box b78 [.string x166, .string x167, .string x168, .string x169, .int .i64 x170, .int .i64 x171, .int .i64 x172, .int .i64 x173, .int .i64 x174, .int .i64 x175, .int .i64 x176, .slice p161 x177.length k162] 32, .row (some ⟨b188, 0, none⟩) l190.length l190.length c191 32 12] []) (by kernel_rfl) rfl (hw.drew.cs [0, 1, 2, 3, 4, 5, 6, 7] [] rfl rfl) fun hC => ?_
          have hw := hw.drew
          refine h_g hs 0 rfl (by kernel_rfl) rfl rfl hC rfl (fun w hC => y_loadBA (hC.ownAt 1 rfl) rfl Try.isAgg39 Try.sizeOf39 rfl rfl) fun a hs => ?_
          refine h_g hs 1 rfl (by kernel_rfl) rfl rfl hC rfl (fun w hC => y_loadBA (hC.ownAt 0 rfl) rfl Try.isAgg39 Try.sizeOf39 rfl rfl) fun a hs => ?_
          refine h_g hs 2 rfl (by kernel_rfl) rfl rfl hC rfl (fun w hC => y_neqA (by kernel_rfl) rfl rfl (eqv_struct Try.runUnderlying39 (by kernel_rfl) (EqF.cons1 rfl Try.isAgg3 rfl rfl (eqv_int Try.runUnderlying3) (EqF.cons1 rfl Try.isAgg3 rfl rfl (eqv_int Try.runUnderlying3) EqF.nil)))) fun a hs => ?_
          refine h_g hs 3 rfl (by kernel_rfl) rfl rfl hC rfl (fun w hC => y_move rfl) fun a hs => ?_
          have hs := hs.fix 113 (.bool false) rfl (vb h5193)
          refine h_t hs 4 rfl (by kernel_rfl) ⟨_, rfl, rfl⟩ rfl rfl hC (fun w hC => y_move rfl) fun a hs => ?_
          refine h_t hs 5 rfl (by kernel_rfl) ⟨_, rfl, rfl⟩ rfl rfl hC (fun w hC => y_move rfl) fun a hs => ?_
          refine h_t hs 6 rfl (by kernel_rfl) ⟨_, rfl, rfl⟩ rfl rfl hC (fun w hC => y_neq rfl rfl) fun a hs => ?_
          refine h_g hs 7 rfl (by kernel_rfl) rfl rfl hC rfl (fun w hC => y_pickFE (v := .bool ((!((rv5172.1.From == rv5180.1.From) && ((rv5172.1.To == rv5180.1.To) && true))) || (rv5172.2 != rv5180.2))) rfl rfl (or_f h5193)) fun a hs => ?_
          refine h_g hs 8 rfl (by kernel_rfl) rfl rfl hC rfl (fun w hC => y_move rfl) fun a hs => ?_
          have hs := hs.fix 118 (.bool false) rfl (vb h5213)
          refine h_t hs 9 rfl (by kernel_rfl) ⟨_, rfl, rfl⟩ rfl rfl hC (fun w hC => y_loadBA (hC.ownAt 2 rfl) rfl Try.isAgg32 Try.sizeOf32 rfl rfl) fun a hs => ?_
          refine h_t hs 11 rfl (by kernel_rfl) ⟨_, rfl, rfl⟩ rfl rfl hC (fun w hC => y_loadBA (hC.ownAt 2 rfl) rfl Try.isAgg32 Try.sizeOf32 rfl rfl) fun a hs => ?_
          refine h_one (i := 10) (by kernel_rfl) rfl ?_
          refine st_callR hs (record_Valid_ok h5216 hw.bdom (hw.bE 0 rfl)) (do_call Try.call26 rfl) ⟨_, rfl, rfl⟩ rfl rfl ?_
          intro v5223 Sv5220 w a h5221 h5222 hs
          subst h5222
          have hw := hw.callB h5221
          refine h_nx (hw.cs [0, 1, 2, 3, 4, 5, 6, 7] [] rfl rfl) fun hC => ?_
          refine h_one (i := 12) (by kernel_rfl) rfl ?_
          refine st_callR hs (ref14_Valid_ok h5218 hw.bdom (hw.bE 0 rfl)) (do_call Try.call27 rfl) ⟨_, rfl, rfl⟩ rfl rfl ?_
          intro v5228 Sv5225 w a h5226 h5227 hs
          subst h5227
          have hw := hw.callB h5226
          refine h_nx (hw.cs [0, 1, 2, 3, 4, 5, 6, 7] [] rfl rfl) fun hC => ?_
          refine h_t hs 13 rfl (by kernel_rfl) ⟨_, rfl, rfl⟩ rfl rfl hC (fun w hC => y_neqB Try.runUnderlying4 rfl rfl) fun a hs => ?_
          refine h_g hs 14 rfl (by kernel_rfl) rfl rfl hC rfl (fun w hC => y_pickFE (v := .bool c5191) rfl rfl (vbs h5215)) fun a hs => ?_
          refine h_done (by kernel_rfl) ?_
          exact ⟨Sv3741, (hs.wk rfl), (hw.ft [3, 4, 5, 6, 2, 1, 7] [1, 2, 3, 4, 0, 5] (by decide) rfl rfl)⟩
       ·rintro a w ⟨Sv5192, hs, hw⟩
        refine then_normal ?_
        refine wp_cond_split (hs.ev rfl) (fun h5231 => ?_) (fun h5231 => ?_)
        ·have hsh := ite_t hsh h5231
         refine wp_seq ?_
         refine wp_region_lit ?_
         refine st_val hs (y_assign rfl) trivial rfl rfl fun a hs => ?_
         refine wpList_nil ?_
         refine then_normal ?_
         have hsh := Option.some.inj hsh
         subst hsh
         have h5232 := hd4447 _ rfl
         subst h5232
         refine wp_ret ?_
         refine then_ret ?_
         refine blk_ret ?_
         refine then_ret ?_
         refine then_ret ?_
         refine blk_ret ?_
         refine then_ret ?_
         exact ret1 hs rfl (rv_tmp rfl) (hw.ret rfl)
        ·have hsh := ite_f hsh h5231
         refine wp_skip ?_
         refine then_normal ?_
         refine wp_seq ?_
         refine wp_seq ?_
         obtain ⟨rv5234, h5233, hsh⟩ := bind_t hsh
         obtain ⟨rv5239, h5238, hsh⟩ := bind_t hsh
         refine wp_only (fun a w => ∃ (Sv5245 : Nat → Prop) (b5244 : Nat) (k5241 : Nat) (p5240 : Option Addr), Sl 365 [(2, .int .i64 i9), (3, .int .i64 j10), (4, .int .i64 k11), (6, .pointer (some ⟨b12, 0, none⟩)), (11, .pointer (some ⟨b39, 0, none⟩)), (13, .pointer (some ⟨b77, 0, none⟩)), (14, .pointer (some ⟨b78, 0, none⟩)), (16, .pointer (some ⟨b5170, 0, none⟩)), (17, .pointer (some ⟨b5178, 0, none⟩)), (94, .slice (some ⟨b188, 0, none⟩) l190.length l190.length), (95, .int .i64 (l190.length : Int)), (96, .int .i64 sv2325.2.2), (138, .slice (some ⟨b5244, 0, none⟩) ([(⟨i9, j10⟩ : (Arr2 Int)), (⟨(w64 (rv5234.1 - 1)), rv5239.1⟩ : (Arr2 Int)), (⟨0, (x5159.Samples.length : Int)⟩ : (Arr2 Int))] : List (Arr2 Int)).length ([(⟨i9, j10⟩ : (Arr2 Int)), (⟨(w64 (rv5234.1 - 1)), rv5239.1⟩ : (Arr2 Int)), (⟨0, (x5159.Samples.length : Int)⟩ : (Arr2 Int))] : List (Arr2 Int)).length), (139, .int .i64 (([(⟨i9, j10⟩ : (Arr2 Int)), (⟨(w64 (rv5234.1 - 1)), rv5239.1⟩ : (Arr2 Int)), (⟨0, (x5159.Samples.length : Int)⟩ : (Arr2 Int))] : List (Arr2 Int)).length : Int)), (140, .int .i64 0)] a ∧ Wd ⟨w0, S0, []⟩ Sv5245 [.box b12 [.string raw5.Source.Network, .string raw5.Source.Station, .string raw5.Source.Location, .string raw5.Source.Channel, .int .i64 raw5.Start, .int .i64 raw5.First, .int .i64 raw5.Rate.Num, .int .i64 raw5.Rate.Den, .int .i64 raw5.Error, .int .i64 raw5.Run, .int .i64 raw5.Seq, .slice p6 raw5.Samples.length k7] 32, .box b39 [.slice p5240 rv5239.2.L.length k5241, .int .i64 rv5239.2.At] 60, .box b77 [.string rv60.1.Source.Network, .string rv60.1.Source.Station, .string rv60.1.Source.Location, .string rv60.1.Source.Channel, .int .i64 rv60.1.Start, .int .i64 rv60.1.First, .int .i64 rv60.1.Rate.Num, .int .i64 rv60.1.Rate.Den, .int .i64 rv60.1.Error, .int .i64 rv60.1.Run, .int .i64 rv60.1.Seq, .slice p61 rv60.1.Samples.length k62] 32, .box b78 [.string x166, .string x167, .string x168, .string x169, .int .i64 x170, .int .i64 x171, .int .i64 x172, .int .i64 x173, .int .i64 x174, .int .i64 x175, .int .i64 x176, .slice p161 x177.length k162] 32, .box b5170 [.string x5159.Source.Network, .string x5159.Source.Station, .string x5159.Source.Location, .string x5159.Source.Channel, .int .i64 x5159.Start, .int .i64 x5159.First, .int .i64 x5159.Rate.Num, .int .i64 x5159.Rate.Den, .int .i64 x5159.Error, .int .i64 x5159.Run, .int .i64 x5159.Seq, .slice p5166 x5159.Samples.length k5168] 32, .box b5178 [.int .i64 rv5172.1.From, .int .i64 rv5172.1.To] 39, .row (some ⟨b188, 0, none⟩) l190.length l190.length c191 32 12, .row (some ⟨b5244, 0, none⟩) ([(⟨i9, j10⟩ : (Arr2 Int)), (⟨(w64 (rv5234.1 - 1)), rv5239.1⟩ : (Arr2 Int)), (⟨0, (x5159.Samples.length : Int)⟩ : (Arr2 Int))] : List (Arr2 Int)).length ([(⟨i9, j10⟩ : (Arr2 Int)), (⟨(w64 (rv5234.1 - 1)), rv5239.1⟩ : (Arr2 Int)), (⟨0, (x5159.Samples.length : Int)⟩ : (Arr2 Int))] : List (Arr2 Int)).length [.int .i64 i9, .int .i64 j10, .int .i64 (w64 (rv5234.1 - 1)), .int .i64 rv5239.1, .int .i64 0, .int .i64 (x5159.Samples.length : Int)] 56 2] [SlA p6 raw5.Samples.length k7 raw5.Samples, SlA p5240 rv5239.2.L.length k5241 rv5239.2.L, SlA p61 rv60.1.Samples.length k62 rv60.1.Samples, SlA p161 x177.length k162 x177, SlA p5166 x5159.Samples.length k5168 x5159.Samples, RowA c191 l190, RowA [.int .i64 i9, .int .i64 j10, .int .i64 (w64 (rv5234.1 - 1)), .int .i64 rv5239.1, .int .i64 0, .int .i64 (x5159.Samples.length : Int)] ([(⟨i9, j10⟩ : (Arr2 Int)), (⟨(w64 (rv5234.1 - 1)), rv5239.1⟩ : (Arr2 Int)), (⟨0, (x5159.Samples.length : Int)⟩ : (Arr2 Int))] : List (Arr2 Int))] w) ?_ ?_
         ·refine h_b (C := Cls [.box b12 [.string raw5.Source.Network, .string raw5.Source.Station, .string raw5.Source.Location, .string raw5.Source.Channel, .int .i64 raw5.Start, .int .i64 raw5.First, .int .i64 raw5.Rate.Num, .int .i64 raw5.Rate.Den, .int .i64 raw5.Error, .int .i64 raw5.Run, .int .i64 raw5.Seq, .slice p6 raw5.Samples.length k7] 32, .box b77 [.string rv60.1.Source.Network, .string rv60.1.Source.Station, .string rv60.1.Source.Location, .string rv60.1.Source.Channel, .int .i64 rv60.1.Start, .int .i64 rv60.1.First, .int .i64 rv60.1.Rate.Num, .int .i64 rv60.1.Rate.Den, .int .i64 rv60.1.Error, .int .i64 rv60.1.Run, .int .i64 rv60.1.Seq, .slice p61 rv60.1.Samples.length k62] 32, .box b78 [.string x166, .string x167, .string x168, .string x169, .int .i64 x170, .int .i64 x171, .int .i64 x172, .int .i64 x173, .int .i64 x174, .int .i64 x175, .int .i64 x176, .slice p161 x177.length k162] 32, .box b5170 [.string x5159.Source.Network, .string x5159.Source.Station, .string x5159.Source.Location, .string x5159.Source.Channel, .int .i64 x5159.Start, .int .i64 x5159.First, .int .i64 x5159.Rate.Num, .int .i64 x5159.Rate.Den, .int .i64 x5159.Error, .int .i64 x5159.Run, .int .i64 x5159.Seq, .slice p5166 x5159.Samples.length k5168] 32, .box b5178 [.int .i64 rv5172.1.From, .int .i64 rv5172.1.To] 39, .row (some ⟨b188, 0, none⟩) l190.length l190.length c191 32 12] []) (by kernel_rfl) rfl (hw.drew.cs [0, 2, 3, 4, 5, 6] [] rfl rfl) fun hC => ?_
          have hw := hw.drew
          refine h_g hs 0 rfl (by kernel_rfl) rfl rfl hC rfl (fun w hC => y_move rfl) fun a hs => ?_
          refine h_g hs 1 rfl (by kernel_rfl) rfl rfl hC rfl (fun w hC => y_move rfl) fun a hs => ?_
          refine h_g hs 2 rfl (by kernel_rfl) rfl rfl hC rfl (fun w hC => y_build (vs := [(0, .int .i64 i9), (1, .int .i64 j10)]) Bld56 rfl rfl) fun a hs => ?_
          refine h_g hs 3 rfl (by kernel_rfl) rfl rfl hC rfl (fun w hC => y_move rfl) fun a hs => ?_
          refine h_g hs 6 rfl (by kernel_rfl) rfl rfl hC rfl (fun w hC => y_move rfl) fun a hs => ?_
          refine h_g hs 9 rfl (by kernel_rfl) rfl rfl hC rfl (fun w hC => y_fieldAddr (o' := 11) Try.runUnderlying32 rfl Try.sizeOf22 rfl rfl rfl) fun a hs => ?_
          refine h_g hs 10 rfl (by kernel_rfl) rfl rfl hC rfl (fun w hC => y_loadB1 (hC.ownAt 3 rfl) rfl Try.isAgg22 rfl) fun a hs => ?_
          refine h_g hs 11 rfl (by kernel_rfl) rfl rfl hC rfl (fun w hC => y_len Try.runUnderlying22 rfl) fun a hs => ?_
          refine h_g hs 12 rfl (by kernel_rfl) rfl rfl hC rfl (fun w hC => y_build (vs := [(0, .int .i64 0), (1, .int .i64 (x5159.Samples.length : Int))]) Bld56 rfl rfl) fun a hs => ?_
          refine h_g hs 15 rfl (by kernel_rfl) rfl rfl hC rfl (fun w hC => y_move rfl) fun a hs => ?_
          refine h_one (i := 4) (by kernel_rfl) rfl ?_
          refine st_callR hs (made_Dice_Next_ok h5233 hw.dom (hw.ins [1] (by decide) rfl) (hw.envAt 1 rfl)) (do_call Try.call16 rfl) trivial rfl rfl ?_
          intro v5249 Sv5246 w a h5247 h5248 hs
          obtain ⟨p5235, k5236, rfl, h5250, h5237⟩ := h5248
          have hw := hw.callO [1] [0, 2, 3, 4, 5, 6] (by decide) rfl h5247 h5250
          have hw := hw.addE (e := SlA p5235 rv5234.2.L.length k5236 rv5234.2.L) h5237
          refine h_nx (hw.cs [1, 2, 3, 4, 5, 6] [] rfl rfl) fun hC => ?_
          refine h_g hs 5 rfl (by kernel_rfl) rfl rfl hC rfl (fun w hC => y_sub rfl rfl) fun a hs => ?_
          refine h_one (i := 7) (by kernel_rfl) rfl ?_
          refine st_callR hs (made_Dice_Next_ok h5238 hw.dom (hw.ins [0] (by decide) rfl) (hw.envAt 0 rfl)) (do_call Try.call16 rfl) trivial rfl rfl ?_
          intro v5254 Sv5251 w a h5252 h5253 hs
          obtain ⟨p5240, k5241, rfl, h5255, h5242⟩ := h5253
          have hw := hw.callO [0] [1, 2, 3, 4, 5, 6] (by decide) rfl h5252 h5255
          have hw := hw.addE (e := SlA p5240 rv5239.2.L.length k5241 rv5239.2.L) h5242
          refine h_nx (hw.cs [1, 2, 3, 4, 5, 6] [] rfl rfl) fun hC => ?_
          refine h_g hs 8 rfl (by kernel_rfl) rfl rfl hC rfl (fun w hC => y_build (vs := [(0, .int .i64 (w64 (rv5234.1 - 1))), (1, .int .i64 rv5239.1)]) Bld56 rfl rfl) fun a hs => ?_
          refine h_one (i := 13) (by kernel_rfl) rfl ?_
          refine w_litSlice (α := (Arr2 Int)) (vs := [.agg #[.int .i64 i9, .int .i64 j10], .agg #[.int .i64 (w64 (rv5234.1 - 1)), .int .i64 rv5239.1], .agg #[.int .i64 0, .int .i64 (x5159.Samples.length : Int)]]) (cs := [.int .i64 i9, .int .i64 j10, .int .i64 (w64 (rv5234.1 - 1)), .int .i64 rv5239.1, .int .i64 0, .int .i64 (x5159.Samples.length : Int)]) (xs := ([(⟨i9, j10⟩ : (Arr2 Int)), (⟨(w64 (rv5234.1 - 1)), rv5239.1⟩ : (Arr2 Int)), (⟨0, (x5159.Samples.length : Int)⟩ : (Arr2 Int))] : List (Arr2 Int))) hs hw El57 rfl rfl rfl rfl rfl rfl ⟨⟨_, _, rfl, rfl, rfl⟩, ⟨⟨_, _, rfl, rfl, rfl⟩, ⟨⟨_, _, rfl, rfl, rfl⟩, rfl⟩⟩⟩ rfl trivial rfl fun b5244 a w hs hw => ?_
          refine h_nx (hw.cs [2, 3, 4, 5, 6, 7] [] rfl rfl) fun hC => ?_
          refine h_st (C' := Cls [.box b12 [.string raw5.Source.Network, .string raw5.Source.Station, .string raw5.Source.Location, .string raw5.Source.Channel, .int .i64 raw5.Start, .int .i64 raw5.First, .int .i64 raw5.Rate.Num, .int .i64 raw5.Rate.Den, .int .i64 raw5.Error, .int .i64 raw5.Run, .int .i64 raw5.Seq, .slice p6 raw5.Samples.length k7] 32, .box b77 [.string rv60.1.Source.Network, .string rv60.1.Source.Station, .string rv60.1.Source.Location, .string rv60.1.Source.Channel, .int .i64 rv60.1.Start, .int .i64 rv60.1.First, .int .i64 rv60.1.Rate.Num, .int .i64 rv60.1.Rate.Den, .int .i64 rv60.1.Error, .int .i64 rv60.1.Run, .int .i64 rv60.1.Seq, .slice p61 rv60.1.Samples.length k62] 32, .box b78 [.string x166, .string x167, .string x168, .string x169, .int .i64 x170, .int .i64 x171, .int .i64 x172, .int .i64 x173, .int .i64 x174, .int .i64 x175, .int .i64 x176, .slice p161 x177.length k162] 32, .box b5170 [.string x5159.Source.Network, .string x5159.Source.Station, .string x5159.Source.Location, .string x5159.Source.Channel, .int .i64 x5159.Start, .int .i64 x5159.First, .int .i64 x5159.Rate.Num, .int .i64 x5159.Rate.Den, .int .i64 x5159.Error, .int .i64 x5159.Run, .int .i64 x5159.Seq, .slice p5166 x5159.Samples.length k5168] 32, .box b5178 [.int .i64 rv5172.1.From, .int .i64 rv5172.1.To] 39, .row (some ⟨b188, 0, none⟩) l190.length l190.length c191 32 12, .row (some ⟨b5244, 0, none⟩) ([(⟨i9, j10⟩ : (Arr2 Int)), (⟨(w64 (rv5234.1 - 1)), rv5239.1⟩ : (Arr2 Int)), (⟨0, (x5159.Samples.length : Int)⟩ : (Arr2 Int))] : List (Arr2 Int)).length ([(⟨i9, j10⟩ : (Arr2 Int)), (⟨(w64 (rv5234.1 - 1)), rv5239.1⟩ : (Arr2 Int)), (⟨0, (x5159.Samples.length : Int)⟩ : (Arr2 Int))] : List (Arr2 Int)).length [.int .i64 i9, .int .i64 j10, .int .i64 (w64 (rv5234.1 - 1)), .int .i64 rv5239.1, .int .i64 0, .int .i64 (x5159.Samples.length : Int)] 56 2] []) (fun _ h => by exact h.sub [0, 1, 2, 3, 4, 5] (Sel.of rfl) (AllIn.of [] rfl)) (hw.cs [2, 3, 4, 5, 6, 7, 0] [] rfl rfl) fun hC => ?_
          refine h_g hs 14 rfl (by kernel_rfl) rfl rfl hC rfl (fun w hC => y_len Try.runUnderlying57 rfl) fun a hs => ?_
          refine h_done (by kernel_rfl) ?_
          exact ⟨Sv5251, b5244, k5241, p5240, (hs.wk rfl), (hw.ft [2, 1, 3, 4, 5, 6, 7, 0] [3, 1, 5, 6, 7, 8, 0] (by decide) rfl rfl)⟩
         ·rintro a w ⟨Sv5245, b5244, k5241, p5240, hs, hw⟩
          refine then_normal ?_
          refine wp_block ?_
          refine wp_while (fun sv5474 a w => ∃ (Sv5618 : Nat → Prop), Sl 365 [(2, .int .i64 i9), (3, .int .i64 j10), (4, .int .i64 k11), (6, .pointer (some ⟨b12, 0, none⟩)), (11, .pointer (some ⟨b39, 0, none⟩)), (13, .pointer (some ⟨b77, 0, none⟩)), (14, .pointer (some ⟨b78, 0, none⟩)), (16, .pointer (some ⟨b5170, 0, none⟩)), (17, .pointer (some ⟨b5178, 0, none⟩)), (94, .slice (some ⟨b188, 0, none⟩) l190.length l190.length), (95, .int .i64 (l190.length : Int)), (96, .int .i64 sv2325.2.2), (138, .slice (some ⟨b5244, 0, none⟩) ([(⟨i9, j10⟩ : (Arr2 Int)), (⟨(w64 (rv5234.1 - 1)), rv5239.1⟩ : (Arr2 Int)), (⟨0, (x5159.Samples.length : Int)⟩ : (Arr2 Int))] : List (Arr2 Int)).length ([(⟨i9, j10⟩ : (Arr2 Int)), (⟨(w64 (rv5234.1 - 1)), rv5239.1⟩ : (Arr2 Int)), (⟨0, (x5159.Samples.length : Int)⟩ : (Arr2 Int))] : List (Arr2 Int)).length), (139, .int .i64 (([(⟨i9, j10⟩ : (Arr2 Int)), (⟨(w64 (rv5234.1 - 1)), rv5239.1⟩ : (Arr2 Int)), (⟨0, (x5159.Samples.length : Int)⟩ : (Arr2 Int))] : List (Arr2 Int)).length : Int)), (140, .int .i64 sv5474)] a ∧ Wd ⟨w0, S0, []⟩ Sv5618 [.box b12 [.string raw5.Source.Network, .string raw5.Source.Station, .string raw5.Source.Location, .string raw5.Source.Channel, .int .i64 raw5.Start, .int .i64 raw5.First, .int .i64 raw5.Rate.Num, .int .i64 raw5.Rate.Den, .int .i64 raw5.Error, .int .i64 raw5.Run, .int .i64 raw5.Seq, .slice p6 raw5.Samples.length k7] 32, .box b39 [.slice p5240 rv5239.2.L.length k5241, .int .i64 rv5239.2.At] 60, .box b77 [.string rv60.1.Source.Network, .string rv60.1.Source.Station, .string rv60.1.Source.Location, .string rv60.1.Source.Channel, .int .i64 rv60.1.Start, .int .i64 rv60.1.First, .int .i64 rv60.1.Rate.Num, .int .i64 rv60.1.Rate.Den, .int .i64 rv60.1.Error, .int .i64 rv60.1.Run, .int .i64 rv60.1.Seq, .slice p61 rv60.1.Samples.length k62] 32, .box b78 [.string x166, .string x167, .string x168, .string x169, .int .i64 x170, .int .i64 x171, .int .i64 x172, .int .i64 x173, .int .i64 x174, .int .i64 x175, .int .i64 x176, .slice p161 x177.length k162] 32, .box b5170 [.string x5159.Source.Network, .string x5159.Source.Station, .string x5159.Source.Location, .string x5159.Source.Channel, .int .i64 x5159.Start, .int .i64 x5159.First, .int .i64 x5159.Rate.Num, .int .i64 x5159.Rate.Den, .int .i64 x5159.Error, .int .i64 x5159.Run, .int .i64 x5159.Seq, .slice p5166 x5159.Samples.length k5168] 32, .box b5178 [.int .i64 rv5172.1.From, .int .i64 rv5172.1.To] 39, .row (some ⟨b188, 0, none⟩) l190.length l190.length c191 32 12, .row (some ⟨b5244, 0, none⟩) ([(⟨i9, j10⟩ : (Arr2 Int)), (⟨(w64 (rv5234.1 - 1)), rv5239.1⟩ : (Arr2 Int)), (⟨0, (x5159.Samples.length : Int)⟩ : (Arr2 Int))] : List (Arr2 Int)).length ([(⟨i9, j10⟩ : (Arr2 Int)), (⟨(w64 (rv5234.1 - 1)), rv5239.1⟩ : (Arr2 Int)), (⟨0, (x5159.Samples.length : Int)⟩ : (Arr2 Int))] : List (Arr2 Int)).length [.int .i64 i9, .int .i64 j10, .int .i64 (w64 (rv5234.1 - 1)), .int .i64 rv5239.1, .int .i64 0, .int .i64 (x5159.Samples.length : Int)] 56 2] [SlA p6 raw5.Samples.length k7 raw5.Samples, SlA p5240 rv5239.2.L.length k5241 rv5239.2.L, SlA p61 rv60.1.Samples.length k62 rv60.1.Samples, SlA p161 x177.length k162 x177, SlA p5166 x5159.Samples.length k5168 x5159.Samples, RowA c191 l190, RowA [.int .i64 i9, .int .i64 j10, .int .i64 (w64 (rv5234.1 - 1)), .int .i64 rv5239.1, .int .i64 0, .int .i64 (x5159.Samples.length : Int)] ([(⟨i9, j10⟩ : (Arr2 Int)), (⟨(w64 (rv5234.1 - 1)), rv5239.1⟩ : (Arr2 Int)), (⟨0, (x5159.Samples.length : Int)⟩ : (Arr2 Int))] : List (Arr2 Int))] w) 0 hsh ⟨Sv5245, (hs.wk rfl), (hw.ft [0, 1, 2, 3, 4, 5, 6, 7] [0, 1, 2, 3, 4, 5, 6] (by decide) rfl rfl)⟩ ?_
          repeat clear hsh
          rintro sv5474 a w tv5691 ⟨Sv5618, hs, hw⟩ hsh hd5690
          delta law14_RecordExact_l25 at hsh
          refine wp_seq ?_
          refine wp_region_lit ?_
          refine st_val hs (y_lss rfl rfl) trivial rfl rfl fun a hs => ?_
          refine wpList_nil ?_
          refine then_normal ?_
          refine wp_seq ?_
          refine wp_cond_split (hs.ev rfl) (fun h5695 => ?_) (fun h5695 => ?_)
          ·have hsh := ite_t hsh h5695
           refine wp_skip ?_
           refine then_normal ?_
           refine wp_seq ?_
           refine wp_block ?_
           refine wp_seq ?_
           refine wp_region_lit ?_
           obtain ⟨x5768, h5766, hsh⟩ := bind_t hsh
           obtain ⟨q5772, c5773, h5769, h5770, h5774, h5767⟩ := hw.elemRK (α := (Arr2 Int)) 7 rfl 6 rfl h5766
           obtain ⟨_, _, rfl, rfl, rfl⟩ := h5767
           refine st_val hs (y_indexAt Try.runUnderlying57 Try.sizeOf56 rfl rfl h5769.1 h5769.2 h5770) trivial rfl rfl fun a hs => ?_
           refine st_val hs (y_loadQA (j := 0) (hw.ownAt 7 rfl) rfl Try.isAgg56 Try.sizeOf56 h5774 rfl rfl) trivial rfl rfl fun a hs => ?_
           refine w_alloc (cs := [.int .i64 0, .int .i64 0]) hs hw Try.zeroValue56 rfl rfl trivial ?_
           intro b5775 a w hs hw
           refine w_store (m := 2) (cs' := [.int .i64 x5768.e0, .int .i64 x5768.e1]) hs hw 0 rfl rfl rfl Try.sizeOf56 rfl rfl rfl rfl trivial ?_
           intro a w hs hw
           refine wpList_nil ?_
           refine then_normal ?_
           refine wp_seq ?_
           refine wp_region_lit ?_
           refine st_val hs (y_loadBA (hw.ownAt 5 rfl) rfl Try.isAgg32 Try.sizeOf32 rfl rfl) trivial rfl rfl fun a hs => ?_
           refine st_val hs (y_indexAtA (q := 0) Try.runUnderlying56 Try.sizeOf3 rfl rfl (by decide) (by decide) rfl) trivial rfl rfl fun a hs => ?_
           refine st_val hs (y_loadB1 (hw.ownAt 0 rfl) rfl Try.isAgg3 rfl) trivial rfl rfl fun a hs => ?_
           obtain ⟨rv5777, h5776, hsh⟩ := bind_t hsh
           refine st_callR hs (record_At_ok h5776 hw.bdom (hw.bE 4 rfl)) (do_call Try.call15 rfl) trivial rfl rfl ?_
           intro v5781 Sv5778 w a h5779 h5780 hs
           subst h5780
           have hw := hw.callB h5779
           refine st_val hs (y_move rfl) trivial rfl rfl fun a hs => ?_
           refine st_val hs (y_extract rfl rfl) trivial rfl rfl fun a hs => ?_
           refine st_val hs (y_extract rfl rfl) trivial rfl rfl fun a hs => ?_
           refine st_val hs (y_assign rfl) trivial rfl rfl fun a hs => ?_
           refine st_val hs (y_assign rfl) trivial rfl rfl fun a hs => ?_
           refine wpList_nil ?_
           refine then_normal ?_
           refine wp_seq ?_
           refine wp_region_lit ?_
           refine st_val hs (y_loadBA (hw.ownAt 5 rfl) rfl Try.isAgg32 Try.sizeOf32 rfl rfl) trivial rfl rfl fun a hs => ?_
           refine st_val hs (y_indexAtA (q := 0) Try.runUnderlying56 Try.sizeOf3 rfl rfl (by decide) (by decide) rfl) trivial rfl rfl fun a hs => ?_
           refine st_val hs (y_loadB1 (hw.ownAt 0 rfl) rfl Try.isAgg3 rfl) trivial rfl rfl fun a hs => ?_
           obtain ⟨rv5784, h5783, hsh⟩ := bind_t hsh
           refine st_callR hs (ref14_At_ok h5783 hw.bdom (hw.bE 4 rfl)) (do_call Try.call21 rfl) trivial rfl rfl ?_
           intro v5788 Sv5785 w a h5786 h5787 hs
           subst h5787
           have hw := hw.callB h5786
           refine st_val hs (y_move rfl) trivial rfl rfl fun a hs => ?_
           refine st_val hs (y_extract rfl rfl) trivial rfl rfl fun a hs => ?_
           refine st_val hs (y_extract rfl rfl) trivial rfl rfl fun a hs => ?_
           refine st_val hs (y_assign rfl) trivial rfl rfl fun a hs => ?_
           refine st_val hs (y_assign rfl) trivial rfl rfl fun a hs => ?_
           refine wpList_nil ?_
           refine then_normal ?_
           refine wp_seq ?_
           refine wp_region_lit ?_
           refine st_val hs (y_loadBA (hw.ownAt 5 rfl) rfl Try.isAgg32 Try.sizeOf32 rfl rfl) trivial rfl rfl fun a hs => ?_
           refine st_val hs (y_indexAtA (q := 0) Try.runUnderlying56 Try.sizeOf3 rfl rfl (by decide) (by decide) rfl) trivial rfl rfl fun a hs => ?_
           refine st_val hs (y_loadB1 (hw.ownAt 0 rfl) rfl Try.isAgg3 rfl) trivial rfl rfl fun a hs => ?_
           refine st_val hs (y_indexAtA (q := 1) Try.runUnderlying56 Try.sizeOf3 rfl rfl (by decide) (by decide) rfl) trivial rfl rfl fun a hs => ?_
           refine st_val hs (y_loadB1 (hw.ownAt 0 rfl) rfl Try.isAgg3 rfl) trivial rfl rfl fun a hs => ?_
           obtain ⟨rv5791, h5790, hsh⟩ := bind_t hsh
           refine st_callR hs (record_Sub_ok h5790 hw.dom (hw.envAt 4 rfl)) (do_call Try.call12 rfl) trivial rfl rfl ?_
           intro v5799 Sv5796 w a h5797 h5798 hs
           obtain ⟨p5792, k5793, c5795, rfl, h5800, h5794⟩ := h5798
           have hw := hw.callN h5797 h5800
           have hw := hw.addE (e := RowA c5795 rv5791.1.Samples) h5794
           refine st_val hs (y_move rfl) trivial rfl rfl fun a hs => ?_
           refine st_val hs (y_extract rfl rfl) trivial rfl rfl fun a hs => ?_
           refine st_val hs (y_extract rfl rfl) trivial rfl rfl fun a hs => ?_
           refine w_alloc (cs := [.string ByteArray.empty, .string ByteArray.empty, .string ByteArray.empty, .string ByteArray.empty, .int .i64 0, .int .i64 0, .int .i64 0, .int .i64 0, .int .i64 0, .int .i64 0, .int .i64 0, .slice none ([] : List Int).length 0]) hs hw Try.zeroValue32 rfl rfl trivial ?_
           intro b5801 a w hs hw
           refine w_store (m := 12) (cs' := [.string rv5791.1.Source.Network, .string rv5791.1.Source.Station, .string rv5791.1.Source.Location, .string rv5791.1.Source.Channel, .int .i64 rv5791.1.Start, .int .i64 rv5791.1.First, .int .i64 rv5791.1.Rate.Num, .int .i64 rv5791.1.Rate.Den, .int .i64 rv5791.1.Error, .int .i64 rv5791.1.Run, .int .i64 rv5791.1.Seq, .slice p5792 rv5791.1.Samples.length k5793]) hs hw 0 rfl rfl rfl Try.sizeOf32 rfl rfl rfl rfl trivial ?_
           intro a w hs hw
           refine st_val hs (y_assign rfl) trivial rfl rfl fun a hs => ?_
           refine wpList_nil ?_
           refine then_normal ?_
           refine wp_seq ?_
           refine wp_region_lit ?_
           refine st_val hs (y_loadBA (hw.ownAt 7 rfl) rfl Try.isAgg32 Try.sizeOf32 rfl rfl) trivial rfl rfl fun a hs => ?_
           refine st_val hs (y_indexAtA (q := 0) Try.runUnderlying56 Try.sizeOf3 rfl rfl (by decide) (by decide) rfl) trivial rfl rfl fun a hs => ?_
           refine st_val hs (y_loadB1 (hw.ownAt 2 rfl) rfl Try.isAgg3 rfl) trivial rfl rfl fun a hs => ?_
           refine st_val hs (y_indexAtA (q := 1) Try.runUnderlying56 Try.sizeOf3 rfl rfl (by decide) (by decide) rfl) trivial rfl rfl fun a hs => ?_
           refine st_val hs (y_loadB1 (hw.ownAt 2 rfl) rfl Try.isAgg3 rfl) trivial rfl rfl fun a hs => ?_
           obtain ⟨rv5803, h5802, hsh⟩ := bind_t hsh
           refine st_callR hs (ref14_Sub_ok h5802 hw.dom (hw.envAt 5 rfl)) (do_call Try.call28 rfl) trivial rfl rfl ?_
           intro v5811 Sv5808 w a h5809 h5810 hs
           obtain ⟨p5804, k5805, c5807, rfl, h5812, h5806⟩ := h5810
           have hw := hw.callN h5809 h5812
           have hw := hw.addE (e := RowA c5807 rv5803.1.Samples) h5806
           refine st_val hs (y_move rfl) trivial rfl rfl fun a hs => ?_
           refine st_val hs (y_extract rfl rfl) trivial rfl rfl fun a hs => ?_
           refine st_val hs (y_extract rfl rfl) trivial rfl rfl fun a hs => ?_
           refine w_alloc (cs := [.string ByteArray.empty, .string ByteArray.empty, .string ByteArray.empty, .string ByteArray.empty, .int .i64 0, .int .i64 0, .int .i64 0, .int .i64 0, .int .i64 0, .int .i64 0, .int .i64 0, .slice none ([] : List Int).length 0]) hs hw Try.zeroValue32 rfl rfl trivial ?_
           intro b5813 a w hs hw
           refine w_store (m := 12) (cs' := [.string rv5803.1.Source.Network, .string rv5803.1.Source.Station, .string rv5803.1.Source.Location, .string rv5803.1.Source.Channel, .int .i64 rv5803.1.Start, .int .i64 rv5803.1.First, .int .i64 rv5803.1.Rate.Num, .int .i64 rv5803.1.Rate.Den, .int .i64 rv5803.1.Error, .int .i64 rv5803.1.Run, .int .i64 rv5803.1.Seq, .slice p5804 rv5803.1.Samples.length k5805]) hs hw 0 rfl rfl rfl Try.sizeOf32 rfl rfl rfl rfl trivial ?_
           intro a w hs hw
           refine st_val hs (y_assign rfl) trivial rfl rfl fun a hs => ?_
           refine wpList_nil ?_
           refine then_normal ?_
           refine wp_seq ?_
           refine wp_region_lit ?_
           refine st_val hs (y_move rfl) trivial rfl rfl fun a hs => ?_
           refine st_val hs (y_move rfl) trivial rfl rfl fun a hs => ?_
           refine st_val hs (y_neq rfl rfl) trivial rfl rfl fun a hs => ?_
           refine st_val hs (y_move rfl) trivial rfl rfl fun a hs => ?_
           refine wpl_join 4 (fun a w1 => w = w1 ∧ Sl 365 [(2, .int .i64 i9), (3, .int .i64 j10), (4, .int .i64 k11), (6, .pointer (some ⟨b12, 0, none⟩)), (11, .pointer (some ⟨b39, 0, none⟩)), (13, .pointer (some ⟨b77, 0, none⟩)), (14, .pointer (some ⟨b78, 0, none⟩)), (16, .pointer (some ⟨b5170, 0, none⟩)), (17, .pointer (some ⟨b5178, 0, none⟩)), (27, .pointer (some ⟨b5801, 0, none⟩)), (28, .int .i64 rv5791.2), (29, .pointer (some ⟨b5813, 0, none⟩)), (30, .int .i64 rv5803.2), (94, .slice (some ⟨b188, 0, none⟩) l190.length l190.length), (95, .int .i64 (l190.length : Int)), (96, .int .i64 sv2325.2.2), (138, .slice (some ⟨b5244, 0, none⟩) ([(⟨i9, j10⟩ : (Arr2 Int)), (⟨(w64 (rv5234.1 - 1)), rv5239.1⟩ : (Arr2 Int)), (⟨0, (x5159.Samples.length : Int)⟩ : (Arr2 Int))] : List (Arr2 Int)).length ([(⟨i9, j10⟩ : (Arr2 Int)), (⟨(w64 (rv5234.1 - 1)), rv5239.1⟩ : (Arr2 Int)), (⟨0, (x5159.Samples.length : Int)⟩ : (Arr2 Int))] : List (Arr2 Int)).length), (139, .int .i64 (([(⟨i9, j10⟩ : (Arr2 Int)), (⟨(w64 (rv5234.1 - 1)), rv5239.1⟩ : (Arr2 Int)), (⟨0, (x5159.Samples.length : Int)⟩ : (Arr2 Int))] : List (Arr2 Int)).length : Int)), (140, .int .i64 sv5474), (183, .bool ((rv5777.1 != rv5784.1) || (rv5777.2 != rv5784.2)))] a) ?_ ?_
           ·rcases Bool.eq_false_or_eq_true (rv5777.1 != rv5784.1) with h5814 | h5814
            ·have hs := hs.fix 179 (.bool true) rfl (vb h5814)
             refine st_skip hs rfl rfl rfl rfl rfl fun a hs => ?_
             refine st_skip hs rfl rfl rfl rfl rfl fun a hs => ?_
             refine st_skip hs rfl rfl rfl rfl rfl fun a hs => ?_
             refine st_val hs (y_pickT rfl rfl) trivial rfl rfl fun a hs => ?_
             refine wpList_nil ?_
             refine then_normal ?_
             exact ⟨rfl, (hs.fix 183 (.bool ((rv5777.1 != rv5784.1) || (rv5777.2 != rv5784.2))) rfl (or_t h5814)).weaken _ ⟨rfl, rfl, rfl, rfl, rfl, rfl, rfl, rfl, rfl, rfl, rfl, rfl, rfl, rfl, rfl, rfl, rfl, rfl, rfl, rfl, trivial⟩⟩
            ·have hs := hs.fix 179 (.bool false) rfl (vb h5814)
             refine st_val hs (y_move rfl) ⟨_, rfl, rfl⟩ rfl rfl fun a hs => ?_
             refine st_val hs (y_move rfl) ⟨_, rfl, rfl⟩ rfl rfl fun a hs => ?_
             refine st_val hs (y_neq rfl rfl) ⟨_, rfl, rfl⟩ rfl rfl fun a hs => ?_
             refine st_val hs (y_pickF rfl rfl) trivial rfl rfl fun a hs => ?_
             refine wpList_nil ?_
             refine then_normal ?_
             exact ⟨rfl, (hs.fix 183 (.bool ((rv5777.1 != rv5784.1) || (rv5777.2 != rv5784.2))) rfl (or_f h5814)).weaken _ ⟨rfl, rfl, rfl, rfl, rfl, rfl, rfl, rfl, rfl, rfl, rfl, rfl, rfl, rfl, rfl, rfl, rfl, rfl, rfl, rfl, trivial⟩⟩
           ·rintro a w1 ⟨h5838, hs⟩
            subst h5838
            refine st_val hs (y_move rfl) trivial rfl rfl fun a hs => ?_
            refine wpl_join 4 (fun a w1 => w = w1 ∧ Sl 365 [(2, .int .i64 i9), (3, .int .i64 j10), (4, .int .i64 k11), (6, .pointer (some ⟨b12, 0, none⟩)), (11, .pointer (some ⟨b39, 0, none⟩)), (13, .pointer (some ⟨b77, 0, none⟩)), (14, .pointer (some ⟨b78, 0, none⟩)), (16, .pointer (some ⟨b5170, 0, none⟩)), (17, .pointer (some ⟨b5178, 0, none⟩)), (27, .pointer (some ⟨b5801, 0, none⟩)), (29, .pointer (some ⟨b5813, 0, none⟩)), (94, .slice (some ⟨b188, 0, none⟩) l190.length l190.length), (95, .int .i64 (l190.length : Int)), (96, .int .i64 sv2325.2.2), (138, .slice (some ⟨b5244, 0, none⟩) ([(⟨i9, j10⟩ : (Arr2 Int)), (⟨(w64 (rv5234.1 - 1)), rv5239.1⟩ : (Arr2 Int)), (⟨0, (x5159.Samples.length : Int)⟩ : (Arr2 Int))] : List (Arr2 Int)).length ([(⟨i9, j10⟩ : (Arr2 Int)), (⟨(w64 (rv5234.1 - 1)), rv5239.1⟩ : (Arr2 Int)), (⟨0, (x5159.Samples.length : Int)⟩ : (Arr2 Int))] : List (Arr2 Int)).length), (139, .int .i64 (([(⟨i9, j10⟩ : (Arr2 Int)), (⟨(w64 (rv5234.1 - 1)), rv5239.1⟩ : (Arr2 Int)), (⟨0, (x5159.Samples.length : Int)⟩ : (Arr2 Int))] : List (Arr2 Int)).length : Int)), (140, .int .i64 sv5474), (188, .bool (((rv5777.1 != rv5784.1) || (rv5777.2 != rv5784.2)) || (rv5791.2 != rv5803.2)))] a) ?_ ?_
            ·rcases Bool.eq_false_or_eq_true ((rv5777.1 != rv5784.1) || (rv5777.2 != rv5784.2)) with h5815 | h5815
             ·have hs := hs.fix 184 (.bool true) rfl (vb h5815)
              refine st_skip hs rfl rfl rfl rfl rfl fun a hs => ?_
              refine st_skip hs rfl rfl rfl rfl rfl fun a hs => ?_
              refine st_skip hs rfl rfl rfl rfl rfl fun a hs => ?_
              refine st_val hs (y_pickT rfl rfl) trivial rfl rfl fun a hs => ?_
              refine wpList_nil ?_
              refine then_normal ?_
              exact ⟨rfl, (hs.fix 188 (.bool (((rv5777.1 != rv5784.1) || (rv5777.2 != rv5784.2)) || (rv5791.2 != rv5803.2))) rfl (or_t h5815)).weaken _ ⟨rfl, rfl, rfl, rfl, rfl, rfl, rfl, rfl, rfl, rfl, rfl, rfl, rfl, rfl, rfl, rfl, rfl, rfl, trivial⟩⟩
             ·have hs := hs.fix 184 (.bool false) rfl (vb h5815)
              refine st_val hs (y_move rfl) ⟨_, rfl, rfl⟩ rfl rfl fun a hs => ?_
              refine st_val hs (y_move rfl) ⟨_, rfl, rfl⟩ rfl rfl fun a hs => ?_
              refine st_val hs (y_neq rfl rfl) ⟨_, rfl, rfl⟩ rfl rfl fun a hs => ?_
              refine st_val hs (y_pickF rfl rfl) trivial rfl rfl fun a hs => ?_
              refine wpList_nil ?_
              refine then_normal ?_
              exact ⟨rfl, (hs.fix 188 (.bool (((rv5777.1 != rv5784.1) || (rv5777.2 != rv5784.2)) || (rv5791.2 != rv5803.2))) rfl (or_f h5815)).weaken _ ⟨rfl, rfl, rfl, rfl, rfl, rfl, rfl, rfl, rfl, rfl, rfl, rfl, rfl, rfl, rfl, rfl, rfl, rfl, trivial⟩⟩
            ·rintro a w1 ⟨h5837, hs⟩
             subst h5837
             refine st_val hs (y_move rfl) trivial rfl rfl fun a hs => ?_
             obtain ⟨c5824, hc5824, hsh⟩ := bind_t hsh
             refine wpl_join 5 (fun a w => ∃ (Sv5825 : Nat → Prop), Sl 365 [(2, .int .i64 i9), (3, .int .i64 j10), (4, .int .i64 k11), (6, .pointer (some ⟨b12, 0, none⟩)), (11, .pointer (some ⟨b39, 0, none⟩)), (13, .pointer (some ⟨b77, 0, none⟩)), (14, .pointer (some ⟨b78, 0, none⟩)), (16, .pointer (some ⟨b5170, 0, none⟩)), (17, .pointer (some ⟨b5178, 0, none⟩)), (94, .slice (some ⟨b188, 0, none⟩) l190.length l190.length), (95, .int .i64 (l190.length : Int)), (96, .int .i64 sv2325.2.2), (138, .slice (some ⟨b5244, 0, none⟩) ([(⟨i9, j10⟩ : (Arr2 Int)), (⟨(w64 (rv5234.1 - 1)), rv5239.1⟩ : (Arr2 Int)), (⟨0, (x5159.Samples.length : Int)⟩ : (Arr2 Int))] : List (Arr2 Int)).length ([(⟨i9, j10⟩ : (Arr2 Int)), (⟨(w64 (rv5234.1 - 1)), rv5239.1⟩ : (Arr2 Int)), (⟨0, (x5159.Samples.length : Int)⟩ : (Arr2 Int))] : List (Arr2 Int)).length), (139, .int .i64 (([(⟨i9, j10⟩ : (Arr2 Int)), (⟨(w64 (rv5234.1 - 1)), rv5239.1⟩ : (Arr2 Int)), (⟨0, (x5159.Samples.length : Int)⟩ : (Arr2 Int))] : List (Arr2 Int)).length : Int)), (140, .int .i64 sv5474), (194, .bool c5824)] a ∧ Wd ⟨w0, S0, []⟩ Sv5825 [.box b12 [.string raw5.Source.Network, .string raw5.Source.Station, .string raw5.Source.Location, .string raw5.Source.Channel, .int .i64 raw5.Start, .int .i64 raw5.First, .int .i64 raw5.Rate.Num, .int .i64 raw5.Rate.Den, .int .i64 raw5.Error, .int .i64 raw5.Run, .int .i64 raw5.Seq, .slice p6 raw5.Samples.length k7] 32, .box b39 [.slice p5240 rv5239.2.L.length k5241, .int .i64 rv5239.2.At] 60, .box b77 [.string rv60.1.Source.Network, .string rv60.1.Source.Station, .string rv60.1.Source.Location, .string rv60.1.Source.Channel, .int .i64 rv60.1.Start, .int .i64 rv60.1.First, .int .i64 rv60.1.Rate.Num, .int .i64 rv60.1.Rate.Den, .int .i64 rv60.1.Error, .int .i64 rv60.1.Run, .int .i64 rv60.1.Seq, .slice p61 rv60.1.Samples.length k62] 32, .box b78 [.string x166, .string x167, .string x168, .string x169, .int .i64 x170, .int .i64 x171, .int .i64 x172, .int .i64 x173, .int .i64 x174, .int .i64 x175, .int .i64 x176, .slice p161 x177.length k162] 32, .box b5170 [.string x5159.Source.Network, .string x5159.Source.Station, .string x5159.Source.Location, .string x5159.Source.Channel, .int .i64 x5159.Start, .int .i64 x5159.First, .int .i64 x5159.Rate.Num, .int .i64 x5159.Rate.Den, .int .i64 x5159.Error, .int .i64 x5159.Run, .int .i64 x5159.Seq, .slice p5166 x5159.Samples.length k5168] 32, .box b5178 [.int .i64 rv5172.1.From, .int .i64 rv5172.1.To] 39, .row (some ⟨b188, 0, none⟩) l190.length l190.length c191 32 12, .row (some ⟨b5244, 0, none⟩) ([(⟨i9, j10⟩ : (Arr2 Int)), (⟨(w64 (rv5234.1 - 1)), rv5239.1⟩ : (Arr2 Int)), (⟨0, (x5159.Samples.length : Int)⟩ : (Arr2 Int))] : List (Arr2 Int)).length ([(⟨i9, j10⟩ : (Arr2 Int)), (⟨(w64 (rv5234.1 - 1)), rv5239.1⟩ : (Arr2 Int)), (⟨0, (x5159.Samples.length : Int)⟩ : (Arr2 Int))] : List (Arr2 Int)).length [.int .i64 i9, .int .i64 j10, .int .i64 (w64 (rv5234.1 - 1)), .int .i64 rv5239.1, .int .i64 0, .int .i64 (x5159.Samples.length : Int)] 56 2] [SlA p6 raw5.Samples.length k7 raw5.Samples, SlA p5240 rv5239.2.L.length k5241 rv5239.2.L, SlA p61 rv60.1.Samples.length k62 rv60.1.Samples, SlA p161 x177.length k162 x177, SlA p5166 x5159.Samples.length k5168 x5159.Samples, RowA c191 l190, RowA [.int .i64 i9, .int .i64 j10, .int .i64 (w64 (rv5234.1 - 1)), .int .i64 rv5239.1, .int .i64 0, .int .i64 (x5159.Samples.length : Int)] ([(⟨i9, j10⟩ : (Arr2 Int)), (⟨(w64 (rv5234.1 - 1)), rv5239.1⟩ : (Arr2 Int)), (⟨0, (x5159.Samples.length : Int)⟩ : (Arr2 Int))] : List (Arr2 Int))] w) ?_ ?_
             ·rcases Bool.eq_false_or_eq_true (((rv5777.1 != rv5784.1) || (rv5777.2 != rv5784.2)) || (rv5791.2 != rv5803.2)) with h5823 | h5823
              ·have hs := hs.fix 189 (.bool true) rfl (vb h5823)
               have hsh := ite_t hc5824 h5823
               refine st_skip hs rfl rfl rfl rfl rfl fun a hs => ?_
               refine st_skip hs rfl rfl rfl rfl rfl fun a hs => ?_
               refine st_skip hs rfl rfl rfl rfl rfl fun a hs => ?_
               refine st_skip hs rfl rfl rfl rfl rfl fun a hs => ?_
               refine st_val hs (y_pickT rfl rfl) trivial rfl rfl fun a hs => ?_
               refine wpList_nil ?_
               have hsh := Option.some.inj hsh
               subst hsh
               refine then_normal ?_
               exact ⟨Sv5808, (hs.wk rfl), (hw.ft [5, 6, 7, 8, 9, 10, 11, 12] [2, 3, 4, 5, 6, 7, 8] (by decide) rfl rfl)⟩
              ·have hs := hs.fix 189 (.bool false) rfl (vb h5823)
               have hsh := ite_f hc5824 h5823
               refine st_val hs (y_loadBA (hw.ownAt 2 rfl) rfl Try.isAgg32 Try.sizeOf32 rfl rfl) ⟨_, rfl, rfl⟩ rfl rfl fun a hs => ?_
               refine st_val hs (y_loadBA (hw.ownAt 0 rfl) rfl Try.isAgg32 Try.sizeOf32 rfl rfl) ⟨_, rfl, rfl⟩ rfl rfl fun a hs => ?_
               obtain ⟨rv5827, h5826, hsh⟩ := bind_t hsh
               refine st_callR hs (ref14_Same_ok h5826 hw.bdom (hw.bRow 3 rfl 1 rfl) (hw.bRow 1 rfl 0 rfl)) (do_call Try.call29 rfl) ⟨_, rfl, rfl⟩ rfl rfl ?_
               intro v5831 Sv5828 w a h5829 h5830 hs
               subst h5830
               have hw := hw.callB h5829
               refine st_val hs (y_not rfl) ⟨_, rfl, rfl⟩ rfl rfl fun a hs => ?_
               refine st_val hs (y_pickF rfl rfl) trivial rfl rfl fun a hs => ?_
               refine wpList_nil ?_
               have hsh := Option.some.inj hsh
               subst hsh
               refine then_normal ?_
               exact ⟨Sv5808, (hs.wk rfl), (hw.ft [5, 6, 7, 8, 9, 10, 11, 12] [2, 3, 4, 5, 6, 7, 8] (by decide) rfl rfl)⟩
             ·rintro a w ⟨Sv5825, hs, hw⟩
              refine wpList_nil ?_
              refine then_normal ?_
              refine wp_cond_split (hs.ev rfl) (fun h5834 => ?_) (fun h5834 => ?_)
              ·have hsh := ite_t hsh h5834
               refine wp_seq ?_
               refine wp_region_lit ?_
               refine st_val hs (y_assign rfl) trivial rfl rfl fun a hs => ?_
               refine wpList_nil ?_
               refine then_normal ?_
               have hsh := Option.some.inj hsh
               subst hsh
               have h5835 := hd5690 _ rfl
               subst h5835
               have h5836 := hd4447 _ rfl
               subst h5836
               refine wp_ret ?_
               refine blk_ret ?_
               refine then_ret ?_
               refine then_ret ?_
               refine blk_ret ?_
               refine then_ret ?_
               refine blk_ret ?_
               refine then_ret ?_
               refine then_ret ?_
               refine blk_ret ?_
               refine then_ret ?_
               exact ret1 hs rfl (rv_tmp rfl) (hw.ret rfl)
              ·have hsh := ite_f hsh h5834
               refine wp_skip ?_
               refine blk_normal ?_
               refine then_normal ?_
               refine wp_region_lit ?_
               refine st_val hs (y_add rfl rfl) trivial rfl rfl fun a hs => ?_
               refine st_val hs (y_move rfl) trivial rfl rfl fun a hs => ?_
               refine wpList_nil ?_
               refine then_normal ?_
               exact ⟨_, (Option.some.inj hsh).symm, Sv5825, (hs.wk rfl), (hw.ft [0, 1, 2, 3, 4, 5, 6, 7] [0, 1, 2, 3, 4, 5, 6] (by decide) rfl rfl)⟩
          ·have hsh := ite_f hsh h5695
           obtain ⟨rv7238, hsh, h7239⟩ := map_t hsh
           have h7239 := (hd5690 _ h7239.symm).symm
           subst h7239
           refine wp_exit ?_
           refine then_exit ?_
           refine then_exit ?_
           refine blk_exit ?_
           refine then_normal ?_
           refine wp_seq ?_
           refine wp_seq ?_
           obtain ⟨rv5840, h5839, hsh⟩ := bind_t hsh
           obtain ⟨rv5845, h5844, hsh⟩ := bind_t hsh
           refine wp_only (fun a w => ∃ (Sv5851 : Nat → Prop) (b5850 : Nat) (k5847 : Nat) (p5846 : Option Addr), Sl 365 [(2, .int .i64 i9), (3, .int .i64 j10), (4, .int .i64 k11), (6, .pointer (some ⟨b12, 0, none⟩)), (11, .pointer (some ⟨b39, 0, none⟩)), (13, .pointer (some ⟨b77, 0, none⟩)), (14, .pointer (some ⟨b78, 0, none⟩)), (16, .pointer (some ⟨b5170, 0, none⟩)), (94, .slice (some ⟨b188, 0, none⟩) l190.length l190.length), (95, .int .i64 (l190.length : Int)), (96, .int .i64 sv2325.2.2), (213, .slice (some ⟨b5850, 0, none⟩) ([(⟨i9, j10⟩ : (Arr2 Int)), (⟨(w64 (1000000000000 + (w64 (500000 * rv5840.1)))), (w64 (1000000000000 + (w64 (500000 * rv5845.1))))⟩ : (Arr2 Int)), (⟨rv5172.1.From, rv5172.1.To⟩ : (Arr2 Int))] : List (Arr2 Int)).length ([(⟨i9, j10⟩ : (Arr2 Int)), (⟨(w64 (1000000000000 + (w64 (500000 * rv5840.1)))), (w64 (1000000000000 + (w64 (500000 * rv5845.1))))⟩ : (Arr2 Int)), (⟨rv5172.1.From, rv5172.1.To⟩ : (Arr2 Int))] : List (Arr2 Int)).length), (214, .int .i64 (([(⟨i9, j10⟩ : (Arr2 Int)), (⟨(w64 (1000000000000 + (w64 (500000 * rv5840.1)))), (w64 (1000000000000 + (w64 (500000 * rv5845.1))))⟩ : (Arr2 Int)), (⟨rv5172.1.From, rv5172.1.To⟩ : (Arr2 Int))] : List (Arr2 Int)).length : Int)), (215, .int .i64 0)] a ∧ Wd ⟨w0, S0, []⟩ Sv5851 [.box b12 [.string raw5.Source.Network, .string raw5.Source.Station, .string raw5.Source.Location, .string raw5.Source.Channel, .int .i64 raw5.Start, .int .i64 raw5.First, .int .i64 raw5.Rate.Num, .int .i64 raw5.Rate.Den, .int .i64 raw5.Error, .int .i64 raw5.Run, .int .i64 raw5.Seq, .slice p6 raw5.Samples.length k7] 32, .box b39 [.slice p5846 rv5845.2.L.length k5847, .int .i64 rv5845.2.At] 60, .box b77 [.string rv60.1.Source.Network, .string rv60.1.Source.Station, .string rv60.1.Source.Location, .string rv60.1.Source.Channel, .int .i64 rv60.1.Start, .int .i64 rv60.1.First, .int .i64 rv60.1.Rate.Num, .int .i64 rv60.1.Rate.Den, .int .i64 rv60.1.Error, .int .i64 rv60.1.Run, .int .i64 rv60.1.Seq, .slice p61 rv60.1.Samples.length k62] 32, .box b78 [.string x166, .string x167, .string x168, .string x169, .int .i64 x170, .int .i64 x171, .int .i64 x172, .int .i64 x173, .int .i64 x174, .int .i64 x175, .int .i64 x176, .slice p161 x177.length k162] 32, .box b5170 [.string x5159.Source.Network, .string x5159.Source.Station, .string x5159.Source.Location, .string x5159.Source.Channel, .int .i64 x5159.Start, .int .i64 x5159.First, .int .i64 x5159.Rate.Num, .int .i64 x5159.Rate.Den, .int .i64 x5159.Error, .int .i64 x5159.Run, .int .i64 x5159.Seq, .slice p5166 x5159.Samples.length k5168] 32, .row (some ⟨b188, 0, none⟩) l190.length l190.length c191 32 12, .row (some ⟨b5850, 0, none⟩) ([(⟨i9, j10⟩ : (Arr2 Int)), (⟨(w64 (1000000000000 + (w64 (500000 * rv5840.1)))), (w64 (1000000000000 + (w64 (500000 * rv5845.1))))⟩ : (Arr2 Int)), (⟨rv5172.1.From, rv5172.1.To⟩ : (Arr2 Int))] : List (Arr2 Int)).length ([(⟨i9, j10⟩ : (Arr2 Int)), (⟨(w64 (1000000000000 + (w64 (500000 * rv5840.1)))), (w64 (1000000000000 + (w64 (500000 * rv5845.1))))⟩ : (Arr2 Int)), (⟨rv5172.1.From, rv5172.1.To⟩ : (Arr2 Int))] : List (Arr2 Int)).length [.int .i64 i9, .int .i64 j10, .int .i64 (w64 (1000000000000 + (w64 (500000 * rv5840.1)))), .int .i64 (w64 (1000000000000 + (w64 (500000 * rv5845.1)))), .int .i64 rv5172.1.From, .int .i64 rv5172.1.To] 56 2] [SlA p6 raw5.Samples.length k7 raw5.Samples, SlA p5846 rv5845.2.L.length k5847 rv5845.2.L, SlA p61 rv60.1.Samples.length k62 rv60.1.Samples, SlA p161 x177.length k162 x177, SlA p5166 x5159.Samples.length k5168 x5159.Samples, RowA c191 l190, RowA [.int .i64 i9, .int .i64 j10, .int .i64 (w64 (1000000000000 + (w64 (500000 * rv5840.1)))), .int .i64 (w64 (1000000000000 + (w64 (500000 * rv5845.1)))), .int .i64 rv5172.1.From, .int .i64 rv5172.1.To] ([(⟨i9, j10⟩ : (Arr2 Int)), (⟨(w64 (1000000000000 + (w64 (500000 * rv5840.1)))), (w64 (1000000000000 + (w64 (500000 * rv5845.1))))⟩ : (Arr2 Int)), (⟨rv5172.1.From, rv5172.1.To⟩ : (Arr2 Int))] : List (Arr2 Int))] w) ?_ ?_
           ·refine h_b (C := Cls [.box b12 [.string raw5.Source.Network, .string raw5.Source.Station, .string raw5.Source.Location, .string raw5.Source.Channel, .int .i64 raw5.Start, .int .i64 raw5.First, .int .i64 raw5.Rate.Num, .int .i64 raw5.Rate.Den, .int .i64 raw5.Error, .int .i64 raw5.Run, .int .i64 raw5.Seq, .slice p6 raw5.Samples.length k7] 32, .box b77 [.string rv60.1.Source.Network, .string rv60.1.Source.Station, .string rv60.1.Source.Location, .string rv60.1.Source.Channel, .int .i64 rv60.1.Start, .int .i64 rv60.1.First, .int .i64 rv60.1.Rate.Num, .int .i64 rv60.1.Rate.Den, .int .i64 rv60.1.Error, .int .i64 rv60.1.Run, .int .i64 rv60.1.Seq, .slice p61 rv60.1.Samples.length k62] 32, .box b78 [.string x166, .string x167, .string x168, .string x169, .int .i64 x170, .int .i64 x171, .int .i64 x172, .int .i64 x173, .int .i64 x174, .int .i64 x175, .int .i64 x176, .slice p161 x177.length k162] 32, .box b5170 [.string x5159.Source.Network, .string x5159.Source.Station, .string x5159.Source.Location, .string x5159.Source.Channel, .int .i64 x5159.Start, .int .i64 x5159.First, .int .i64 x5159.Rate.Num, .int .i64 x5159.Rate.Den, .int .i64 x5159.Error, .int .i64 x5159.Run, .int .i64 x5159.Seq, .slice p5166 x5159.Samples.length k5168] 32, .box b5178 [.int .i64 rv5172.1.From, .int .i64 rv5172.1.To] 39, .row (some ⟨b188, 0, none⟩) l190.length l190.length c191 32 12, .row (some ⟨b5244, 0, none⟩) ([(⟨i9, j10⟩ : (Arr2 Int)), (⟨(w64 (rv5234.1 - 1)), rv5239.1⟩ : (Arr2 Int)), (⟨0, (x5159.Samples.length : Int)⟩ : (Arr2 Int))] : List (Arr2 Int)).length ([(⟨i9, j10⟩ : (Arr2 Int)), (⟨(w64 (rv5234.1 - 1)), rv5239.1⟩ : (Arr2 Int)), (⟨0, (x5159.Samples.length : Int)⟩ : (Arr2 Int))] : List (Arr2 Int)).length [.int .i64 i9, .int .i64 j10, .int .i64 (w64 (rv5234.1 - 1)), .int .i64 rv5239.1, .int .i64 0, .int .i64 (x5159.Samples.length : Int)] 56 2] []) (by kernel_rfl) rfl (hw.drew.cs [0, 2, 3, 4, 5, 6, 7] [] rfl rfl) fun hC => ?_
            have hw := hw.drew
            refine h_g hs 0 rfl (by kernel_rfl) rfl rfl hC rfl (fun w hC => y_move rfl) fun a hs => ?_
            refine h_g hs 1 rfl (by kernel_rfl) rfl rfl hC rfl (fun w hC => y_move rfl) fun a hs => ?_
            refine h_g hs 2 rfl (by kernel_rfl) rfl rfl hC rfl (fun w hC => y_build (vs := [(0, .int .i64 i9), (1, .int .i64 j10)]) Bld56 rfl rfl) fun a hs => ?_
            refine h_g hs 3 rfl (by kernel_rfl) rfl rfl hC rfl (fun w hC => y_move rfl) fun a hs => ?_
            refine h_g hs 7 rfl (by kernel_rfl) rfl rfl hC rfl (fun w hC => y_move rfl) fun a hs => ?_
            refine h_g hs 12 rfl (by kernel_rfl) rfl rfl hC rfl (fun w hC => y_fieldAddr (o' := 0) Try.runUnderlying39 rfl Try.sizeOf3 rfl rfl rfl) fun a hs => ?_
            refine h_g hs 13 rfl (by kernel_rfl) rfl rfl hC rfl (fun w hC => y_loadB1 (hC.ownAt 4 rfl) rfl Try.isAgg3 rfl) fun a hs => ?_
            refine h_g hs 14 rfl (by kernel_rfl) rfl rfl hC rfl (fun w hC => y_fieldAddr (o' := 1) Try.runUnderlying39 rfl Try.sizeOf3 rfl rfl rfl) fun a hs => ?_
            refine h_g hs 15 rfl (by kernel_rfl) rfl rfl hC rfl (fun w hC => y_loadB1 (hC.ownAt 4 rfl) rfl Try.isAgg3 rfl) fun a hs => ?_
            refine h_g hs 16 rfl (by kernel_rfl) rfl rfl hC rfl (fun w hC => y_build (vs := [(0, .int .i64 rv5172.1.From), (1, .int .i64 rv5172.1.To)]) Bld56 rfl rfl) fun a hs => ?_
            refine h_g hs 19 rfl (by kernel_rfl) rfl rfl hC rfl (fun w hC => y_move rfl) fun a hs => ?_
            refine h_one (i := 4) (by kernel_rfl) rfl ?_
            refine st_callR hs (made_Dice_Next_ok h5839 hw.dom (hw.ins [1] (by decide) rfl) (hw.envAt 1 rfl)) (do_call Try.call16 rfl) trivial rfl rfl ?_
            intro v5855 Sv5852 w a h5853 h5854 hs
            obtain ⟨p5841, k5842, rfl, h5856, h5843⟩ := h5854
            have hw := hw.callO [1] [0, 2, 3, 4, 5, 6, 7] (by decide) rfl h5853 h5856
            have hw := hw.addE (e := SlA p5841 rv5840.2.L.length k5842 rv5840.2.L) h5843
            refine h_nx (hw.cs [1, 2, 3, 4, 5, 6, 7] [] rfl rfl) fun hC => ?_
            refine h_g hs 5 rfl (by kernel_rfl) rfl rfl hC rfl (fun w hC => y_mul rfl rfl) fun a hs => ?_
            refine h_g hs 6 rfl (by kernel_rfl) rfl rfl hC rfl (fun w hC => y_add rfl rfl) fun a hs => ?_
            refine h_one (i := 8) (by kernel_rfl) rfl ?_
            refine st_callR hs (made_Dice_Next_ok h5844 hw.dom (hw.ins [0] (by decide) rfl) (hw.envAt 0 rfl)) (do_call Try.call16 rfl) trivial rfl rfl ?_
            intro v5860 Sv5857 w a h5858 h5859 hs
            obtain ⟨p5846, k5847, rfl, h5861, h5848⟩ := h5859
            have hw := hw.callO [0] [1, 2, 3, 4, 5, 6, 7] (by decide) rfl h5858 h5861
            have hw := hw.addE (e := SlA p5846 rv5845.2.L.length k5847 rv5845.2.L) h5848
            refine h_nx (hw.cs [1, 2, 3, 4, 5, 6, 7] [] rfl rfl) fun hC => ?_
            refine h_g hs 9 rfl (by kernel_rfl) rfl rfl hC rfl (fun w hC => y_mul rfl rfl) fun a hs => ?_
            refine h_g hs 10 rfl (by kernel_rfl) rfl rfl hC rfl (fun w hC => y_add rfl rfl) fun a hs => ?_
            refine h_g hs 11 rfl (by kernel_rfl) rfl rfl hC rfl (fun w hC => y_build (vs := [(0, .int .i64 (w64 (1000000000000 + (w64 (500000 * rv5840.1))))), (1, .int .i64 (w64 (1000000000000 + (w64 (500000 * rv5845.1)))))]) Bld56 rfl rfl) fun a hs => ?_
            refine h_one (i := 17) (by kernel_rfl) rfl ?_
            refine w_litSlice (α := (Arr2 Int)) (vs := [.agg #[.int .i64 i9, .int .i64 j10], .agg #[.int .i64 (w64 (1000000000000 + (w64 (500000 * rv5840.1)))), .int .i64 (w64 (1000000000000 + (w64 (500000 * rv5845.1))))], .agg #[.int .i64 rv5172.1.From, .int .i64 rv5172.1.To]]) (cs := [.int .i64 i9, .int .i64 j10, .int .i64 (w64 (1000000000000 + (w64 (500000 * rv5840.1)))), .int .i64 (w64 (1000000000000 + (w64 (500000 * rv5845.1)))), .int .i64 rv5172.1.From, .int .i64 rv5172.1.To]) (xs := ([(⟨i9, j10⟩ : (Arr2 Int)), (⟨(w64 (1000000000000 + (w64 (500000 * rv5840.1)))), (w64 (1000000000000 + (w64 (500000 * rv5845.1))))⟩ : (Arr2 Int)), (⟨rv5172.1.From, rv5172.1.To⟩ : (Arr2 Int))] : List (Arr2 Int))) hs hw El57 rfl rfl rfl rfl rfl rfl ⟨⟨_, _, rfl, rfl, rfl⟩, ⟨⟨_, _, rfl, rfl, rfl⟩, ⟨⟨_, _, rfl, rfl, rfl⟩, rfl⟩⟩⟩ rfl trivial rfl fun b5850 a w hs hw => ?_
            refine h_nx (hw.cs [2, 3, 4, 5, 6, 7, 8] [] rfl rfl) fun hC => ?_
            refine h_st (C' := Cls [.box b12 [.string raw5.Source.Network, .string raw5.Source.Station, .string raw5.Source.Location, .string raw5.Source.Channel, .int .i64 raw5.Start, .int .i64 raw5.First, .int .i64 raw5.Rate.Num, .int .i64 raw5.Rate.Den, .int .i64 raw5.Error, .int .i64 raw5.Run, .int .i64 raw5.Seq, .slice p6 raw5.Samples.length k7] 32, .box b77 [.string rv60.1.Source.Network, .string rv60.1.Source.Station, .string rv60.1.Source.Location, .string rv60.1.Source.Channel, .int .i64 rv60.1.Start, .int .i64 rv60.1.First, .int .i64 rv60.1.Rate.Num, .int .i64 rv60.1.Rate.Den, .int .i64 rv60.1.Error, .int .i64 rv60.1.Run, .int .i64 rv60.1.Seq, .slice p61 rv60.1.Samples.length k62] 32, .box b78 [.string x166, .string x167, .string x168, .string x169, .int .i64 x170, .int .i64 x171, .int .i64 x172, .int .i64 x173, .int .i64 x174, .int .i64 x175, .int .i64 x176, .slice p161 x177.length k162] 32, .box b5170 [.string x5159.Source.Network, .string x5159.Source.Station, .string x5159.Source.Location, .string x5159.Source.Channel, .int .i64 x5159.Start, .int .i64 x5159.First, .int .i64 x5159.Rate.Num, .int .i64 x5159.Rate.Den, .int .i64 x5159.Error, .int .i64 x5159.Run, .int .i64 x5159.Seq, .slice p5166 x5159.Samples.length k5168] 32, .box b5178 [.int .i64 rv5172.1.From, .int .i64 rv5172.1.To] 39, .row (some ⟨b188, 0, none⟩) l190.length l190.length c191 32 12, .row (some ⟨b5244, 0, none⟩) ([(⟨i9, j10⟩ : (Arr2 Int)), (⟨(w64 (rv5234.1 - 1)), rv5239.1⟩ : (Arr2 Int)), (⟨0, (x5159.Samples.length : Int)⟩ : (Arr2 Int))] : List (Arr2 Int)).length ([(⟨i9, j10⟩ : (Arr2 Int)), (⟨(w64 (rv5234.1 - 1)), rv5239.1⟩ : (Arr2 Int)), (⟨0, (x5159.Samples.length : Int)⟩ : (Arr2 Int))] : List (Arr2 Int)).length [.int .i64 i9, .int .i64 j10, .int .i64 (w64 (rv5234.1 - 1)), .int .i64 rv5239.1, .int .i64 0, .int .i64 (x5159.Samples.length : Int)] 56 2, .row (some ⟨b5850, 0, none⟩) ([(⟨i9, j10⟩ : (Arr2 Int)), (⟨(w64 (1000000000000 + (w64 (500000 * rv5840.1)))), (w64 (1000000000000 + (w64 (500000 * rv5845.1))))⟩ : (Arr2 Int)), (⟨rv5172.1.From, rv5172.1.To⟩ : (Arr2 Int))] : List (Arr2 Int)).length ([(⟨i9, j10⟩ : (Arr2 Int)), (⟨(w64 (1000000000000 + (w64 (500000 * rv5840.1)))), (w64 (1000000000000 + (w64 (500000 * rv5845.1))))⟩ : (Arr2 Int)), (⟨rv5172.1.From, rv5172.1.To⟩ : (Arr2 Int))] : List (Arr2 Int)).length [.int .i64 i9, .int .i64 j10, .int .i64 (w64 (1000000000000 + (w64 (500000 * rv5840.1)))), .int .i64 (w64 (1000000000000 + (w64 (500000 * rv5845.1)))), .int .i64 rv5172.1.From, .int .i64 rv5172.1.To] 56 2] []) (fun _ h => by exact h.sub [0, 1, 2, 3, 4, 5, 6] (Sel.of rfl) (AllIn.of [] rfl)) (hw.cs [2, 3, 4, 5, 6, 7, 8, 0] [] rfl rfl) fun hC => ?_
            refine h_g hs 18 rfl (by kernel_rfl) rfl rfl hC rfl (fun w hC => y_len Try.runUnderlying57 rfl) fun a hs => ?_
            refine h_done (by kernel_rfl) ?_
            exact ⟨Sv5857, b5850, k5847, p5846, (hs.wk rfl), (hw.ft [2, 1, 3, 4, 5, 7, 0] [3, 1, 5, 6, 7, 8, 0] (by decide) rfl rfl)⟩
           ·rintro a w ⟨Sv5851, b5850, k5847, p5846, hs, hw⟩
            refine then_normal ?_
            refine wp_block ?_
            refine wp_while (fun sv6167 a w => ∃ (Sv6369 : Nat → Prop), Sl 365 [(2, .int .i64 i9), (3, .int .i64 j10), (4, .int .i64 k11), (6, .pointer (some ⟨b12, 0, none⟩)), (11, .pointer (some ⟨b39, 0, none⟩)), (13, .pointer (some ⟨b77, 0, none⟩)), (14, .pointer (some ⟨b78, 0, none⟩)), (16, .pointer (some ⟨b5170, 0, none⟩)), (94, .slice (some ⟨b188, 0, none⟩) l190.length l190.length), (95, .int .i64 (l190.length : Int)), (96, .int .i64 sv2325.2.2), (213, .slice (some ⟨b5850, 0, none⟩) ([(⟨i9, j10⟩ : (Arr2 Int)), (⟨(w64 (1000000000000 + (w64 (500000 * rv5840.1)))), (w64 (1000000000000 + (w64 (500000 * rv5845.1))))⟩ : (Arr2 Int)), (⟨rv5172.1.From, rv5172.1.To⟩ : (Arr2 Int))] : List (Arr2 Int)).length ([(⟨i9, j10⟩ : (Arr2 Int)), (⟨(w64 (1000000000000 + (w64 (500000 * rv5840.1)))), (w64 (1000000000000 + (w64 (500000 * rv5845.1))))⟩ : (Arr2 Int)), (⟨rv5172.1.From, rv5172.1.To⟩ : (Arr2 Int))] : List (Arr2 Int)).length), (214, .int .i64 (([(⟨i9, j10⟩ : (Arr2 Int)), (⟨(w64 (1000000000000 + (w64 (500000 * rv5840.1)))), (w64 (1000000000000 + (w64 (500000 * rv5845.1))))⟩ : (Arr2 Int)), (⟨rv5172.1.From, rv5172.1.To⟩ : (Arr2 Int))] : List (Arr2 Int)).length : Int)), (215, .int .i64 sv6167)] a ∧ Wd ⟨w0, S0, []⟩ Sv6369 [.box b12 [.string raw5.Source.Network, .string raw5.Source.Station, .string raw5.Source.Location, .string raw5.Source.Channel, .int .i64 raw5.Start, .int .i64 raw5.First, .int .i64 raw5.Rate.Num, .int .i64 raw5.Rate.Den, .int .i64 raw5.Error, .int .i64 raw5.Run, .int .i64 raw5.Seq, .slice p6 raw5.Samples.length k7] 32, .box b39 [.slice p5846 rv5845.2.L.length k5847, .int .i64 rv5845.2.At] 60, .box b77 [.string rv60.1.Source.Network, .string rv60.1.Source.Station, .string rv60.1.Source.Location, .string rv60.1.Source.Channel, .int .i64 rv60.1.Start, .int .i64 rv60.1.First, .int .i64 rv60.1.Rate.Num, .int .i64 rv60.1.Rate.Den, .int .i64 rv60.1.Error, .int .i64 rv60.1.Run, .int .i64 rv60.1.Seq, .slice p61 rv60.1.Samples.length k62] 32, .box b78 [.string x166, .string x167, .string x168, .string x169, .int .i64 x170, .int .i64 x171, .int .i64 x172, .int .i64 x173, .int .i64 x174, .int .i64 x175, .int .i64 x176, .slice p161 x177.length k162] 32, .box b5170 [.string x5159.Source.Network, .string x5159.Source.Station, .string x5159.Source.Location, .string x5159.Source.Channel, .int .i64 x5159.Start, .int .i64 x5159.First, .int .i64 x5159.Rate.Num, .int .i64 x5159.Rate.Den, .int .i64 x5159.Error, .int .i64 x5159.Run, .int .i64 x5159.Seq, .slice p5166 x5159.Samples.length k5168] 32, .row (some ⟨b188, 0, none⟩) l190.length l190.length c191 32 12, .row (some ⟨b5850, 0, none⟩) ([(⟨i9, j10⟩ : (Arr2 Int)), (⟨(w64 (1000000000000 + (w64 (500000 * rv5840.1)))), (w64 (1000000000000 + (w64 (500000 * rv5845.1))))⟩ : (Arr2 Int)), (⟨rv5172.1.From, rv5172.1.To⟩ : (Arr2 Int))] : List (Arr2 Int)).length ([(⟨i9, j10⟩ : (Arr2 Int)), (⟨(w64 (1000000000000 + (w64 (500000 * rv5840.1)))), (w64 (1000000000000 + (w64 (500000 * rv5845.1))))⟩ : (Arr2 Int)), (⟨rv5172.1.From, rv5172.1.To⟩ : (Arr2 Int))] : List (Arr2 Int)).length [.int .i64 i9, .int .i64 j10, .int .i64 (w64 (1000000000000 + (w64 (500000 * rv5840.1)))), .int .i64 (w64 (1000000000000 + (w64 (500000 * rv5845.1)))), .int .i64 rv5172.1.From, .int .i64 rv5172.1.To] 56 2] [SlA p6 raw5.Samples.length k7 raw5.Samples, SlA p5846 rv5845.2.L.length k5847 rv5845.2.L, SlA p61 rv60.1.Samples.length k62 rv60.1.Samples, SlA p161 x177.length k162 x177, SlA p5166 x5159.Samples.length k5168 x5159.Samples, RowA c191 l190, RowA [.int .i64 i9, .int .i64 j10, .int .i64 (w64 (1000000000000 + (w64 (500000 * rv5840.1)))), .int .i64 (w64 (1000000000000 + (w64 (500000 * rv5845.1)))), .int .i64 rv5172.1.From, .int .i64 rv5172.1.To] ([(⟨i9, j10⟩ : (Arr2 Int)), (⟨(w64 (1000000000000 + (w64 (500000 * rv5840.1)))), (w64 (1000000000000 + (w64 (500000 * rv5845.1))))⟩ : (Arr2 Int)), (⟨rv5172.1.From, rv5172.1.To⟩ : (Arr2 Int))] : List (Arr2 Int))] w) 0 hsh ⟨Sv5851, (hs.wk rfl), (hw.ft [0, 1, 2, 3, 4, 5, 6] [0, 1, 2, 3, 4, 5, 6] (by decide) rfl rfl)⟩ ?_
            repeat clear hsh
            rintro sv6167 a w tv6471 ⟨Sv6369, hs, hw⟩ hsh hd6470
            delta law14_RecordExact_l27 at hsh
            refine wp_seq ?_
            refine wp_region_lit ?_
            refine st_val hs (y_lss rfl rfl) trivial rfl rfl fun a hs => ?_
            refine wpList_nil ?_
            refine then_normal ?_
            refine wp_seq ?_
            refine wp_cond_split (hs.ev rfl) (fun h6475 => ?_) (fun h6475 => ?_)
            ·have hsh := ite_t hsh h6475
             refine wp_skip ?_
             refine then_normal ?_
             refine wp_seq ?_
             refine wp_block ?_
             refine wp_seq ?_
             refine wp_region_lit ?_
             obtain ⟨x6577, h6575, hsh⟩ := bind_t hsh
             obtain ⟨q6581, c6582, h6578, h6579, h6583, h6576⟩ := hw.elemRK (α := (Arr2 Int)) 6 rfl 6 rfl h6575
             obtain ⟨_, _, rfl, rfl, rfl⟩ := h6576
             refine st_val hs (y_indexAt Try.runUnderlying57 Try.sizeOf56 rfl rfl h6578.1 h6578.2 h6579) trivial rfl rfl fun a hs => ?_
             refine st_val hs (y_loadQA (j := 0) (hw.ownAt 6 rfl) rfl Try.isAgg56 Try.sizeOf56 h6583 rfl rfl) trivial rfl rfl fun a hs => ?_
             refine w_alloc (cs := [.int .i64 0, .int .i64 0]) hs hw Try.zeroValue56 rfl rfl trivial ?_
             intro b6584 a w hs hw
             refine w_store (m := 2) (cs' := [.int .i64 x6577.e0, .int .i64 x6577.e1]) hs hw 0 rfl rfl rfl Try.sizeOf56 rfl rfl rfl rfl trivial ?_
             intro a w hs hw
             refine wpList_nil ?_
             refine then_normal ?_
             refine wp_seq ?_
             refine wp_region_lit ?_
             refine st_val hs (y_loadBA (hw.ownAt 5 rfl) rfl Try.isAgg32 Try.sizeOf32 rfl rfl) trivial rfl rfl fun a hs => ?_
             refine st_val hs (y_indexAtA (q := 0) Try.runUnderlying56 Try.sizeOf3 rfl rfl (by decide) (by decide) rfl) trivial rfl rfl fun a hs => ?_
             refine st_val hs (y_loadB1 (hw.ownAt 0 rfl) rfl Try.isAgg3 rfl) trivial rfl rfl fun a hs => ?_
             refine st_val hs (y_indexAtA (q := 1) Try.runUnderlying56 Try.sizeOf3 rfl rfl (by decide) (by decide) rfl) trivial rfl rfl fun a hs => ?_
             refine st_val hs (y_loadB1 (hw.ownAt 0 rfl) rfl Try.isAgg3 rfl) trivial rfl rfl fun a hs => ?_
             obtain ⟨rv6586, h6585, hsh⟩ := bind_t hsh
             refine st_callR hs (record_Cut_ok h6585 hw.dom (hw.envAt 4 rfl)) (do_call Try.call19 rfl) trivial rfl rfl ?_
             intro v6594 Sv6591 w a h6592 h6593 hs
             obtain ⟨p6587, k6588, c6590, rfl, h6595, h6589⟩ := h6593
             have hw := hw.callN h6592 h6595
             have hw := hw.addE (e := RowA c6590 rv6586.1.Samples) h6589
             refine st_val hs (y_move rfl) trivial rfl rfl fun a hs => ?_
             refine st_val hs (y_extract rfl rfl) trivial rfl rfl fun a hs => ?_
             refine st_val hs (y_extract rfl rfl) trivial rfl rfl fun a hs => ?_
             refine st_val hs (y_extract rfl rfl) trivial rfl rfl fun a hs => ?_
             refine w_alloc (cs := [.string ByteArray.empty, .string ByteArray.empty, .string ByteArray.empty, .string ByteArray.empty, .int .i64 0, .int .i64 0, .int .i64 0, .int .i64 0, .int .i64 0, .int .i64 0, .int .i64 0, .slice none ([] : List Int).length 0]) hs hw Try.zeroValue32 rfl rfl trivial ?_
             intro b6596 a w hs hw
             refine w_store (m := 12) (cs' := [.string rv6586.1.Source.Network, .string rv6586.1.Source.Station, .string rv6586.1.Source.Location, .string rv6586.1.Source.Channel, .int .i64 rv6586.1.Start, .int .i64 rv6586.1.First, .int .i64 rv6586.1.Rate.Num, .int .i64 rv6586.1.Rate.Den, .int .i64 rv6586.1.Error, .int .i64 rv6586.1.Run, .int .i64 rv6586.1.Seq, .slice p6587 rv6586.1.Samples.length k6588]) hs hw 0 rfl rfl rfl Try.sizeOf32 rfl rfl rfl rfl trivial ?_
             intro a w hs hw
             refine st_val hs (y_assign rfl) trivial rfl rfl fun a hs => ?_
             refine st_val hs (y_assign rfl) trivial rfl rfl fun a hs => ?_
             refine wpList_nil ?_
             refine then_normal ?_
             refine wp_seq ?_
             refine wp_region_lit ?_
             refine st_val hs (y_loadBA (hw.ownAt 7 rfl) rfl Try.isAgg32 Try.sizeOf32 rfl rfl) trivial rfl rfl fun a hs => ?_
             refine st_val hs (y_indexAtA (q := 0) Try.runUnderlying56 Try.sizeOf3 rfl rfl (by decide) (by decide) rfl) trivial rfl rfl fun a hs => ?_
             refine st_val hs (y_loadB1 (hw.ownAt 2 rfl) rfl Try.isAgg3 rfl) trivial rfl rfl fun a hs => ?_
             refine st_val hs (y_indexAtA (q := 1) Try.runUnderlying56 Try.sizeOf3 rfl rfl (by decide) (by decide) rfl) trivial rfl rfl fun a hs => ?_
             refine st_val hs (y_loadB1 (hw.ownAt 2 rfl) rfl Try.isAgg3 rfl) trivial rfl rfl fun a hs => ?_
             obtain ⟨rv6598, h6597, hsh⟩ := bind_t hsh
             refine st_callR hs (ref14_Cut_ok h6597 hw.dom (hw.envAt 5 rfl)) (do_call Try.call30 rfl) trivial rfl rfl ?_
             intro v6606 Sv6603 w a h6604 h6605 hs
             obtain ⟨p6599, k6600, c6602, rfl, h6607, h6601⟩ := h6605
             have hw := hw.callN h6604 h6607
             have hw := hw.addE (e := RowA c6602 rv6598.1.Samples) h6601
             refine st_val hs (y_move rfl) trivial rfl rfl fun a hs => ?_
             refine st_val hs (y_extract rfl rfl) trivial rfl rfl fun a hs => ?_
             refine st_val hs (y_extract rfl rfl) trivial rfl rfl fun a hs => ?_
             refine st_val hs (y_extract rfl rfl) trivial rfl rfl fun a hs => ?_
             refine w_alloc (cs := [.string ByteArray.empty, .string ByteArray.empty, .string ByteArray.empty, .string ByteArray.empty, .int .i64 0, .int .i64 0, .int .i64 0, .int .i64 0, .int .i64 0, .int .i64 0, .int .i64 0, .slice none ([] : List Int).length 0]) hs hw Try.zeroValue32 rfl rfl trivial ?_
             intro b6608 a w hs hw
             refine w_store (m := 12) (cs' := [.string rv6598.1.Source.Network, .string rv6598.1.Source.Station, .string rv6598.1.Source.Location, .string rv6598.1.Source.Channel, .int .i64 rv6598.1.Start, .int .i64 rv6598.1.First, .int .i64 rv6598.1.Rate.Num, .int .i64 rv6598.1.Rate.Den, .int .i64 rv6598.1.Error, .int .i64 rv6598.1.Run, .int .i64 rv6598.1.Seq, .slice p6599 rv6598.1.Samples.length k6600]) hs hw 0 rfl rfl rfl Try.sizeOf32 rfl rfl rfl rfl trivial ?_
             intro a w hs hw
             refine st_val hs (y_assign rfl) trivial rfl rfl fun a hs => ?_
             refine st_val hs (y_assign rfl) trivial rfl rfl fun a hs => ?_
             refine wpList_nil ?_
             refine then_normal ?_
             refine wp_seq ?_
             refine wp_region_lit ?_
             refine st_val hs (y_loadBA (hw.ownAt 9 rfl) rfl Try.isAgg32 Try.sizeOf32 rfl rfl) trivial rfl rfl fun a hs => ?_
             refine st_val hs (y_indexAtA (q := 0) Try.runUnderlying56 Try.sizeOf3 rfl rfl (by decide) (by decide) rfl) trivial rfl rfl fun a hs => ?_
             refine st_val hs (y_loadB1 (hw.ownAt 4 rfl) rfl Try.isAgg3 rfl) trivial rfl rfl fun a hs => ?_
             refine st_val hs (y_indexAtA (q := 1) Try.runUnderlying56 Try.sizeOf3 rfl rfl (by decide) (by decide) rfl) trivial rfl rfl fun a hs => ?_
             refine st_val hs (y_loadB1 (hw.ownAt 4 rfl) rfl Try.isAgg3 rfl) trivial rfl rfl fun a hs => ?_
             obtain ⟨rv6610, h6609, hsh⟩ := bind_t hsh
             refine st_callR hs (record_Inside_ok h6609 hw.dom (hw.envAt 6 rfl)) (do_call Try.call20 rfl) trivial rfl rfl ?_
             intro v6618 Sv6615 w a h6616 h6617 hs
             obtain ⟨p6611, k6612, c6614, rfl, h6619, h6613⟩ := h6617
             have hw := hw.callN h6616 h6619
             have hw := hw.addE (e := RowA c6614 rv6610.1.Samples) h6613
             refine st_val hs (y_move rfl) trivial rfl rfl fun a hs => ?_
             refine st_val hs (y_extract rfl rfl) trivial rfl rfl fun a hs => ?_
             refine st_val hs (y_extract rfl rfl) trivial rfl rfl fun a hs => ?_
             refine st_val hs (y_extract rfl rfl) trivial rfl rfl fun a hs => ?_
             refine w_alloc (cs := [.string ByteArray.empty, .string ByteArray.empty, .string ByteArray.empty, .string ByteArray.empty, .int .i64 0, .int .i64 0, .int .i64 0, .int .i64 0, .int .i64 0, .int .i64 0, .int .i64 0, .slice none ([] : List Int).length 0]) hs hw Try.zeroValue32 rfl rfl trivial ?_
             intro b6620 a w hs hw
             refine w_store (m := 12) (cs' := [.string rv6610.1.Source.Network, .string rv6610.1.Source.Station, .string rv6610.1.Source.Location, .string rv6610.1.Source.Channel, .int .i64 rv6610.1.Start, .int .i64 rv6610.1.First, .int .i64 rv6610.1.Rate.Num, .int .i64 rv6610.1.Rate.Den, .int .i64 rv6610.1.Error, .int .i64 rv6610.1.Run, .int .i64 rv6610.1.Seq, .slice p6611 rv6610.1.Samples.length k6612]) hs hw 0 rfl rfl rfl Try.sizeOf32 rfl rfl rfl rfl trivial ?_
             intro a w hs hw
             refine st_val hs (y_assign rfl) trivial rfl rfl fun a hs => ?_
             refine st_val hs (y_assign rfl) trivial rfl rfl fun a hs => ?_
             refine wpList_nil ?_
             refine then_normal ?_
             refine wp_seq ?_
             refine wp_region_lit ?_
             refine st_val hs (y_loadBA (hw.ownAt 11 rfl) rfl Try.isAgg32 Try.sizeOf32 rfl rfl) trivial rfl rfl fun a hs => ?_
             refine st_val hs (y_indexAtA (q := 0) Try.runUnderlying56 Try.sizeOf3 rfl rfl (by decide) (by decide) rfl) trivial rfl rfl fun a hs => ?_
             refine st_val hs (y_loadB1 (hw.ownAt 6 rfl) rfl Try.isAgg3 rfl) trivial rfl rfl fun a hs => ?_
             refine st_val hs (y_indexAtA (q := 1) Try.runUnderlying56 Try.sizeOf3 rfl rfl (by decide) (by decide) rfl) trivial rfl rfl fun a hs => ?_
             refine st_val hs (y_loadB1 (hw.ownAt 6 rfl) rfl Try.isAgg3 rfl) trivial rfl rfl fun a hs => ?_
             obtain ⟨rv6622, h6621, hsh⟩ := bind_t hsh
             refine st_callR hs (ref14_Inside_ok h6621 hw.dom (hw.envAt 7 rfl)) (do_call Try.call31 rfl) trivial rfl rfl ?_
             intro v6630 Sv6627 w a h6628 h6629 hs
             obtain ⟨p6623, k6624, c6626, rfl, h6631, h6625⟩ := h6629
             have hw := hw.callN h6628 h6631
             have hw := hw.addE (e := RowA c6626 rv6622.1.Samples) h6625
             refine st_val hs (y_move rfl) trivial rfl rfl fun a hs => ?_
             refine st_val hs (y_extract rfl rfl) trivial rfl rfl fun a hs => ?_
             refine st_val hs (y_extract rfl rfl) trivial rfl rfl fun a hs => ?_
             refine st_val hs (y_extract rfl rfl) trivial rfl rfl fun a hs => ?_
             refine w_alloc (cs := [.string ByteArray.empty, .string ByteArray.empty, .string ByteArray.empty, .string ByteArray.empty, .int .i64 0, .int .i64 0, .int .i64 0, .int .i64 0, .int .i64 0, .int .i64 0, .int .i64 0, .slice none ([] : List Int).length 0]) hs hw Try.zeroValue32 rfl rfl trivial ?_
             intro b6632 a w hs hw
             refine w_store (m := 12) (cs' := [.string rv6622.1.Source.Network, .string rv6622.1.Source.Station, .string rv6622.1.Source.Location, .string rv6622.1.Source.Channel, .int .i64 rv6622.1.Start, .int .i64 rv6622.1.First, .int .i64 rv6622.1.Rate.Num, .int .i64 rv6622.1.Rate.Den, .int .i64 rv6622.1.Error, .int .i64 rv6622.1.Run, .int .i64 rv6622.1.Seq, .slice p6623 rv6622.1.Samples.length k6624]) hs hw 0 rfl rfl rfl Try.sizeOf32 rfl rfl rfl rfl trivial ?_
             intro a w hs hw
             refine st_val hs (y_assign rfl) trivial rfl rfl fun a hs => ?_
             refine st_val hs (y_assign rfl) trivial rfl rfl fun a hs => ?_
             refine wpList_nil ?_
             refine then_normal ?_
             refine wp_seq ?_
             refine wp_region_lit ?_
             refine st_val hs (y_move rfl) trivial rfl rfl fun a hs => ?_
             refine st_val hs (y_move rfl) trivial rfl rfl fun a hs => ?_
             refine st_val hs (y_neqB Try.runUnderlying4 rfl rfl) trivial rfl rfl fun a hs => ?_
             refine st_val hs (y_move rfl) trivial rfl rfl fun a hs => ?_
             refine wpl_join 4 (fun a w1 => w = w1 ∧ Sl 365 [(2, .int .i64 i9), (3, .int .i64 j10), (4, .int .i64 k11), (6, .pointer (some ⟨b12, 0, none⟩)), (11, .pointer (some ⟨b39, 0, none⟩)), (13, .pointer (some ⟨b77, 0, none⟩)), (14, .pointer (some ⟨b78, 0, none⟩)), (16, .pointer (some ⟨b5170, 0, none⟩)), (33, .pointer (some ⟨b6596, 0, none⟩)), (36, .pointer (some ⟨b6608, 0, none⟩)), (39, .pointer (some ⟨b6620, 0, none⟩)), (40, .bool rv6610.2.1), (41, .int .i64 rv6610.2.2), (42, .pointer (some ⟨b6632, 0, none⟩)), (43, .bool rv6622.2.1), (44, .int .i64 rv6622.2.2), (94, .slice (some ⟨b188, 0, none⟩) l190.length l190.length), (95, .int .i64 (l190.length : Int)), (96, .int .i64 sv2325.2.2), (213, .slice (some ⟨b5850, 0, none⟩) ([(⟨i9, j10⟩ : (Arr2 Int)), (⟨(w64 (1000000000000 + (w64 (500000 * rv5840.1)))), (w64 (1000000000000 + (w64 (500000 * rv5845.1))))⟩ : (Arr2 Int)), (⟨rv5172.1.From, rv5172.1.To⟩ : (Arr2 Int))] : List (Arr2 Int)).length ([(⟨i9, j10⟩ : (Arr2 Int)), (⟨(w64 (1000000000000 + (w64 (500000 * rv5840.1)))), (w64 (1000000000000 + (w64 (500000 * rv5845.1))))⟩ : (Arr2 Int)), (⟨rv5172.1.From, rv5172.1.To⟩ : (Arr2 Int))] : List (Arr2 Int)).length), (214, .int .i64 (([(⟨i9, j10⟩ : (Arr2 Int)), (⟨(w64 (1000000000000 + (w64 (500000 * rv5840.1)))), (w64 (1000000000000 + (w64 (500000 * rv5845.1))))⟩ : (Arr2 Int)), (⟨rv5172.1.From, rv5172.1.To⟩ : (Arr2 Int))] : List (Arr2 Int)).length : Int)), (215, .int .i64 sv6167), (266, .bool ((!(rv6586.2.1 == rv6598.2.1)) || (rv6586.2.2 != rv6598.2.2)))] a) ?_ ?_
             ·rcases Bool.eq_false_or_eq_true (!(rv6586.2.1 == rv6598.2.1)) with h6633 | h6633
              ·have hs := hs.fix 262 (.bool true) rfl (vb h6633)
               refine st_skip hs rfl rfl rfl rfl rfl fun a hs => ?_
               refine st_skip hs rfl rfl rfl rfl rfl fun a hs => ?_
               refine st_skip hs rfl rfl rfl rfl rfl fun a hs => ?_
               refine st_val hs (y_pickT rfl rfl) trivial rfl rfl fun a hs => ?_
               refine wpList_nil ?_
               refine then_normal ?_
               exact ⟨rfl, (hs.fix 266 (.bool ((!(rv6586.2.1 == rv6598.2.1)) || (rv6586.2.2 != rv6598.2.2))) rfl (or_t h6633)).weaken _ ⟨rfl, rfl, rfl, rfl, rfl, rfl, rfl, rfl, rfl, rfl, rfl, rfl, rfl, rfl, rfl, rfl, rfl, rfl, rfl, rfl, rfl, rfl, rfl, trivial⟩⟩
              ·have hs := hs.fix 262 (.bool false) rfl (vb h6633)
               refine st_val hs (y_move rfl) ⟨_, rfl, rfl⟩ rfl rfl fun a hs => ?_
               refine st_val hs (y_move rfl) ⟨_, rfl, rfl⟩ rfl rfl fun a hs => ?_
               refine st_val hs (y_neq rfl rfl) ⟨_, rfl, rfl⟩ rfl rfl fun a hs => ?_
               refine st_val hs (y_pickF rfl rfl) trivial rfl rfl fun a hs => ?_
               refine wpList_nil ?_
               refine then_normal ?_
               exact ⟨rfl, (hs.fix 266 (.bool ((!(rv6586.2.1 == rv6598.2.1)) || (rv6586.2.2 != rv6598.2.2))) rfl (or_f h6633)).weaken _ ⟨rfl, rfl, rfl, rfl, rfl, rfl, rfl, rfl, rfl, rfl, rfl, rfl, rfl, rfl, rfl, rfl, rfl, rfl, rfl, rfl, rfl, rfl, rfl, trivial⟩⟩
             ·rintro a w1 ⟨h6676, hs⟩
              subst h6676
              refine st_val hs (y_move rfl) trivial rfl rfl fun a hs => ?_
              obtain ⟨c6642, hc6642, hsh⟩ := bind_t hsh
              refine wpl_join 5 (fun a w => ∃ (Sv6643 : Nat → Prop), Sl 365 [(2, .int .i64 i9), (3, .int .i64 j10), (4, .int .i64 k11), (6, .pointer (some ⟨b12, 0, none⟩)), (11, .pointer (some ⟨b39, 0, none⟩)), (13, .pointer (some ⟨b77, 0, none⟩)), (14, .pointer (some ⟨b78, 0, none⟩)), (16, .pointer (some ⟨b5170, 0, none⟩)), (39, .pointer (some ⟨b6620, 0, none⟩)), (40, .bool rv6610.2.1), (41, .int .i64 rv6610.2.2), (42, .pointer (some ⟨b6632, 0, none⟩)), (43, .bool rv6622.2.1), (44, .int .i64 rv6622.2.2), (94, .slice (some ⟨b188, 0, none⟩) l190.length l190.length), (95, .int .i64 (l190.length : Int)), (96, .int .i64 sv2325.2.2), (213, .slice (some ⟨b5850, 0, none⟩) ([(⟨i9, j10⟩ : (Arr2 Int)), (⟨(w64 (1000000000000 + (w64 (500000 * rv5840.1)))), (w64 (1000000000000 + (w64 (500000 * rv5845.1))))⟩ : (Arr2 Int)), (⟨rv5172.1.From, rv5172.1.To⟩ : (Arr2 Int))] : List (Arr2 Int)).length ([(⟨i9, j10⟩ : (Arr2 Int)), (⟨(w64 (1000000000000 + (w64 (500000 * rv5840.1)))), (w64 (1000000000000 + (w64 (500000 * rv5845.1))))⟩ : (Arr2 Int)), (⟨rv5172.1.From, rv5172.1.To⟩ : (Arr2 Int))] : List (Arr2 Int)).length), (214, .int .i64 (([(⟨i9, j10⟩ : (Arr2 Int)), (⟨(w64 (1000000000000 + (w64 (500000 * rv5840.1)))), (w64 (1000000000000 + (w64 (500000 * rv5845.1))))⟩ : (Arr2 Int)), (⟨rv5172.1.From, rv5172.1.To⟩ : (Arr2 Int))] : List (Arr2 Int)).length : Int)), (215, .int .i64 sv6167), (272, .bool c6642)] a ∧ Wd ⟨w0, S0, []⟩ Sv6643 [.box b12 [.string raw5.Source.Network, .string raw5.Source.Station, .string raw5.Source.Location, .string raw5.Source.Channel, .int .i64 raw5.Start, .int .i64 raw5.First, .int .i64 raw5.Rate.Num, .int .i64 raw5.Rate.Den, .int .i64 raw5.Error, .int .i64 raw5.Run, .int .i64 raw5.Seq, .slice p6 raw5.Samples.length k7] 32, .box b39 [.slice p5846 rv5845.2.L.length k5847, .int .i64 rv5845.2.At] 60, .box b77 [.string rv60.1.Source.Network, .string rv60.1.Source.Station, .string rv60.1.Source.Location, .string rv60.1.Source.Channel, .int .i64 rv60.1.Start, .int .i64 rv60.1.First, .int .i64 rv60.1.Rate.Num, .int .i64 rv60.1.Rate.Den, .int .i64 rv60.1.Error, .int .i64 rv60.1.Run, .int .i64 rv60.1.Seq, .slice p61 rv60.1.Samples.length k62] 32, .box b78 [.string x166, .string x167, .string x168, .string x169, .int .i64 x170, .int .i64 x171, .int .i64 x172, .int .i64 x173, .int .i64 x174, .int .i64 x175, .int .i64 x176, .slice p161 x177.length k162] 32, .box b5170 [.string x5159.Source.Network, .string x5159.Source.Station, .string x5159.Source.Location, .string x5159.Source.Channel, .int .i64 x5159.Start, .int .i64 x5159.First, .int .i64 x5159.Rate.Num, .int .i64 x5159.Rate.Den, .int .i64 x5159.Error, .int .i64 x5159.Run, .int .i64 x5159.Seq, .slice p5166 x5159.Samples.length k5168] 32, .box b6620 [.string rv6610.1.Source.Network, .string rv6610.1.Source.Station, .string rv6610.1.Source.Location, .string rv6610.1.Source.Channel, .int .i64 rv6610.1.Start, .int .i64 rv6610.1.First, .int .i64 rv6610.1.Rate.Num, .int .i64 rv6610.1.Rate.Den, .int .i64 rv6610.1.Error, .int .i64 rv6610.1.Run, .int .i64 rv6610.1.Seq, .slice p6611 rv6610.1.Samples.length k6612] 32, .box b6632 [.string rv6622.1.Source.Network, .string rv6622.1.Source.Station, .string rv6622.1.Source.Location, .string rv6622.1.Source.Channel, .int .i64 rv6622.1.Start, .int .i64 rv6622.1.First, .int .i64 rv6622.1.Rate.Num, .int .i64 rv6622.1.Rate.Den, .int .i64 rv6622.1.Error, .int .i64 rv6622.1.Run, .int .i64 rv6622.1.Seq, .slice p6623 rv6622.1.Samples.length k6624] 32, .row p6611 rv6610.1.Samples.length k6612 c6614 3 1, .row p6623 rv6622.1.Samples.length k6624 c6626 3 1, .row (some ⟨b188, 0, none⟩) l190.length l190.length c191 32 12, .row (some ⟨b5850, 0, none⟩) ([(⟨i9, j10⟩ : (Arr2 Int)), (⟨(w64 (1000000000000 + (w64 (500000 * rv5840.1)))), (w64 (1000000000000 + (w64 (500000 * rv5845.1))))⟩ : (Arr2 Int)), (⟨rv5172.1.From, rv5172.1.To⟩ : (Arr2 Int))] : List (Arr2 Int)).length ([(⟨i9, j10⟩ : (Arr2 Int)), (⟨(w64 (1000000000000 + (w64 (500000 * rv5840.1)))), (w64 (1000000000000 + (w64 (500000 * rv5845.1))))⟩ : (Arr2 Int)), (⟨rv5172.1.From, rv5172.1.To⟩ : (Arr2 Int))] : List (Arr2 Int)).length [.int .i64 i9, .int .i64 j10, .int .i64 (w64 (1000000000000 + (w64 (500000 * rv5840.1)))), .int .i64 (w64 (1000000000000 + (w64 (500000 * rv5845.1)))), .int .i64 rv5172.1.From, .int .i64 rv5172.1.To] 56 2] [SlA p6 raw5.Samples.length k7 raw5.Samples, SlA p5846 rv5845.2.L.length k5847 rv5845.2.L, SlA p61 rv60.1.Samples.length k62 rv60.1.Samples, SlA p161 x177.length k162 x177, SlA p5166 x5159.Samples.length k5168 x5159.Samples, RowA c6614 rv6610.1.Samples, RowA c6626 rv6622.1.Samples, RowA c191 l190, RowA [.int .i64 i9, .int .i64 j10, .int .i64 (w64 (1000000000000 + (w64 (500000 * rv5840.1)))), .int .i64 (w64 (1000000000000 + (w64 (500000 * rv5845.1)))), .int .i64 rv5172.1.From, .int .i64 rv5172.1.To] ([(⟨i9, j10⟩ : (Arr2 Int)), (⟨(w64 (1000000000000 + (w64 (500000 * rv5840.1)))), (w64 (1000000000000 + (w64 (500000 * rv5845.1))))⟩ : (Arr2 Int)), (⟨rv5172.1.From, rv5172.1.To⟩ : (Arr2 Int))] : List (Arr2 Int))] w) ?_ ?_
              ·rcases Bool.eq_false_or_eq_true ((!(rv6586.2.1 == rv6598.2.1)) || (rv6586.2.2 != rv6598.2.2)) with h6641 | h6641
               ·have hs := hs.fix 267 (.bool true) rfl (vb h6641)
                have hsh := ite_t hc6642 h6641
                refine st_skip hs rfl rfl rfl rfl rfl fun a hs => ?_
                refine st_skip hs rfl rfl rfl rfl rfl fun a hs => ?_
                refine st_skip hs rfl rfl rfl rfl rfl fun a hs => ?_
                refine st_skip hs rfl rfl rfl rfl rfl fun a hs => ?_
                refine st_val hs (y_pickT rfl rfl) trivial rfl rfl fun a hs => ?_
                refine wpList_nil ?_
                have hsh := Option.some.inj hsh
                subst hsh
                refine then_normal ?_
                exact ⟨Sv6627, (hs.wk rfl), (hw.ft [9, 10, 11, 12, 13, 2, 0, 3, 1, 14, 15] [4, 5, 6, 7, 8, 1, 0, 9, 10] (by decide) rfl rfl)⟩
               ·have hs := hs.fix 267 (.bool false) rfl (vb h6641)
                have hsh := ite_f hc6642 h6641
                refine st_val hs (y_loadBA (hw.ownAt 6 rfl) rfl Try.isAgg32 Try.sizeOf32 rfl rfl) ⟨_, rfl, rfl⟩ rfl rfl fun a hs => ?_
                refine st_val hs (y_loadBA (hw.ownAt 4 rfl) rfl Try.isAgg32 Try.sizeOf32 rfl rfl) ⟨_, rfl, rfl⟩ rfl rfl fun a hs => ?_
                obtain ⟨rv6645, h6644, hsh⟩ := bind_t hsh
                refine st_callR hs (ref14_Same_ok h6644 hw.bdom (hw.bRow 7 rfl 3 rfl) (hw.bRow 5 rfl 2 rfl)) (do_call Try.call29 rfl) ⟨_, rfl, rfl⟩ rfl rfl ?_
                intro v6649 Sv6646 w a h6647 h6648 hs
                subst h6648
                have hw := hw.callB h6647
                refine st_val hs (y_not rfl) ⟨_, rfl, rfl⟩ rfl rfl fun a hs => ?_
                refine st_val hs (y_pickF rfl rfl) trivial rfl rfl fun a hs => ?_
                refine wpList_nil ?_
                have hsh := Option.some.inj hsh
                subst hsh
                refine then_normal ?_
                exact ⟨Sv6627, (hs.wk rfl), (hw.ft [9, 10, 11, 12, 13, 2, 0, 3, 1, 14, 15] [4, 5, 6, 7, 8, 1, 0, 9, 10] (by decide) rfl rfl)⟩
              ·rintro a w ⟨Sv6643, hs, hw⟩
               refine st_val hs (y_move rfl) trivial rfl rfl fun a hs => ?_
               refine wpl_join 4 (fun a w1 => w = w1 ∧ Sl 365 [(2, .int .i64 i9), (3, .int .i64 j10), (4, .int .i64 k11), (6, .pointer (some ⟨b12, 0, none⟩)), (11, .pointer (some ⟨b39, 0, none⟩)), (13, .pointer (some ⟨b77, 0, none⟩)), (14, .pointer (some ⟨b78, 0, none⟩)), (16, .pointer (some ⟨b5170, 0, none⟩)), (39, .pointer (some ⟨b6620, 0, none⟩)), (41, .int .i64 rv6610.2.2), (42, .pointer (some ⟨b6632, 0, none⟩)), (44, .int .i64 rv6622.2.2), (94, .slice (some ⟨b188, 0, none⟩) l190.length l190.length), (95, .int .i64 (l190.length : Int)), (96, .int .i64 sv2325.2.2), (213, .slice (some ⟨b5850, 0, none⟩) ([(⟨i9, j10⟩ : (Arr2 Int)), (⟨(w64 (1000000000000 + (w64 (500000 * rv5840.1)))), (w64 (1000000000000 + (w64 (500000 * rv5845.1))))⟩ : (Arr2 Int)), (⟨rv5172.1.From, rv5172.1.To⟩ : (Arr2 Int))] : List (Arr2 Int)).length ([(⟨i9, j10⟩ : (Arr2 Int)), (⟨(w64 (1000000000000 + (w64 (500000 * rv5840.1)))), (w64 (1000000000000 + (w64 (500000 * rv5845.1))))⟩ : (Arr2 Int)), (⟨rv5172.1.From, rv5172.1.To⟩ : (Arr2 Int))] : List (Arr2 Int)).length), (214, .int .i64 (([(⟨i9, j10⟩ : (Arr2 Int)), (⟨(w64 (1000000000000 + (w64 (500000 * rv5840.1)))), (w64 (1000000000000 + (w64 (500000 * rv5845.1))))⟩ : (Arr2 Int)), (⟨rv5172.1.From, rv5172.1.To⟩ : (Arr2 Int))] : List (Arr2 Int)).length : Int)), (215, .int .i64 sv6167), (277, .bool (c6642 || (!(rv6610.2.1 == rv6622.2.1))))] a) ?_ ?_
               ·rcases Bool.eq_false_or_eq_true c6642 with h6651 | h6651
                ·have hs := hs.fix 273 (.bool true) rfl (vb h6651)
                 refine st_skip hs rfl rfl rfl rfl rfl fun a hs => ?_
                 refine st_skip hs rfl rfl rfl rfl rfl fun a hs => ?_
                 refine st_skip hs rfl rfl rfl rfl rfl fun a hs => ?_
                 refine st_val hs (y_pickT rfl rfl) trivial rfl rfl fun a hs => ?_
                 refine wpList_nil ?_
                 refine then_normal ?_
                 exact ⟨rfl, (hs.fix 277 (.bool (c6642 || (!(rv6610.2.1 == rv6622.2.1)))) rfl (or_t h6651)).weaken _ ⟨rfl, rfl, rfl, rfl, rfl, rfl, rfl, rfl, rfl, rfl, rfl, rfl, rfl, rfl, rfl, rfl, rfl, rfl, rfl, trivial⟩⟩
                ·have hs := hs.fix 273 (.bool false) rfl (vb h6651)
                 refine st_val hs (y_move rfl) ⟨_, rfl, rfl⟩ rfl rfl fun a hs => ?_
                 refine st_val hs (y_move rfl) ⟨_, rfl, rfl⟩ rfl rfl fun a hs => ?_
                 refine st_val hs (y_neqB Try.runUnderlying4 rfl rfl) ⟨_, rfl, rfl⟩ rfl rfl fun a hs => ?_
                 refine st_val hs (y_pickF rfl rfl) trivial rfl rfl fun a hs => ?_
                 refine wpList_nil ?_
                 refine then_normal ?_
                 exact ⟨rfl, (hs.fix 277 (.bool (c6642 || (!(rv6610.2.1 == rv6622.2.1)))) rfl (or_f h6651)).weaken _ ⟨rfl, rfl, rfl, rfl, rfl, rfl, rfl, rfl, rfl, rfl, rfl, rfl, rfl, rfl, rfl, rfl, rfl, rfl, rfl, trivial⟩⟩
               ·rintro a w1 ⟨h6675, hs⟩
                subst h6675
                refine st_val hs (y_move rfl) trivial rfl rfl fun a hs => ?_
                refine wpl_join 4 (fun a w1 => w = w1 ∧ Sl 365 [(2, .int .i64 i9), (3, .int .i64 j10), (4, .int .i64 k11), (6, .pointer (some ⟨b12, 0, none⟩)), (11, .pointer (some ⟨b39, 0, none⟩)), (13, .pointer (some ⟨b77, 0, none⟩)), (14, .pointer (some ⟨b78, 0, none⟩)), (16, .pointer (some ⟨b5170, 0, none⟩)), (39, .pointer (some ⟨b6620, 0, none⟩)), (42, .pointer (some ⟨b6632, 0, none⟩)), (94, .slice (some ⟨b188, 0, none⟩) l190.length l190.length), (95, .int .i64 (l190.length : Int)), (96, .int .i64 sv2325.2.2), (213, .slice (some ⟨b5850, 0, none⟩) ([(⟨i9, j10⟩ : (Arr2 Int)), (⟨(w64 (1000000000000 + (w64 (500000 * rv5840.1)))), (w64 (1000000000000 + (w64 (500000 * rv5845.1))))⟩ : (Arr2 Int)), (⟨rv5172.1.From, rv5172.1.To⟩ : (Arr2 Int))] : List (Arr2 Int)).length ([(⟨i9, j10⟩ : (Arr2 Int)), (⟨(w64 (1000000000000 + (w64 (500000 * rv5840.1)))), (w64 (1000000000000 + (w64 (500000 * rv5845.1))))⟩ : (Arr2 Int)), (⟨rv5172.1.From, rv5172.1.To⟩ : (Arr2 Int))] : List (Arr2 Int)).length), (214, .int .i64 (([(⟨i9, j10⟩ : (Arr2 Int)), (⟨(w64 (1000000000000 + (w64 (500000 * rv5840.1)))), (w64 (1000000000000 + (w64 (500000 * rv5845.1))))⟩ : (Arr2 Int)), (⟨rv5172.1.From, rv5172.1.To⟩ : (Arr2 Int))] : List (Arr2 Int)).length : Int)), (215, .int .i64 sv6167), (282, .bool ((c6642 || (!(rv6610.2.1 == rv6622.2.1))) || (rv6610.2.2 != rv6622.2.2)))] a) ?_ ?_
                ·rcases Bool.eq_false_or_eq_true (c6642 || (!(rv6610.2.1 == rv6622.2.1))) with h6652 | h6652
                 ·have hs := hs.fix 278 (.bool true) rfl (vb h6652)
                  refine st_skip hs rfl rfl rfl rfl rfl fun a hs => ?_
                  refine st_skip hs rfl rfl rfl rfl rfl fun a hs => ?_
                  refine st_skip hs rfl rfl rfl rfl rfl fun a hs => ?_
                  refine st_val hs (y_pickT rfl rfl) trivial rfl rfl fun a hs => ?_
                  refine wpList_nil ?_
                  refine then_normal ?_
                  exact ⟨rfl, (hs.fix 282 (.bool ((c6642 || (!(rv6610.2.1 == rv6622.2.1))) || (rv6610.2.2 != rv6622.2.2))) rfl (or_t h6652)).weaken _ ⟨rfl, rfl, rfl, rfl, rfl, rfl, rfl, rfl, rfl, rfl, rfl, rfl, rfl, rfl, rfl, rfl, rfl, trivial⟩⟩
                 ·have hs := hs.fix 278 (.bool false) rfl (vb h6652)
                  refine st_val hs (y_move rfl) ⟨_, rfl, rfl⟩ rfl rfl fun a hs => ?_
                  refine st_val hs (y_move rfl) ⟨_, rfl, rfl⟩ rfl rfl fun a hs => ?_
                  refine st_val hs (y_neq rfl rfl) ⟨_, rfl, rfl⟩ rfl rfl fun a hs => ?_
                  refine st_val hs (y_pickF rfl rfl) trivial rfl rfl fun a hs => ?_
                  refine wpList_nil ?_
                  refine then_normal ?_
                  exact ⟨rfl, (hs.fix 282 (.bool ((c6642 || (!(rv6610.2.1 == rv6622.2.1))) || (rv6610.2.2 != rv6622.2.2))) rfl (or_f h6652)).weaken _ ⟨rfl, rfl, rfl, rfl, rfl, rfl, rfl, rfl, rfl, rfl, rfl, rfl, rfl, rfl, rfl, rfl, rfl, trivial⟩⟩
                ·rintro a w1 ⟨h6674, hs⟩
                 subst h6674
                 refine st_val hs (y_move rfl) trivial rfl rfl fun a hs => ?_
                 obtain ⟨c6661, hc6661, hsh⟩ := bind_t hsh
                 refine wpl_join 5 (fun a w => ∃ (Sv6662 : Nat → Prop), Sl 365 [(2, .int .i64 i9), (3, .int .i64 j10), (4, .int .i64 k11), (6, .pointer (some ⟨b12, 0, none⟩)), (11, .pointer (some ⟨b39, 0, none⟩)), (13, .pointer (some ⟨b77, 0, none⟩)), (14, .pointer (some ⟨b78, 0, none⟩)), (16, .pointer (some ⟨b5170, 0, none⟩)), (94, .slice (some ⟨b188, 0, none⟩) l190.length l190.length), (95, .int .i64 (l190.length : Int)), (96, .int .i64 sv2325.2.2), (213, .slice (some ⟨b5850, 0, none⟩) ([(⟨i9, j10⟩ : (Arr2 Int)), (⟨(w64 (1000000000000 + (w64 (500000 * rv5840.1)))), (w64 (1000000000000 + (w64 (500000 * rv5845.1))))⟩ : (Arr2 Int)), (⟨rv5172.1.From, rv5172.1.To⟩ : (Arr2 Int))] : List (Arr2 Int)).length ([(⟨i9, j10⟩ : (Arr2 Int)), (⟨(w64 (1000000000000 + (w64 (500000 * rv5840.1)))), (w64 (1000000000000 + (w64 (500000 * rv5845.1))))⟩ : (Arr2 Int)), (⟨rv5172.1.From, rv5172.1.To⟩ : (Arr2 Int))] : List (Arr2 Int)).length), (214, .int .i64 (([(⟨i9, j10⟩ : (Arr2 Int)), (⟨(w64 (1000000000000 + (w64 (500000 * rv5840.1)))), (w64 (1000000000000 + (w64 (500000 * rv5845.1))))⟩ : (Arr2 Int)), (⟨rv5172.1.From, rv5172.1.To⟩ : (Arr2 Int))] : List (Arr2 Int)).length : Int)), (215, .int .i64 sv6167), (288, .bool c6661)] a ∧ Wd ⟨w0, S0, []⟩ Sv6662 [.box b12 [.string raw5.Source.Network, .string raw5.Source.Station, .string raw5.Source.Location, .string raw5.Source.Channel, .int .i64 raw5.Start, .int .i64 raw5.First, .int .i64 raw5.Rate.Num, .int .i64 raw5.Rate.Den, .int .i64 raw5.Error, .int .i64 raw5.Run, .int .i64 raw5.Seq, .slice p6 raw5.Samples.length k7] 32, .box b39 [.slice p5846 rv5845.2.L.length k5847, .int .i64 rv5845.2.At] 60, .box b77 [.string rv60.1.Source.Network, .string rv60.1.Source.Station, .string rv60.1.Source.Location, .string rv60.1.Source.Channel, .int .i64 rv60.1.Start, .int .i64 rv60.1.First, .int .i64 rv60.1.Rate.Num, .int .i64 rv60.1.Rate.Den, .int .i64 rv60.1.Error, .int .i64 rv60.1.Run, .int .i64 rv60.1.Seq, .slice p61 rv60.1.Samples.length k62] 32, .box b78 [.string x166, .string x167, .string x168, .string x169, .int .i64 x170, .int .i64 x171, .int .i64 x172, .int .i64 x173, .int .i64 x174, .int .i64 x175, .int .i64 x176, .slice p161 x177.length k162] 32, .box b5170 [.string x5159.Source.Network, .string x5159.Source.Station, .string x5159.Source.Location, .string x5159.Source.Channel, .int .i64 x5159.Start, .int .i64 x5159.First, .int .i64 x5159.Rate.Num, .int .i64 x5159.Rate.Den, .int .i64 x5159.Error, .int .i64 x5159.Run, .int .i64 x5159.Seq, .slice p5166 x5159.Samples.length k5168] 32, .row (some ⟨b188, 0, none⟩) l190.length l190.length c191 32 12, .row (some ⟨b5850, 0, none⟩) ([(⟨i9, j10⟩ : (Arr2 Int)), (⟨(w64 (1000000000000 + (w64 (500000 * rv5840.1)))), (w64 (1000000000000 + (w64 (500000 * rv5845.1))))⟩ : (Arr2 Int)), (⟨rv5172.1.From, rv5172.1.To⟩ : (Arr2 Int))] : List (Arr2 Int)).length ([(⟨i9, j10⟩ : (Arr2 Int)), (⟨(w64 (1000000000000 + (w64 (500000 * rv5840.1)))), (w64 (1000000000000 + (w64 (500000 * rv5845.1))))⟩ : (Arr2 Int)), (⟨rv5172.1.From, rv5172.1.To⟩ : (Arr2 Int))] : List (Arr2 Int)).length [.int .i64 i9, .int .i64 j10, .int .i64 (w64 (1000000000000 + (w64 (500000 * rv5840.1)))), .int .i64 (w64 (1000000000000 + (w64 (500000 * rv5845.1)))), .int .i64 rv5172.1.From, .int .i64 rv5172.1.To] 56 2] [SlA p6 raw5.Samples.length k7 raw5.Samples, SlA p5846 rv5845.2.L.length k5847 rv5845.2.L, SlA p61 rv60.1.Samples.length k62 rv60.1.Samples, SlA p161 x177.length k162 x177, SlA p5166 x5159.Samples.length k5168 x5159.Samples, RowA c191 l190, RowA [.int .i64 i9, .int .i64 j10, .int .i64 (w64 (1000000000000 + (w64 (500000 * rv5840.1)))), .int .i64 (w64 (1000000000000 + (w64 (500000 * rv5845.1)))), .int .i64 rv5172.1.From, .int .i64 rv5172.1.To] ([(⟨i9, j10⟩ : (Arr2 Int)), (⟨(w64 (1000000000000 + (w64 (500000 * rv5840.1)))), (w64 (1000000000000 + (w64 (500000 * rv5845.1))))⟩ : (Arr2 Int)), (⟨rv5172.1.From, rv5172.1.To⟩ : (Arr2 Int))] : List (Arr2 Int))] w) ?_ ?_
                 ·rcases Bool.eq_false_or_eq_true ((c6642 || (!(rv6610.2.1 == rv6622.2.1))) || (rv6610.2.2 != rv6622.2.2)) with h6660 | h6660
                  ·have hs := hs.fix 283 (.bool true) rfl (vb h6660)
                   have hsh := ite_t hc6661 h6660
                   refine st_skip hs rfl rfl rfl rfl rfl fun a hs => ?_
                   refine st_skip hs rfl rfl rfl rfl rfl fun a hs => ?_
                   refine st_skip hs rfl rfl rfl rfl rfl fun a hs => ?_
                   refine st_skip hs rfl rfl rfl rfl rfl fun a hs => ?_
                   refine st_val hs (y_pickT rfl rfl) trivial rfl rfl fun a hs => ?_
                   refine wpList_nil ?_
                   have hsh := Option.some.inj hsh
                   subst hsh
                   refine then_normal ?_
                   exact ⟨Sv6643, (hs.wk rfl), (hw.ft [0, 1, 2, 3, 4, 9, 10] [0, 1, 2, 3, 4, 7, 8] (by decide) rfl rfl)⟩
                  ·have hs := hs.fix 283 (.bool false) rfl (vb h6660)
                   have hsh := ite_f hc6661 h6660
                   refine st_val hs (y_loadBA (hw.ownAt 5 rfl) rfl Try.isAgg32 Try.sizeOf32 rfl rfl) ⟨_, rfl, rfl⟩ rfl rfl fun a hs => ?_
                   refine st_val hs (y_loadBA (hw.ownAt 6 rfl) rfl Try.isAgg32 Try.sizeOf32 rfl rfl) ⟨_, rfl, rfl⟩ rfl rfl fun a hs => ?_
                   obtain ⟨rv6664, h6663, hsh⟩ := bind_t hsh
                   refine st_callR hs (ref14_Same_ok h6663 hw.bdom (hw.bRow 7 rfl 5 rfl) (hw.bRow 8 rfl 6 rfl)) (do_call Try.call29 rfl) ⟨_, rfl, rfl⟩ rfl rfl ?_
                   intro v6668 Sv6665 w a h6666 h6667 hs
                   subst h6667
                   have hw := hw.callB h6666
                   refine st_val hs (y_not rfl) ⟨_, rfl, rfl⟩ rfl rfl fun a hs => ?_
                   refine st_val hs (y_pickF rfl rfl) trivial rfl rfl fun a hs => ?_
                   refine wpList_nil ?_
                   have hsh := Option.some.inj hsh
                   subst hsh
                   refine then_normal ?_
                   exact ⟨Sv6643, (hs.wk rfl), (hw.ft [0, 1, 2, 3, 4, 9, 10] [0, 1, 2, 3, 4, 7, 8] (by decide) rfl rfl)⟩
                 ·rintro a w ⟨Sv6662, hs, hw⟩
                  refine wpList_nil ?_
                  refine then_normal ?_
                  refine wp_cond_split (hs.ev rfl) (fun h6671 => ?_) (fun h6671 => ?_)
                  ·have hsh := ite_t hsh h6671
                   refine wp_seq ?_
                   refine wp_region_lit ?_
                   refine st_val hs (y_assign rfl) trivial rfl rfl fun a hs => ?_
                   refine wpList_nil ?_
                   refine then_normal ?_
                   have hsh := Option.some.inj hsh
                   subst hsh
                   have h6672 := hd6470 _ rfl
                   subst h6672
                   have h6673 := hd4447 _ rfl
                   subst h6673
                   refine wp_ret ?_
                   refine blk_ret ?_
                   refine then_ret ?_
                   refine then_ret ?_
                   refine blk_ret ?_
                   refine then_ret ?_
                   refine blk_ret ?_
                   refine then_ret ?_
                   refine then_ret ?_
                   refine blk_ret ?_
                   refine then_ret ?_
                   exact ret1 hs rfl (rv_tmp rfl) (hw.ret rfl)
                  ·have hsh := ite_f hsh h6671
                   refine wp_skip ?_
                   refine blk_normal ?_
                   refine then_normal ?_
                   refine wp_region_lit ?_
                   refine st_val hs (y_add rfl rfl) trivial rfl rfl fun a hs => ?_
                   refine st_val hs (y_move rfl) trivial rfl rfl fun a hs => ?_
                   refine wpList_nil ?_
                   refine then_normal ?_
                   exact ⟨_, (Option.some.inj hsh).symm, Sv6662, (hs.wk rfl), (hw.ft [0, 1, 2, 3, 4, 5, 6] [0, 1, 2, 3, 4, 5, 6] (by decide) rfl rfl)⟩
            ·have hsh := ite_f hsh h6475
             obtain ⟨rv7236, hsh, h7237⟩ := map_t hsh
             have h7237 := (hd6470 _ h7237.symm).symm
             subst h7237
             refine wp_exit ?_
             refine then_exit ?_
             refine then_exit ?_
             refine blk_exit ?_
             refine then_normal ?_
             refine wp_seq ?_
             refine wp_region_lit ?_
             refine st_val hs (y_loadBA (hw.ownAt 2 rfl) rfl Try.isAgg32 Try.sizeOf32 rfl rfl) trivial rfl rfl fun a hs => ?_
             refine st_val hs (y_loadBA (hw.ownAt 3 rfl) rfl Try.isAgg32 Try.sizeOf32 rfl rfl) trivial rfl rfl fun a hs => ?_
             refine st_val hs (y_loadBA (hw.ownAt 0 rfl) rfl Try.isAgg32 Try.sizeOf32 rfl rfl) trivial rfl rfl fun a hs => ?_
             obtain ⟨l6680, h6679, hsh⟩ := bind_t hsh
             refine w_litSliceO (α := Record) (vs := [.agg #[.string rv60.1.Source.Network, .string rv60.1.Source.Station, .string rv60.1.Source.Location, .string rv60.1.Source.Channel, .int .i64 rv60.1.Start, .int .i64 rv60.1.First, .int .i64 rv60.1.Rate.Num, .int .i64 rv60.1.Rate.Den, .int .i64 rv60.1.Error, .int .i64 rv60.1.Run, .int .i64 rv60.1.Seq, .slice p61 rv60.1.Samples.length k62], .agg #[.string x166, .string x167, .string x168, .string x169, .int .i64 x170, .int .i64 x171, .int .i64 x172, .int .i64 x173, .int .i64 x174, .int .i64 x175, .int .i64 x176, .slice p161 x177.length k162], .agg #[.string raw5.Source.Network, .string raw5.Source.Station, .string raw5.Source.Location, .string raw5.Source.Channel, .int .i64 raw5.Start, .int .i64 raw5.First, .int .i64 raw5.Rate.Num, .int .i64 raw5.Rate.Den, .int .i64 raw5.Error, .int .i64 raw5.Run, .int .i64 raw5.Seq, .slice p6 raw5.Samples.length k7]]) (cs := [.string rv60.1.Source.Network, .string rv60.1.Source.Station, .string rv60.1.Source.Location, .string rv60.1.Source.Channel, .int .i64 rv60.1.Start, .int .i64 rv60.1.First, .int .i64 rv60.1.Rate.Num, .int .i64 rv60.1.Rate.Den, .int .i64 rv60.1.Error, .int .i64 rv60.1.Run, .int .i64 rv60.1.Seq, .slice p61 rv60.1.Samples.length k62, .string x166, .string x167, .string x168, .string x169, .int .i64 x170, .int .i64 x171, .int .i64 x172, .int .i64 x173, .int .i64 x174, .int .i64 x175, .int .i64 x176, .slice p161 x177.length k162, .string raw5.Source.Network, .string raw5.Source.Station, .string raw5.Source.Location, .string raw5.Source.Channel, .int .i64 raw5.Start, .int .i64 raw5.First, .int .i64 raw5.Rate.Num, .int .i64 raw5.Rate.Den, .int .i64 raw5.Error, .int .i64 raw5.Run, .int .i64 raw5.Seq, .slice p6 raw5.Samples.length k7]) (xs := ([rv60.1, (⟨(⟨x166, x167, x168, x169⟩ : SourceID), x170, x171, (⟨x172, x173⟩ : Rate), x174, x175, x176, x177⟩ : Record), raw5] : List Record)) hs hw El51 rfl rfl rfl rfl rfl rfl ⟨⟨_, _, _, _, _, _, _, _, _, _, _, _, rfl, rfl, rfl, rfl, rfl, rfl, rfl, rfl, rfl, rfl, rfl, rfl, ⟨_, _, _, rfl, hw.envAt 2 rfl⟩⟩, ⟨⟨_, _, _, _, _, _, _, _, _, _, _, _, rfl, rfl, rfl, rfl, rfl, rfl, rfl, rfl, rfl, rfl, rfl, rfl, ⟨_, _, _, rfl, hw.envAt 3 rfl⟩⟩, ⟨⟨_, _, _, _, _, _, _, _, _, _, _, _, rfl, rfl, rfl, rfl, rfl, rfl, rfl, rfl, rfl, rfl, rfl, rfl, ⟨_, _, _, rfl, hw.envAt 0 rfl⟩⟩, rfl⟩⟩⟩ rfl trivial rfl h6679 fun b6678 c6681 a w hs hw => ?_
             refine st_val hs (y_len Try.runUnderlying51 rfl) trivial rfl rfl fun a hs => ?_
             refine st_val hs (y_move rfl) trivial rfl rfl fun a hs => ?_
             refine wpList_nil ?_
             refine then_normal ?_
             refine wp_block ?_
             refine wp_while (fun sv6795 a w => ∃ (Sv6869 : Nat → Prop), Sl 365 [(2, .int .i64 i9), (3, .int .i64 j10), (4, .int .i64 k11), (6, .pointer (some ⟨b12, 0, none⟩)), (11, .pointer (some ⟨b39, 0, none⟩)), (13, .pointer (some ⟨b77, 0, none⟩)), (14, .pointer (some ⟨b78, 0, none⟩)), (16, .pointer (some ⟨b5170, 0, none⟩)), (94, .slice (some ⟨b188, 0, none⟩) l190.length l190.length), (95, .int .i64 (l190.length : Int)), (96, .int .i64 sv2325.2.2), (293, .slice (some ⟨b6678, 0, none⟩) l6680.length l6680.length), (294, .int .i64 (l6680.length : Int)), (295, .int .i64 sv6795)] a ∧ Wd ⟨w0, S0, []⟩ Sv6869 [.box b12 [.string raw5.Source.Network, .string raw5.Source.Station, .string raw5.Source.Location, .string raw5.Source.Channel, .int .i64 raw5.Start, .int .i64 raw5.First, .int .i64 raw5.Rate.Num, .int .i64 raw5.Rate.Den, .int .i64 raw5.Error, .int .i64 raw5.Run, .int .i64 raw5.Seq, .slice p6 raw5.Samples.length k7] 32, .box b39 [.slice p5846 rv5845.2.L.length k5847, .int .i64 rv5845.2.At] 60, .box b77 [.string rv60.1.Source.Network, .string rv60.1.Source.Station, .string rv60.1.Source.Location, .string rv60.1.Source.Channel, .int .i64 rv60.1.Start, .int .i64 rv60.1.First, .int .i64 rv60.1.Rate.Num, .int .i64 rv60.1.Rate.Den, .int .i64 rv60.1.Error, .int .i64 rv60.1.Run, .int .i64 rv60.1.Seq, .slice p61 rv60.1.Samples.length k62] 32, .box b78 [.string x166, .string x167, .string x168, .string x169, .int .i64 x170, .int .i64 x171, .int .i64 x172, .int .i64 x173, .int .i64 x174, .int .i64 x175, .int .i64 x176, .slice p161 x177.length k162] 32, .box b5170 [.string x5159.Source.Network, .string x5159.Source.Station, .string x5159.Source.Location, .string x5159.Source.Channel, .int .i64 x5159.Start, .int .i64 x5159.First, .int .i64 x5159.Rate.Num, .int .i64 x5159.Rate.Den, .int .i64 x5159.Error, .int .i64 x5159.Run, .int .i64 x5159.Seq, .slice p5166 x5159.Samples.length k5168] 32, .row (some ⟨b188, 0, none⟩) l190.length l190.length c191 32 12, .row (some ⟨b6678, 0, none⟩) l6680.length l6680.length c6681 32 12] [SlA p6 raw5.Samples.length k7 raw5.Samples, SlA p5846 rv5845.2.L.length k5847 rv5845.2.L, SlA p61 rv60.1.Samples.length k62 rv60.1.Samples, SlA p161 x177.length k162 x177, SlA p5166 x5159.Samples.length k5168 x5159.Samples, RowA c191 l190, RowA c6681 l6680] w) 0 hsh ⟨Sv6369, (hs.wk rfl), (hw.ft [1, 2, 3, 4, 5, 6, 0] [1, 2, 3, 4, 5, 6, 0] (by decide) rfl rfl)⟩ ?_
             repeat clear hsh
             rintro sv6795 a w tv6907 ⟨Sv6869, hs, hw⟩ hsh hd6906
             delta law14_RecordExact_l29 at hsh
             refine wp_seq ?_
             refine wp_region_lit ?_
             refine st_val hs (y_lss rfl rfl) trivial rfl rfl fun a hs => ?_
             refine wpList_nil ?_
             refine then_normal ?_
             refine wp_seq ?_
             refine wp_cond_split (hs.ev rfl) (fun h6911 => ?_) (fun h6911 => ?_)
             ·have hsh := ite_t hsh h6911
              refine wp_skip ?_
              refine then_normal ?_
              refine wp_seq ?_
              refine wp_block ?_
              refine wp_seq ?_
              refine wp_region_lit ?_
              obtain ⟨x6949, h6947, hsh⟩ := bind_t hsh
              obtain ⟨q6953, c6954, h6950, h6951, h6955, h6948⟩ := hw.elemRK (α := Record) 6 rfl 6 rfl h6947
              obtain ⟨_, _, _, _, _, _, _, _, _, _, _, _, rfl, rfl, rfl, rfl, rfl, rfl, rfl, rfl, rfl, rfl, rfl, rfl, ⟨p6956, n6957, k6958, rfl, h6959⟩⟩ := h6948
              obtain rfl := h6959.1
              have hw := hw.addE (e := SlA p6956 _ k6958 x6949.Samples) h6959
              refine st_val hs (y_indexAt Try.runUnderlying51 Try.sizeOf32 rfl rfl h6950.1 h6950.2 h6951) trivial rfl rfl fun a hs => ?_
              refine st_val hs (y_loadQA (j := 0) (hw.ownAt 6 rfl) rfl Try.isAgg32 Try.sizeOf32 h6955 rfl rfl) trivial rfl rfl fun a hs => ?_
              refine w_alloc (cs := [.string ByteArray.empty, .string ByteArray.empty, .string ByteArray.empty, .string ByteArray.empty, .int .i64 0, .int .i64 0, .int .i64 0, .int .i64 0, .int .i64 0, .int .i64 0, .int .i64 0, .slice none ([] : List Int).length 0]) hs hw Try.zeroValue32 rfl rfl trivial ?_
              intro b6960 a w hs hw
              refine w_store (m := 12) (cs' := [.string x6949.Source.Network, .string x6949.Source.Station, .string x6949.Source.Location, .string x6949.Source.Channel, .int .i64 x6949.Start, .int .i64 x6949.First, .int .i64 x6949.Rate.Num, .int .i64 x6949.Rate.Den, .int .i64 x6949.Error, .int .i64 x6949.Run, .int .i64 x6949.Seq, .slice p6956 x6949.Samples.length k6958]) hs hw 0 rfl rfl rfl Try.sizeOf32 rfl rfl rfl rfl trivial ?_
              intro a w hs hw
              refine wpList_nil ?_
              refine then_normal ?_
              refine wp_seq ?_
              obtain ⟨rv6962, h6961, hsh⟩ := bind_t hsh
              obtain ⟨rv6964, h6963, hsh⟩ := bind_t hsh
              obtain ⟨c6969, hc6969, hsh⟩ := bind_t hsh
              obtain ⟨c6974, hc6974, hsh⟩ := bind_t hsh
              obtain ⟨c6979, hc6979, hsh⟩ := bind_t hsh
              refine wp_only (fun a w => ∃ (Sv6980 : Nat → Prop), Sl 365 [(2, .int .i64 i9), (3, .int .i64 j10), (4, .int .i64 k11), (6, .pointer (some ⟨b12, 0, none⟩)), (11, .pointer (some ⟨b39, 0, none⟩)), (13, .pointer (some ⟨b77, 0, none⟩)), (14, .pointer (some ⟨b78, 0, none⟩)), (16, .pointer (some ⟨b5170, 0, none⟩)), (94, .slice (some ⟨b188, 0, none⟩) l190.length l190.length), (95, .int .i64 (l190.length : Int)), (96, .int .i64 sv2325.2.2), (293, .slice (some ⟨b6678, 0, none⟩) l6680.length l6680.length), (294, .int .i64 (l6680.length : Int)), (295, .int .i64 sv6795), (334, .bool c6979)] a ∧ Wd ⟨w0, S0, []⟩ Sv6980 [.box b12 [.string raw5.Source.Network, .string raw5.Source.Station, .string raw5.Source.Location, .string raw5.Source.Channel, .int .i64 raw5.Start, .int .i64 raw5.First, .int .i64 raw5.Rate.Num, .int .i64 raw5.Rate.Den, .int .i64 raw5.Error, .int .i64 raw5.Run, .int .i64 raw5.Seq, .slice p6 raw5.Samples.length k7] 32, .box b39 [.slice p5846 rv5845.2.L.length k5847, .int .i64 rv5845.2.At] 60, .box b77 [.string rv60.1.Source.Network, .string rv60.1.Source.Station, .string rv60.1.Source.Location, .string rv60.1.Source.Channel, .int .i64 rv60.1.Start, .int .i64 rv60.1.First, .int .i64 rv60.1.Rate.Num, .int .i64 rv60.1.Rate.Den, .int .i64 rv60.1.Error, .int .i64 rv60.1.Run, .int .i64 rv60.1.Seq, .slice p61 rv60.1.Samples.length k62] 32, .box b78 [.string x166, .string x167, .string x168, .string x169, .int .i64 x170, .int .i64 x171, .int .i64 x172, .int .i64 x173, .int .i64 x174, .int .i64 x175, .int .i64 x176, .slice p161 x177.length k162] 32, .box b5170 [.string x5159.Source.Network, .string x5159.Source.Station, .string x5159.Source.Location, .string x5159.Source.Channel, .int .i64 x5159.Start, .int .i64 x5159.First, .int .i64 x5159.Rate.Num, .int .i64 x5159.Rate.Den, .int .i64 x5159.Error, .int .i64 x5159.Run, .int .i64 x5159.Seq, .slice p5166 x5159.Samples.length k5168] 32, .row (some ⟨b188, 0, none⟩) l190.length l190.length c191 32 12, .row (some ⟨b6678, 0, none⟩) l6680.length l6680.length c6681 32 12] [SlA p6 raw5.Samples.length k7 raw5.Samples, SlA p5846 rv5845.2.L.length k5847 rv5845.2.L, SlA p61 rv60.1.Samples.length k62 rv60.1.Samples, SlA p161 x177.length k162 x177, SlA p5166 x5159.Samples.length k5168 x5159.Samples, RowA c191 l190, RowA c6681 l6680] w) ?_ ?_
              ·rcases Bool.eq_false_or_eq_true (rv6962 != rv6964) with h6981 | h6981
               ·have h6982 := ite_t hc6969 h6981
                rcases Bool.eq_false_or_eq_true c6969 with h6983 | h6983
                ·have h6984 := ite_t hc6974 h6983
                 rcases Bool.eq_false_or_eq_true c6974 with h6985 | h6985
                 ·have h6986 := ite_t hc6979 h6985
                  refine h_b (C := Cls [.box b6960 [.string x6949.Source.Network, .string x6949.Source.Station, .string x6949.Source.Location, .string x6949.Source.Channel, .int .i64 x6949.Start, .int .i64 x6949.First, .int .i64 x6949.Rate.Num, .int .i64 x6949.Rate.Den, .int .i64 x6949.Error, .int .i64 x6949.Run, .int .i64 x6949.Seq, .slice p6956 x6949.Samples.length k6958] 32, .box b12 [.string raw5.Source.Network, .string raw5.Source.Station, .string raw5.Source.Location, .string raw5.Source.Channel, .int .i64 raw5.Start, .int .i64 raw5.First, .int .i64 raw5.Rate.Num, .int .i64 raw5.Rate.Den, .int .i64 raw5.Error, .int .i64 raw5.Run, .int .i64 raw5.Seq, .slice p6 raw5.Samples.length k7] 32, .box b39 [.slice p5846 rv5845.2.L.length k5847, .int .i64 rv5845.2.At] 60, .box b77 [.string rv60.1.Source.Network, .string rv60.1.Source.Station, .string rv60.1.Source.Location, .string rv60.1.Source.Channel, .int .i64 rv60.1.Start, .int .i64 rv60.1.First, .int .i64 rv60.1.Rate.Num, .int .i64 rv60.1.Rate.Den, .int .i64 rv60.1.Error, .int .i64 rv60.1.Run, .int .i64 rv60.1.Seq, .slice p61 rv60.1.Samples.length k62] 32, .box b78 [.string x166, .string x167, .string x168, .string x169, .int .i64 x170, .int .i64 x171, .int .i64 x172, .int .i64 x173, .int .i64 x174, .int .i64 x175, .int .i64 x176, .slice p161 x177.length k162] 32, .box b5170 [.string x5159.Source.Network, .string x5159.Source.Station, .string x5159.Source.Location, .string x5159.Source.Channel, .int .i64 x5159.Start, .int .i64 x5159.First, .int .i64 x5159.Rate.Num, .int .i64 x5159.Rate.Den, .int .i64 x5159.Error, .int .i64 x5159.Run, .int .i64 x5159.Seq, .slice p5166 x5159.Samples.length k5168] 32, .row (some ⟨b188, 0, none⟩) l190.length l190.length c191 32 12, .row (some ⟨b6678, 0, none⟩) l6680.length l6680.length c6681 32 12] []) (by kernel_rfl) rfl (hw.drew.cs [0, 1, 2, 3, 4, 5, 6, 7] [] rfl rfl) fun hC => ?_
                  have hw := hw.drew
                  refine h_g hs 0 rfl (by kernel_rfl) rfl rfl hC rfl (fun w hC => y_loadBA (hC.ownAt 5 rfl) rfl Try.isAgg32 Try.sizeOf32 rfl rfl) fun a hs => ?_
                  refine h_g hs 1 rfl (by kernel_rfl) rfl rfl hC rfl (fun w hC => y_loadBA (hC.ownAt 0 rfl) rfl Try.isAgg32 Try.sizeOf32 rfl rfl) fun a hs => ?_
                  refine h_g hs 3 rfl (by kernel_rfl) rfl rfl hC rfl (fun w hC => y_loadBA (hC.ownAt 5 rfl) rfl Try.isAgg32 Try.sizeOf32 rfl rfl) fun a hs => ?_
                  refine h_g hs 4 rfl (by kernel_rfl) rfl rfl hC rfl (fun w hC => y_loadBA (hC.ownAt 0 rfl) rfl Try.isAgg32 Try.sizeOf32 rfl rfl) fun a hs => ?_
                  refine h_one (i := 2) (by kernel_rfl) rfl ?_
                  refine st_callR hs (record_Compare_ok h6961 hw.bdom (hw.bE 5 rfl) (hw.bE 0 rfl)) (do_call Try.call23 rfl) trivial rfl rfl ?_
                  intro v6990 Sv6987 w a h6988 h6989 hs
                  subst h6989
                  have hw := hw.callB h6988
                  refine h_nx (hw.cs [0, 1, 2, 3, 4, 5, 6, 7] [] rfl rfl) fun hC => ?_
                  refine h_one (i := 5) (by kernel_rfl) rfl ?_
                  refine st_callR hs (ref14_Compare_ok h6963 hw.bdom (hw.bE 5 rfl) (hw.bE 0 rfl)) (do_call Try.call32 rfl) trivial rfl rfl ?_
                  intro v6995 Sv6992 w a h6993 h6994 hs
                  subst h6994
                  have hw := hw.callB h6993
                  refine h_nx (hw.cs [0, 1, 2, 3, 4, 5, 6, 7] [] rfl rfl) fun hC => ?_
                  refine h_g hs 6 rfl (by kernel_rfl) rfl rfl hC rfl (fun w hC => y_neq rfl rfl) fun a hs => ?_
                  refine h_g hs 7 rfl (by kernel_rfl) rfl rfl hC rfl (fun w hC => y_move rfl) fun a hs => ?_
                  have hs := hs.fix 306 (.bool true) rfl (vb h6981)
                  refine h_s hs 8 rfl (by kernel_rfl) rfl rfl rfl (.inl rfl) rfl rfl hC fun a hs => ?_
                  refine h_s hs 9 rfl (by kernel_rfl) rfl rfl rfl (.inl rfl) rfl rfl hC fun a hs => ?_
                  refine h_s hs 10 rfl (by kernel_rfl) rfl rfl rfl (.inl rfl) rfl rfl hC fun a hs => ?_
                  refine h_s hs 11 rfl (by kernel_rfl) rfl rfl rfl (.inl rfl) rfl rfl hC fun a hs => ?_
                  refine h_s hs 12 rfl (by kernel_rfl) rfl rfl rfl (.inl rfl) rfl rfl hC fun a hs => ?_
                  refine h_s hs 13 rfl (by kernel_rfl) rfl rfl rfl (.inl rfl) rfl rfl hC fun a hs => ?_
                  refine h_s hs 14 rfl (by kernel_rfl) rfl rfl rfl (.inl rfl) rfl rfl hC fun a hs => ?_
                  refine h_g hs 15 rfl (by kernel_rfl) rfl rfl hC rfl (fun w hC => y_pickTE (v := .bool c6969) rfl rfl (vbs h6982)) fun a hs => ?_
                  refine h_g hs 16 rfl (by kernel_rfl) rfl rfl hC rfl (fun w hC => y_move rfl) fun a hs => ?_
                  have hs := hs.fix 315 (.bool true) rfl (vb h6983)
                  refine h_s hs 17 rfl (by kernel_rfl) rfl rfl rfl (.inl rfl) rfl rfl hC fun a hs => ?_
                  refine h_s hs 18 rfl (by kernel_rfl) rfl rfl rfl (.inl rfl) rfl rfl hC fun a hs => ?_
                  refine h_s hs 19 rfl (by kernel_rfl) rfl rfl rfl (.inl rfl) rfl rfl hC fun a hs => ?_
                  refine h_s hs 20 rfl (by kernel_rfl) rfl rfl rfl (.inl rfl) rfl rfl hC fun a hs => ?_
                  refine h_s hs 21 rfl (by kernel_rfl) rfl rfl rfl (.inl rfl) rfl rfl hC fun a hs => ?_
                  refine h_s hs 22 rfl (by kernel_rfl) rfl rfl rfl (.inl rfl) rfl rfl hC fun a hs => ?_
                  refine h_s hs 23 rfl (by kernel_rfl) rfl rfl rfl (.inl rfl) rfl rfl hC fun a hs => ?_
                  refine h_g hs 24 rfl (by kernel_rfl) rfl rfl hC rfl (fun w hC => y_pickTE (v := .bool c6974) rfl rfl (vbs h6984)) fun a hs => ?_
                  refine h_g hs 25 rfl (by kernel_rfl) rfl rfl hC rfl (fun w hC => y_move rfl) fun a hs => ?_
                  have hs := hs.fix 324 (.bool true) rfl (vb h6985)
                  refine h_s hs 26 rfl (by kernel_rfl) rfl rfl rfl (.inl rfl) rfl rfl hC fun a hs => ?_
                  refine h_s hs 27 rfl (by kernel_rfl) rfl rfl rfl (.inl rfl) rfl rfl hC fun a hs => ?_
                  refine h_s hs 28 rfl (by kernel_rfl) rfl rfl rfl (.inl rfl) rfl rfl hC fun a hs => ?_
                  refine h_s hs 29 rfl (by kernel_rfl) rfl rfl rfl (.inl rfl) rfl rfl hC fun a hs => ?_
                  refine h_s hs 30 rfl (by kernel_rfl) rfl rfl rfl (.inl rfl) rfl rfl hC fun a hs => ?_
                  refine h_s hs 31 rfl (by kernel_rfl) rfl rfl rfl (.inl rfl) rfl rfl hC fun a hs => ?_
                  refine h_s hs 32 rfl (by kernel_rfl) rfl rfl rfl (.inl rfl) rfl rfl hC fun a hs => ?_
                  refine h_s hs 33 rfl (by kernel_rfl) rfl rfl rfl (.inl rfl) rfl rfl hC fun a hs => ?_
                  refine h_s hs 34 rfl (by kernel_rfl) rfl rfl rfl (.inl rfl) rfl rfl hC fun a hs => ?_
                  refine h_g hs 35 rfl (by kernel_rfl) rfl rfl hC rfl (fun w hC => y_pickTE (v := .bool c6979) rfl rfl (vbs h6986)) fun a hs => ?_
                  refine h_done (by kernel_rfl) ?_
                  exact ⟨Sv6869, (hs.wk rfl), (hw.ft [1, 2, 3, 4, 5, 6, 7] [1, 2, 3, 4, 5, 6, 7] (by decide) rfl rfl)⟩
                 ·have h6997 := ite_f hc6979 h6985
                  obtain ⟨rv6999, h6998, h6997⟩ := bind_t h6997
                  obtain ⟨rv7001, h7000, h6997⟩ := bind_t h6997
                  refine h_b (C := Cls [.box b6960 [.string x6949.Source.Network, .string x6949.Source.Station, .string x6949.Source.Location, .string x6949.Source.Channel, .int .i64 x6949.Start, .int .i64 x6949.First, .int .i64 x6949.Rate.Num, .int .i64 x6949.Rate.Den, .int .i64 x6949.Error, .int .i64 x6949.Run, .int .i64 x6949.Seq, .slice p6956 x6949.Samples.length k6958] 32, .box b12 [.string raw5.Source.Network, .string raw5.Source.Station, .string raw5.Source.Location, .string raw5.Source.Channel, .int .i64 raw5.Start, .int .i64 raw5.First, .int .i64 raw5.Rate.Num, .int .i64 raw5.Rate.Den, .int .i64 raw5.Error, .int .i64 raw5.Run, .int .i64 raw5.Seq, .slice p6 raw5.Samples.length k7] 32, .box b39 [.slice p5846 rv5845.2.L.length k5847, .int .i64 rv5845.2.At] 60, .box b77 [.string rv60.1.Source.Network, .string rv60.1.Source.Station, .string rv60.1.Source.Location, .string rv60.1.Source.Channel, .int .i64 rv60.1.Start, .int .i64 rv60.1.First, .int .i64 rv60.1.Rate.Num, .int .i64 rv60.1.Rate.Den, .int .i64 rv60.1.Error, .int .i64 rv60.1.Run, .int .i64 rv60.1.Seq, .slice p61 rv60.1.Samples.length k62] 32, .box b78 [.string x166, .string x167, .string x168, .string x169, .int .i64 x170, .int .i64 x171, .int .i64 x172, .int .i64 x173, .int .i64 x174, .int .i64 x175, .int .i64 x176, .slice p161 x177.length k162] 32, .box b5170 [.string x5159.Source.Network, .string x5159.Source.Station, .string x5159.Source.Location, .string x5159.Source.Channel, .int .i64 x5159.Start, .int .i64 x5159.First, .int .i64 x5159.Rate.Num, .int .i64 x5159.Rate.Den, .int .i64 x5159.Error, .int .i64 x5159.Run, .int .i64 x5159.Seq, .slice p5166 x5159.Samples.length k5168] 32, .row (some ⟨b188, 0, none⟩) l190.length l190.length c191 32 12, .row (some ⟨b6678, 0, none⟩) l6680.length l6680.length c6681 32 12] []) (by kernel_rfl) rfl (hw.drew.cs [0, 1, 2, 3, 4, 5, 6, 7] [] rfl rfl) fun hC => ?_
                  have hw := hw.drew
                  refine h_g hs 0 rfl (by kernel_rfl) rfl rfl hC rfl (fun w hC => y_loadBA (hC.ownAt 5 rfl) rfl Try.isAgg32 Try.sizeOf32 rfl rfl) fun a hs => ?_
                  refine h_g hs 1 rfl (by kernel_rfl) rfl rfl hC rfl (fun w hC => y_loadBA (hC.ownAt 0 rfl) rfl Try.isAgg32 Try.sizeOf32 rfl rfl) fun a hs => ?_
                  refine h_g hs 3 rfl (by kernel_rfl) rfl rfl hC rfl (fun w hC => y_loadBA (hC.ownAt 5 rfl) rfl Try.isAgg32 Try.sizeOf32 rfl rfl) fun a hs => ?_
                  refine h_g hs 4 rfl (by kernel_rfl) rfl rfl hC rfl (fun w hC => y_loadBA (hC.ownAt 0 rfl) rfl Try.isAgg32 Try.sizeOf32 rfl rfl) fun a hs => ?_
                  refine h_one (i := 2) (by kernel_rfl) rfl ?_
                  refine st_callR hs (record_Compare_ok h6961 hw.bdom (hw.bE 5 rfl) (hw.bE 0 rfl)) (do_call Try.call23 rfl) trivial rfl rfl ?_
                  intro v7005 Sv7002 w a h7003 h7004 hs
                  subst h7004
                  have hw := hw.callB h7003
                  refine h_nx (hw.cs [0, 1, 2, 3, 4, 5, 6, 7] [] rfl rfl) fun hC => ?_
                  refine h_one (i := 5) (by kernel_rfl) rfl ?_
                  refine st_callR hs (ref14_Compare_ok h6963 hw.bdom (hw.bE 5 rfl) (hw.bE 0 rfl)) (do_call Try.call32 rfl) trivial rfl rfl ?_
                  intro v7010 Sv7007 w a h7008 h7009 hs
                  subst h7009
                  have hw := hw.callB h7008
                  refine h_nx (hw.cs [0, 1, 2, 3, 4, 5, 6, 7] [] rfl rfl) fun hC => ?_
                  refine h_g hs 6 rfl (by kernel_rfl) rfl rfl hC rfl (fun w hC => y_neq rfl rfl) fun a hs => ?_
                  refine h_g hs 7 rfl (by kernel_rfl) rfl rfl hC rfl (fun w hC => y_move rfl) fun a hs => ?_
                  have hs := hs.fix 306 (.bool true) rfl (vb h6981)
                  refine h_s hs 8 rfl (by kernel_rfl) rfl rfl rfl (.inl rfl) rfl rfl hC fun a hs => ?_
                  refine h_s hs 9 rfl (by kernel_rfl) rfl rfl rfl (.inl rfl) rfl rfl hC fun a hs => ?_
                  refine h_s hs 10 rfl (by kernel_rfl) rfl rfl rfl (.inl rfl) rfl rfl hC fun a hs => ?_
                  refine h_s hs 11 rfl (by kernel_rfl) rfl rfl rfl (.inl rfl) rfl rfl hC fun a hs => ?_
                  refine h_s hs 12 rfl (by kernel_rfl) rfl rfl rfl (.inl rfl) rfl rfl hC fun a hs => ?_
                  refine h_s hs 13 rfl (by kernel_rfl) rfl rfl rfl (.inl rfl) rfl rfl hC fun a hs => ?_
                  refine h_s hs 14 rfl (by kernel_rfl) rfl rfl rfl (.inl rfl) rfl rfl hC fun a hs => ?_
                  refine h_g hs 15 rfl (by kernel_rfl) rfl rfl hC rfl (fun w hC => y_pickTE (v := .bool c6969) rfl rfl (vbs h6982)) fun a hs => ?_
                  refine h_g hs 16 rfl (by kernel_rfl) rfl rfl hC rfl (fun w hC => y_move rfl) fun a hs => ?_
                  have hs := hs.fix 315 (.bool true) rfl (vb h6983)
                  refine h_s hs 17 rfl (by kernel_rfl) rfl rfl rfl (.inl rfl) rfl rfl hC fun a hs => ?_
                  refine h_s hs 18 rfl (by kernel_rfl) rfl rfl rfl (.inl rfl) rfl rfl hC fun a hs => ?_
                  refine h_s hs 19 rfl (by kernel_rfl) rfl rfl rfl (.inl rfl) rfl rfl hC fun a hs => ?_
                  refine h_s hs 20 rfl (by kernel_rfl) rfl rfl rfl (.inl rfl) rfl rfl hC fun a hs => ?_
                  refine h_s hs 21 rfl (by kernel_rfl) rfl rfl rfl (.inl rfl) rfl rfl hC fun a hs => ?_
                  refine h_s hs 22 rfl (by kernel_rfl) rfl rfl rfl (.inl rfl) rfl rfl hC fun a hs => ?_
                  refine h_s hs 23 rfl (by kernel_rfl) rfl rfl rfl (.inl rfl) rfl rfl hC fun a hs => ?_
                  refine h_g hs 24 rfl (by kernel_rfl) rfl rfl hC rfl (fun w hC => y_pickTE (v := .bool c6974) rfl rfl (vbs h6984)) fun a hs => ?_
                  refine h_g hs 25 rfl (by kernel_rfl) rfl rfl hC rfl (fun w hC => y_move rfl) fun a hs => ?_
                  have hs := hs.fix 324 (.bool false) rfl (vb h6985)
                  refine h_t hs 26 rfl (by kernel_rfl) ⟨_, rfl, rfl⟩ rfl rfl hC (fun w hC => y_loadBA (hC.ownAt 5 rfl) rfl Try.isAgg32 Try.sizeOf32 rfl rfl) fun a hs => ?_
                  refine h_t hs 27 rfl (by kernel_rfl) ⟨_, rfl, rfl⟩ rfl rfl hC (fun w hC => y_loadBA (hC.ownAt 0 rfl) rfl Try.isAgg32 Try.sizeOf32 rfl rfl) fun a hs => ?_
                  refine h_t hs 28 rfl (by kernel_rfl) ⟨_, rfl, rfl⟩ rfl rfl hC (fun w hC => y_move rfl) fun a hs => ?_
                  refine h_t hs 30 rfl (by kernel_rfl) ⟨_, rfl, rfl⟩ rfl rfl hC (fun w hC => y_loadBA (hC.ownAt 5 rfl) rfl Try.isAgg32 Try.sizeOf32 rfl rfl) fun a hs => ?_
                  refine h_t hs 31 rfl (by kernel_rfl) ⟨_, rfl, rfl⟩ rfl rfl hC (fun w hC => y_loadBA (hC.ownAt 0 rfl) rfl Try.isAgg32 Try.sizeOf32 rfl rfl) fun a hs => ?_
                  refine h_t hs 32 rfl (by kernel_rfl) ⟨_, rfl, rfl⟩ rfl rfl hC (fun w hC => y_move rfl) fun a hs => ?_
                  refine h_one (i := 29) (by kernel_rfl) rfl ?_
                  refine st_callR hs (record_Follows_ok h6998 hw.bdom (hw.bE 5 rfl) (hw.bE 0 rfl)) (do_call Try.call14 rfl) ⟨_, rfl, rfl⟩ rfl rfl ?_
                  intro v7015 Sv7012 w a h7013 h7014 hs
                  subst h7014
                  have hw := hw.callB h7013
                  refine h_nx (hw.cs [0, 1, 2, 3, 4, 5, 6, 7] [] rfl rfl) fun hC => ?_
                  refine h_one (i := 33) (by kernel_rfl) rfl ?_
                  refine st_callR hs (ref14_Follows_ok h7000 hw.bdom (hw.bE 5 rfl) (hw.bE 0 rfl)) (do_call Try.call34 rfl) ⟨_, rfl, rfl⟩ rfl rfl ?_
                  intro v7020 Sv7017 w a h7018 h7019 hs
                  subst h7019
                  have hw := hw.callB h7018
                  refine h_nx (hw.cs [0, 1, 2, 3, 4, 5, 6, 7] [] rfl rfl) fun hC => ?_
                  refine h_t hs 34 rfl (by kernel_rfl) ⟨_, rfl, rfl⟩ rfl rfl hC (fun w hC => y_neqB Try.runUnderlying4 rfl rfl) fun a hs => ?_
                  refine h_g hs 35 rfl (by kernel_rfl) rfl rfl hC rfl (fun w hC => y_pickFE (v := .bool c6979) rfl rfl (vbs h6997)) fun a hs => ?_
                  refine h_done (by kernel_rfl) ?_
                  exact ⟨Sv6869, (hs.wk rfl), (hw.ft [1, 2, 3, 4, 5, 6, 7] [1, 2, 3, 4, 5, 6, 7] (by decide) rfl rfl)⟩
                ·have h7022 := ite_f hc6974 h6983
                 obtain ⟨rv7024, h7023, h7022⟩ := bind_t h7022
                 obtain ⟨rv7026, h7025, h7022⟩ := bind_t h7022
                 rcases Bool.eq_false_or_eq_true c6974 with h7027 | h7027
                 ·have h7028 := ite_t hc6979 h7027
                  refine h_b (C := Cls [.box b6960 [.string x6949.Source.Network, .string x6949.Source.Station, .string x6949.Source.Location, .string x6949.Source.Channel, .int .i64 x6949.Start, .int .i64 x6949.First, .int .i64 x6949.Rate.Num, .int .i64 x6949.Rate.Den, .int .i64 x6949.Error, .int .i64 x6949.Run, .int .i64 x6949.Seq, .slice p6956 x6949.Samples.length k6958] 32, .box b12 [.string raw5.Source.Network, .string raw5.Source.Station, .string raw5.Source.Location, .string raw5.Source.Channel, .int .i64 raw5.Start, .int .i64 raw5.First, .int .i64 raw5.Rate.Num, .int .i64 raw5.Rate.Den, .int .i64 raw5.Error, .int .i64 raw5.Run, .int .i64 raw5.Seq, .slice p6 raw5.Samples.length k7] 32, .box b39 [.slice p5846 rv5845.2.L.length k5847, .int .i64 rv5845.2.At] 60, .box b77 [.string rv60.1.Source.Network, .string rv60.1.Source.Station, .string rv60.1.Source.Location, .string rv60.1.Source.Channel, .int .i64 rv60.1.Start, .int .i64 rv60.1.First, .int .i64 rv60.1.Rate.Num, .int .i64 rv60.1.Rate.Den, .int .i64 rv60.1.Error, .int .i64 rv60.1.Run, .int .i64 rv60.1.Seq, .slice p61 rv60.1.Samples.length k62] 32, .box b78 [.string x166, .string x167, .string x168, .string x169, .int .i64 x170, .int .i64 x171, .int .i64 x172, .int .i64 x173, .int .i64 x174, .int .i64 x175, .int .i64 x176, .slice p161 x177.length k162] 32, .box b5170 [.string x5159.Source.Network, .string x5159.Source.Station, .string x5159.Source.Location, .string x5159.Source.Channel, .int .i64 x5159.Start, .int .i64 x5159.First, .int .i64 x5159.Rate.Num, .int .i64 x5159.Rate.Den, .int .i64 x5159.Error, .int .i64 x5159.Run, .int .i64 x5159.Seq, .slice p5166 x5159.Samples.length k5168] 32, .row (some ⟨b188, 0, none⟩) l190.length l190.length c191 32 12, .row (some ⟨b6678, 0, none⟩) l6680.length l6680.length c6681 32 12] []) (by kernel_rfl) rfl (hw.drew.cs [0, 1, 2, 3, 4, 5, 6, 7] [] rfl rfl) fun hC => ?_
                  have hw := hw.drew
                  refine h_g hs 0 rfl (by kernel_rfl) rfl rfl hC rfl (fun w hC => y_loadBA (hC.ownAt 5 rfl) rfl Try.isAgg32 Try.sizeOf32 rfl rfl) fun a hs => ?_
                  refine h_g hs 1 rfl (by kernel_rfl) rfl rfl hC rfl (fun w hC => y_loadBA (hC.ownAt 0 rfl) rfl Try.isAgg32 Try.sizeOf32 rfl rfl) fun a hs => ?_
                  refine h_g hs 3 rfl (by kernel_rfl) rfl rfl hC rfl (fun w hC => y_loadBA (hC.ownAt 5 rfl) rfl Try.isAgg32 Try.sizeOf32 rfl rfl) fun a hs => ?_
                  refine h_g hs 4 rfl (by kernel_rfl) rfl rfl hC rfl (fun w hC => y_loadBA (hC.ownAt 0 rfl) rfl Try.isAgg32 Try.sizeOf32 rfl rfl) fun a hs => ?_
                  refine h_one (i := 2) (by kernel_rfl) rfl ?_
                  refine st_callR hs (record_Compare_ok h6961 hw.bdom (hw.bE 5 rfl) (hw.bE 0 rfl)) (do_call Try.call23 rfl) trivial rfl rfl ?_
                  intro v7032 Sv7029 w a h7030 h7031 hs
                  subst h7031
                  have hw := hw.callB h7030
                  refine h_nx (hw.cs [0, 1, 2, 3, 4, 5, 6, 7] [] rfl rfl) fun hC => ?_
                  refine h_one (i := 5) (by kernel_rfl) rfl ?_
                  refine st_callR hs (ref14_Compare_ok h6963 hw.bdom (hw.bE 5 rfl) (hw.bE 0 rfl)) (do_call Try.call32 rfl) trivial rfl rfl ?_
                  intro v7037 Sv7034 w a h7035 h7036 hs
                  subst h7036
                  have hw := hw.callB h7035
                  refine h_nx (hw.cs [0, 1, 2, 3, 4, 5, 6, 7] [] rfl rfl) fun hC => ?_
                  refine h_g hs 6 rfl (by kernel_rfl) rfl rfl hC rfl (fun w hC => y_neq rfl rfl) fun a hs => ?_
                  refine h_g hs 7 rfl (by kernel_rfl) rfl rfl hC rfl (fun w hC => y_move rfl) fun a hs => ?_
                  have hs := hs.fix 306 (.bool true) rfl (vb h6981)
                  refine h_s hs 8 rfl (by kernel_rfl) rfl rfl rfl (.inl rfl) rfl rfl hC fun a hs => ?_
                  refine h_s hs 9 rfl (by kernel_rfl) rfl rfl rfl (.inl rfl) rfl rfl hC fun a hs => ?_
                  refine h_s hs 10 rfl (by kernel_rfl) rfl rfl rfl (.inl rfl) rfl rfl hC fun a hs => ?_
                  refine h_s hs 11 rfl (by kernel_rfl) rfl rfl rfl (.inl rfl) rfl rfl hC fun a hs => ?_
                  refine h_s hs 12 rfl (by kernel_rfl) rfl rfl rfl (.inl rfl) rfl rfl hC fun a hs => ?_
                  refine h_s hs 13 rfl (by kernel_rfl) rfl rfl rfl (.inl rfl) rfl rfl hC fun a hs => ?_
                  refine h_s hs 14 rfl (by kernel_rfl) rfl rfl rfl (.inl rfl) rfl rfl hC fun a hs => ?_
                  refine h_g hs 15 rfl (by kernel_rfl) rfl rfl hC rfl (fun w hC => y_pickTE (v := .bool c6969) rfl rfl (vbs h6982)) fun a hs => ?_
                  refine h_g hs 16 rfl (by kernel_rfl) rfl rfl hC rfl (fun w hC => y_move rfl) fun a hs => ?_
                  have hs := hs.fix 315 (.bool false) rfl (vb h6983)
                  refine h_t hs 17 rfl (by kernel_rfl) ⟨_, rfl, rfl⟩ rfl rfl hC (fun w hC => y_loadBA (hC.ownAt 5 rfl) rfl Try.isAgg32 Try.sizeOf32 rfl rfl) fun a hs => ?_
                  refine h_t hs 18 rfl (by kernel_rfl) ⟨_, rfl, rfl⟩ rfl rfl hC (fun w hC => y_loadBA (hC.ownAt 0 rfl) rfl Try.isAgg32 Try.sizeOf32 rfl rfl) fun a hs => ?_
                  refine h_t hs 20 rfl (by kernel_rfl) ⟨_, rfl, rfl⟩ rfl rfl hC (fun w hC => y_loadBA (hC.ownAt 5 rfl) rfl Try.isAgg32 Try.sizeOf32 rfl rfl) fun a hs => ?_
                  refine h_t hs 21 rfl (by kernel_rfl) ⟨_, rfl, rfl⟩ rfl rfl hC (fun w hC => y_loadBA (hC.ownAt 0 rfl) rfl Try.isAgg32 Try.sizeOf32 rfl rfl) fun a hs => ?_
                  refine h_one (i := 19) (by kernel_rfl) rfl ?_
                  refine st_callR hs (record_Same_ok h7023 hw.bdom (hw.bE 5 rfl) (hw.bE 0 rfl)) (do_call Try.call17 rfl) ⟨_, rfl, rfl⟩ rfl rfl ?_
                  intro v7042 Sv7039 w a h7040 h7041 hs
                  subst h7041
                  have hw := hw.callB h7040
                  refine h_nx (hw.cs [0, 1, 2, 3, 4, 5, 6, 7] [] rfl rfl) fun hC => ?_
                  refine h_one (i := 22) (by kernel_rfl) rfl ?_
                  refine st_callR hs (ref14_Same_ok h7025 hw.bdom (hw.bE 5 rfl) (hw.bE 0 rfl)) (do_call Try.call29 rfl) ⟨_, rfl, rfl⟩ rfl rfl ?_
                  intro v7047 Sv7044 w a h7045 h7046 hs
                  subst h7046
                  have hw := hw.callB h7045
                  refine h_nx (hw.cs [0, 1, 2, 3, 4, 5, 6, 7] [] rfl rfl) fun hC => ?_
                  refine h_t hs 23 rfl (by kernel_rfl) ⟨_, rfl, rfl⟩ rfl rfl hC (fun w hC => y_neqB Try.runUnderlying4 rfl rfl) fun a hs => ?_
                  refine h_g hs 24 rfl (by kernel_rfl) rfl rfl hC rfl (fun w hC => y_pickFE (v := .bool c6974) rfl rfl (vbs h7022)) fun a hs => ?_
                  refine h_g hs 25 rfl (by kernel_rfl) rfl rfl hC rfl (fun w hC => y_move rfl) fun a hs => ?_
                  have hs := hs.fix 324 (.bool true) rfl (vb h7027)
                  refine h_s hs 26 rfl (by kernel_rfl) rfl rfl rfl (.inl rfl) rfl rfl hC fun a hs => ?_
                  refine h_s hs 27 rfl (by kernel_rfl) rfl rfl rfl (.inl rfl) rfl rfl hC fun a hs => ?_
                  refine h_s hs 28 rfl (by kernel_rfl) rfl rfl rfl (.inl rfl) rfl rfl hC fun a hs => ?_
                  refine h_s hs 29 rfl (by kernel_rfl) rfl rfl rfl (.inl rfl) rfl rfl hC fun a hs => ?_
                  refine h_s hs 30 rfl (by kernel_rfl) rfl rfl rfl (.inl rfl) rfl rfl hC fun a hs => ?_
                  refine h_s hs 31 rfl (by kernel_rfl) rfl rfl rfl (.inl rfl) rfl rfl hC fun a hs => ?_
                  refine h_s hs 32 rfl (by kernel_rfl) rfl rfl rfl (.inl rfl) rfl rfl hC fun a hs => ?_
                  refine h_s hs 33 rfl (by kernel_rfl) rfl rfl rfl (.inl rfl) rfl rfl hC fun a hs => ?_
                  refine h_s hs 34 rfl (by kernel_rfl) rfl rfl rfl (.inl rfl) rfl rfl hC fun a hs => ?_
                  refine h_g hs 35 rfl (by kernel_rfl) rfl rfl hC rfl (fun w hC => y_pickTE (v := .bool c6979) rfl rfl (vbs h7028)) fun a hs => ?_
                  refine h_done (by kernel_rfl) ?_
                  exact ⟨Sv6869, (hs.wk rfl), (hw.ft [1, 2, 3, 4, 5, 6, 7] [1, 2, 3, 4, 5, 6, 7] (by decide) rfl rfl)⟩
                 ·have h7049 := ite_f hc6979 h7027
                  obtain ⟨rv7051, h7050, h7049⟩ := bind_t h7049
                  obtain ⟨rv7053, h7052, h7049⟩ := bind_t h7049
                  refine h_b (C := Cls [.box b6960 [.string x6949.Source.Network, .string x6949.Source.Station, .string x6949.Source.Location, .string x6949.Source.Channel, .int .i64 x6949.Start, .int .i64 x6949.First, .int .i64 x6949.Rate.Num, .int .i64 x6949.Rate.Den, .int .i64 x6949.Error, .int .i64 x6949.Run, .int .i64 x6949.Seq, .slice p6956 x6949.Samples.length k6958] 32, .box b12 [.string raw5.Source.Network, .string raw5.Source.Station, .string raw5.Source.Location, .string raw5.Source.Channel, .int .i64 raw5.Start, .int .i64 raw5.First, .int .i64 raw5.Rate.Num, .int .i64 raw5.Rate.Den, .int .i64 raw5.Error, .int .i64 raw5.Run, .int .i64 raw5.Seq, .slice p6 raw5.Samples.length k7] 32, .box b39 [.slice p5846 rv5845.2.L.length k5847, .int .i64 rv5845.2.At] 60, .box b77 [.string rv60.1.Source.Network, .string rv60.1.Source.Station, .string rv60.1.Source.Location, .string rv60.1.Source.Channel, .int .i64 rv60.1.Start, .int .i64 rv60.1.First, .int .i64 rv60.1.Rate.Num, .int .i64 rv60.1.Rate.Den, .int .i64 rv60.1.Error, .int .i64 rv60.1.Run, .int .i64 rv60.1.Seq, .slice p61 rv60.1.Samples.length k62] 32, .box b78 [.string x166, .string x167, .string x168, .string x169, .int .i64 x170, .int .i64 x171, .int .i64 x172, .int .i64 x173, .int .i64 x174, .int .i64 x175, .int .i64 x176, .slice p161 x177.length k162] 32, .box b5170 [.string x5159.Source.Network, .string x5159.Source.Station, .string x5159.Source.Location, .string x5159.Source.Channel, .int .i64 x5159.Start, .int .i64 x5159.First, .int .i64 x5159.Rate.Num, .int .i64 x5159.Rate.Den, .int .i64 x5159.Error, .int .i64 x5159.Run, .int .i64 x5159.Seq, .slice p5166 x5159.Samples.length k5168] 32, .row (some ⟨b188, 0, none⟩) l190.length l190.length c191 32 12, .row (some ⟨b6678, 0, none⟩) l6680.length l6680.length c6681 32 12] []) (by kernel_rfl) rfl (hw.drew.cs [0, 1, 2, 3, 4, 5, 6, 7] [] rfl rfl) fun hC => ?_
                  have hw := hw.drew
                  refine h_g hs 0 rfl (by kernel_rfl) rfl rfl hC rfl (fun w hC => y_loadBA (hC.ownAt 5 rfl) rfl Try.isAgg32 Try.sizeOf32 rfl rfl) fun a hs => ?_
                  refine h_g hs 1 rfl (by kernel_rfl) rfl rfl hC rfl (fun w hC => y_loadBA (hC.ownAt 0 rfl) rfl Try.isAgg32 Try.sizeOf32 rfl rfl) fun a hs => ?_
                  refine h_g hs 3 rfl (by kernel_rfl) rfl rfl hC rfl (fun w hC => y_loadBA (hC.ownAt 5 rfl) rfl Try.isAgg32 Try.sizeOf32 rfl rfl) fun a hs => ?_
                  refine h_g hs 4 rfl (by kernel_rfl) rfl rfl hC rfl (fun w hC => y_loadBA (hC.ownAt 0 rfl) rfl Try.isAgg32 Try.sizeOf32 rfl rfl) fun a hs => ?_
                  refine h_one (i := 2) (by kernel_rfl) rfl ?_
                  refine st_callR hs (record_Compare_ok h6961 hw.bdom (hw.bE 5 rfl) (hw.bE 0 rfl)) (do_call Try.call23 rfl) trivial rfl rfl ?_
                  intro v7057 Sv7054 w a h7055 h7056 hs
                  subst h7056
                  have hw := hw.callB h7055
                  refine h_nx (hw.cs [0, 1, 2, 3, 4, 5, 6, 7] [] rfl rfl) fun hC => ?_
                  refine h_one (i := 5) (by kernel_rfl) rfl ?_
                  refine st_callR hs (ref14_Compare_ok h6963 hw.bdom (hw.bE 5 rfl) (hw.bE 0 rfl)) (do_call Try.call32 rfl) trivial rfl rfl ?_
                  intro v7062 Sv7059 w a h7060 h7061 hs
                  subst h7061
                  have hw := hw.callB h7060
                  refine h_nx (hw.cs [0, 1, 2, 3, 4, 5, 6, 7] [] rfl rfl) fun hC => ?_
                  refine h_g hs 6 rfl (by kernel_rfl) rfl rfl hC rfl (fun w hC => y_neq rfl rfl) fun a hs => ?_
                  refine h_g hs 7 rfl (by kernel_rfl) rfl rfl hC rfl (fun w hC => y_move rfl) fun a hs => ?_
                  have hs := hs.fix 306 (.bool true) rfl (vb h6981)
                  refine h_s hs 8 rfl (by kernel_rfl) rfl rfl rfl (.inl rfl) rfl rfl hC fun a hs => ?_
                  refine h_s hs 9 rfl (by kernel_rfl) rfl rfl rfl (.inl rfl) rfl rfl hC fun a hs => ?_
                  refine h_s hs 10 rfl (by kernel_rfl) rfl rfl rfl (.inl rfl) rfl rfl hC fun a hs => ?_
                  refine h_s hs 11 rfl (by kernel_rfl) rfl rfl rfl (.inl rfl) rfl rfl hC fun a hs => ?_
                  refine h_s hs 12 rfl (by kernel_rfl) rfl rfl rfl (.inl rfl) rfl rfl hC fun a hs => ?_
                  refine h_s hs 13 rfl (by kernel_rfl) rfl rfl rfl (.inl rfl) rfl rfl hC fun a hs => ?_
                  refine h_s hs 14 rfl (by kernel_rfl) rfl rfl rfl (.inl rfl) rfl rfl hC fun a hs => ?_
                  refine h_g hs 15 rfl (by kernel_rfl) rfl rfl hC rfl (fun w hC => y_pickTE (v := .bool c6969) rfl rfl (vbs h6982)) fun a hs => ?_
                  refine h_g hs 16 rfl (by kernel_rfl) rfl rfl hC rfl (fun w hC => y_move rfl) fun a hs => ?_
                  have hs := hs.fix 315 (.bool false) rfl (vb h6983)
                  refine h_t hs 17 rfl (by kernel_rfl) ⟨_, rfl, rfl⟩ rfl rfl hC (fun w hC => y_loadBA (hC.ownAt 5 rfl) rfl Try.isAgg32 Try.sizeOf32 rfl rfl) fun a hs => ?_
                  refine h_t hs 18 rfl (by kernel_rfl) ⟨_, rfl, rfl⟩ rfl rfl hC (fun w hC => y_loadBA (hC.ownAt 0 rfl) rfl Try.isAgg32 Try.sizeOf32 rfl rfl) fun a hs => ?_
                  refine h_t hs 20 rfl (by kernel_rfl) ⟨_, rfl, rfl⟩ rfl rfl hC (fun w hC => y_loadBA (hC.ownAt 5 rfl) rfl Try.isAgg32 Try.sizeOf32 rfl rfl) fun a hs => ?_
                  refine h_t hs 21 rfl (by kernel_rfl) ⟨_, rfl, rfl⟩ rfl rfl hC (fun w hC => y_loadBA (hC.ownAt 0 rfl) rfl Try.isAgg32 Try.sizeOf32 rfl rfl) fun a hs => ?_
                  refine h_one (i := 19) (by kernel_rfl) rfl ?_
                  refine st_callR hs (record_Same_ok h7023 hw.bdom (hw.bE 5 rfl) (hw.bE 0 rfl)) (do_call Try.call17 rfl) ⟨_, rfl, rfl⟩ rfl rfl ?_
                  intro v7067 Sv7064 w a h7065 h7066 hs
                  subst h7066
                  have hw := hw.callB h7065
                  refine h_nx (hw.cs [0, 1, 2, 3, 4, 5, 6, 7] [] rfl rfl) fun hC => ?_
                  refine h_one (i := 22) (by kernel_rfl) rfl ?_
                  refine st_callR hs (ref14_Same_ok h7025 hw.bdom (hw.bE 5 rfl) (hw.bE 0 rfl)) (do_call Try.call29 rfl) ⟨_, rfl, rfl⟩ rfl rfl ?_
                  intro v7072 Sv7069 w a h7070 h7071 hs
                  subst h7071
                  have hw := hw.callB h7070
                  refine h_nx (hw.cs [0, 1, 2, 3, 4, 5, 6, 7] [] rfl rfl) fun hC => ?_
                  refine h_t hs 23 rfl (by kernel_rfl) ⟨_, rfl, rfl⟩ rfl rfl hC (fun w hC => y_neqB Try.runUnderlying4 rfl rfl) fun a hs => ?_
                  refine h_g hs 24 rfl (by kernel_rfl) rfl rfl hC rfl (fun w hC => y_pickFE (v := .bool c6974) rfl rfl (vbs h7022)) fun a hs => ?_
                  refine h_g hs 25 rfl (by kernel_rfl) rfl rfl hC rfl (fun w hC => y_move rfl) fun a hs => ?_
                  have hs := hs.fix 324 (.bool false) rfl (vb h7027)
                  refine h_t hs 26 rfl (by kernel_rfl) ⟨_, rfl, rfl⟩ rfl rfl hC (fun w hC => y_loadBA (hC.ownAt 5 rfl) rfl Try.isAgg32 Try.sizeOf32 rfl rfl) fun a hs => ?_
                  refine h_t hs 27 rfl (by kernel_rfl) ⟨_, rfl, rfl⟩ rfl rfl hC (fun w hC => y_loadBA (hC.ownAt 0 rfl) rfl Try.isAgg32 Try.sizeOf32 rfl rfl) fun a hs => ?_
                  refine h_t hs 28 rfl (by kernel_rfl) ⟨_, rfl, rfl⟩ rfl rfl hC (fun w hC => y_move rfl) fun a hs => ?_
                  refine h_t hs 30 rfl (by kernel_rfl) ⟨_, rfl, rfl⟩ rfl rfl hC (fun w hC => y_loadBA (hC.ownAt 5 rfl) rfl Try.isAgg32 Try.sizeOf32 rfl rfl) fun a hs => ?_
                  refine h_t hs 31 rfl (by kernel_rfl) ⟨_, rfl, rfl⟩ rfl rfl hC (fun w hC => y_loadBA (hC.ownAt 0 rfl) rfl Try.isAgg32 Try.sizeOf32 rfl rfl) fun a hs => ?_
                  refine h_t hs 32 rfl (by kernel_rfl) ⟨_, rfl, rfl⟩ rfl rfl hC (fun w hC => y_move rfl) fun a hs => ?_
                  refine h_one (i := 29) (by kernel_rfl) rfl ?_
                  refine st_callR hs (record_Follows_ok h7050 hw.bdom (hw.bE 5 rfl) (hw.bE 0 rfl)) (do_call Try.call14 rfl) ⟨_, rfl, rfl⟩ rfl rfl ?_
                  intro v7077 Sv7074 w a h7075 h7076 hs
                  subst h7076
                  have hw := hw.callB h7075
                  refine h_nx (hw.cs [0, 1, 2, 3, 4, 5, 6, 7] [] rfl rfl) fun hC => ?_
                  refine h_one (i := 33) (by kernel_rfl) rfl ?_
                  refine st_callR hs (ref14_Follows_ok h7052 hw.bdom (hw.bE 5 rfl) (hw.bE 0 rfl)) (do_call Try.call34 rfl) ⟨_, rfl, rfl⟩ rfl rfl ?_
                  intro v7082 Sv7079 w a h7080 h7081 hs
                  subst h7081
                  have hw := hw.callB h7080
                  refine h_nx (hw.cs [0, 1, 2, 3, 4, 5, 6, 7] [] rfl rfl) fun hC => ?_
                  refine h_t hs 34 rfl (by kernel_rfl) ⟨_, rfl, rfl⟩ rfl rfl hC (fun w hC => y_neqB Try.runUnderlying4 rfl rfl) fun a hs => ?_
                  refine h_g hs 35 rfl (by kernel_rfl) rfl rfl hC rfl (fun w hC => y_pickFE (v := .bool c6979) rfl rfl (vbs h7049)) fun a hs => ?_
                  refine h_done (by kernel_rfl) ?_
                  exact ⟨Sv6869, (hs.wk rfl), (hw.ft [1, 2, 3, 4, 5, 6, 7] [1, 2, 3, 4, 5, 6, 7] (by decide) rfl rfl)⟩
               ·have h7084 := ite_f hc6969 h6981
                obtain ⟨rv7086, h7085, h7084⟩ := bind_t h7084
                obtain ⟨rv7088, h7087, h7084⟩ := bind_t h7084
                rcases Bool.eq_false_or_eq_true c6969 with h7089 | h7089
                ·have h7090 := ite_t hc6974 h7089
                 rcases Bool.eq_false_or_eq_true c6974 with h7091 | h7091
                 ·have h7092 := ite_t hc6979 h7091
                  refine h_b (C := Cls [.box b6960 [.string x6949.Source.Network, .string x6949.Source.Station, .string x6949.Source.Location, .string x6949.Source.Channel, .int .i64 x6949.Start, .int .i64 x6949.First, .int .i64 x6949.Rate.Num, .int .i64 x6949.Rate.Den, .int .i64 x6949.Error, .int .i64 x6949.Run, .int .i64 x6949.Seq, .slice p6956 x6949.Samples.length k6958] 32, .box b12 [.string raw5.Source.Network, .string raw5.Source.Station, .string raw5.Source.Location, .string raw5.Source.Channel, .int .i64 raw5.Start, .int .i64 raw5.First, .int .i64 raw5.Rate.Num, .int .i64 raw5.Rate.Den, .int .i64 raw5.Error, .int .i64 raw5.Run, .int .i64 raw5.Seq, .slice p6 raw5.Samples.length k7] 32, .box b39 [.slice p5846 rv5845.2.L.length k5847, .int .i64 rv5845.2.At] 60, .box b77 [.string rv60.1.Source.Network, .string rv60.1.Source.Station, .string rv60.1.Source.Location, .string rv60.1.Source.Channel, .int .i64 rv60.1.Start, .int .i64 rv60.1.First, .int .i64 rv60.1.Rate.Num, .int .i64 rv60.1.Rate.Den, .int .i64 rv60.1.Error, .int .i64 rv60.1.Run, .int .i64 rv60.1.Seq, .slice p61 rv60.1.Samples.length k62] 32, .box b78 [.string x166, .string x167, .string x168, .string x169, .int .i64 x170, .int .i64 x171, .int .i64 x172, .int .i64 x173, .int .i64 x174, .int .i64 x175, .int .i64 x176, .slice p161 x177.length k162] 32, .box b5170 [.string x5159.Source.Network, .string x5159.Source.Station, .string x5159.Source.Location, .string x5159.Source.Channel, .int .i64 x5159.Start, .int .i64 x5159.First, .int .i64 x5159.Rate.Num, .int .i64 x5159.Rate.Den, .int .i64 x5159.Error, .int .i64 x5159.Run, .int .i64 x5159.Seq, .slice p5166 x5159.Samples.length k5168] 32, .row (some ⟨b188, 0, none⟩) l190.length l190.length c191 32 12, .row (some ⟨b6678, 0, none⟩) l6680.length l6680.length c6681 32 12] []) (by kernel_rfl) rfl (hw.drew.cs [0, 1, 2, 3, 4, 5, 6, 7] [] rfl rfl) fun hC => ?_
                  have hw := hw.drew
                  refine h_g hs 0 rfl (by kernel_rfl) rfl rfl hC rfl (fun w hC => y_loadBA (hC.ownAt 5 rfl) rfl Try.isAgg32 Try.sizeOf32 rfl rfl) fun a hs => ?_
                  refine h_g hs 1 rfl (by kernel_rfl) rfl rfl hC rfl (fun w hC => y_loadBA (hC.ownAt 0 rfl) rfl Try.isAgg32 Try.sizeOf32 rfl rfl) fun a hs => ?_
                  refine h_g hs 3 rfl (by kernel_rfl) rfl rfl hC rfl (fun w hC => y_loadBA (hC.ownAt 5 rfl) rfl Try.isAgg32 Try.sizeOf32 rfl rfl) fun a hs => ?_
                  refine h_g hs 4 rfl (by kernel_rfl) rfl rfl hC rfl (fun w hC => y_loadBA (hC.ownAt 0 rfl) rfl Try.isAgg32 Try.sizeOf32 rfl rfl) fun a hs => ?_
                  refine h_one (i := 2) (by kernel_rfl) rfl ?_
                  refine st_callR hs (record_Compare_ok h6961 hw.bdom (hw.bE 5 rfl) (hw.bE 0 rfl)) (do_call Try.call23 rfl) trivial rfl rfl ?_
                  intro v7096 Sv7093 w a h7094 h7095 hs
                  subst h7095
                  have hw := hw.callB h7094
                  refine h_nx (hw.cs [0, 1, 2, 3, 4, 5, 6, 7] [] rfl rfl) fun hC => ?_
                  refine h_one (i := 5) (by kernel_rfl) rfl ?_
                  refine st_callR hs (ref14_Compare_ok h6963 hw.bdom (hw.bE 5 rfl) (hw.bE 0 rfl)) (do_call Try.call32 rfl) trivial rfl rfl ?_
                  intro v7101 Sv7098 w a h7099 h7100 hs
                  subst h7100
                  have hw := hw.callB h7099
                  refine h_nx (hw.cs [0, 1, 2, 3, 4, 5, 6, 7] [] rfl rfl) fun hC => ?_
                  refine h_g hs 6 rfl (by kernel_rfl) rfl rfl hC rfl (fun w hC => y_neq rfl rfl) fun a hs => ?_
                  refine h_g hs 7 rfl (by kernel_rfl) rfl rfl hC rfl (fun w hC => y_move rfl) fun a hs => ?_
                  have hs := hs.fix 306 (.bool false) rfl (vb h6981)
                  refine h_t hs 8 rfl (by kernel_rfl) ⟨_, rfl, rfl⟩ rfl rfl hC (fun w hC => y_loadBA (hC.ownAt 5 rfl) rfl Try.isAgg32 Try.sizeOf32 rfl rfl) fun a hs => ?_
                  refine h_t hs 9 rfl (by kernel_rfl) ⟨_, rfl, rfl⟩ rfl rfl hC (fun w hC => y_loadBA (hC.ownAt 0 rfl) rfl Try.isAgg32 Try.sizeOf32 rfl rfl) fun a hs => ?_
                  refine h_t hs 11 rfl (by kernel_rfl) ⟨_, rfl, rfl⟩ rfl rfl hC (fun w hC => y_loadBA (hC.ownAt 5 rfl) rfl Try.isAgg32 Try.sizeOf32 rfl rfl) fun a hs => ?_
                  refine h_t hs 12 rfl (by kernel_rfl) ⟨_, rfl, rfl⟩ rfl rfl hC (fun w hC => y_loadBA (hC.ownAt 0 rfl) rfl Try.isAgg32 Try.sizeOf32 rfl rfl) fun a hs => ?_
                  refine h_one (i := 10) (by kernel_rfl) rfl ?_
                  refine st_callR hs (record_Better_ok h7085 hw.bdom (hw.bE 5 rfl) (hw.bE 0 rfl)) (do_call Try.call24 rfl) ⟨_, rfl, rfl⟩ rfl rfl ?_
                  intro v7106 Sv7103 w a h7104 h7105 hs
                  subst h7105
                  have hw := hw.callB h7104
                  refine h_nx (hw.cs [0, 1, 2, 3, 4, 5, 6, 7] [] rfl rfl) fun hC => ?_
                  refine h_one (i := 13) (by kernel_rfl) rfl ?_
                  refine st_callR hs (ref14_Better_ok h7087 hw.bdom (hw.bE 5 rfl) (hw.bE 0 rfl)) (do_call Try.call33 rfl) ⟨_, rfl, rfl⟩ rfl rfl ?_
                  intro v7111 Sv7108 w a h7109 h7110 hs
                  subst h7110
                  have hw := hw.callB h7109
                  refine h_nx (hw.cs [0, 1, 2, 3, 4, 5, 6, 7] [] rfl rfl) fun hC => ?_
                  refine h_t hs 14 rfl (by kernel_rfl) ⟨_, rfl, rfl⟩ rfl rfl hC (fun w hC => y_neqB Try.runUnderlying4 rfl rfl) fun a hs => ?_
                  refine h_g hs 15 rfl (by kernel_rfl) rfl rfl hC rfl (fun w hC => y_pickFE (v := .bool c6969) rfl rfl (vbs h7084)) fun a hs => ?_
                  refine h_g hs 16 rfl (by kernel_rfl) rfl rfl hC rfl (fun w hC => y_move rfl) fun a hs => ?_
                  have hs := hs.fix 315 (.bool true) rfl (vb h7089)
                  refine h_s hs 17 rfl (by kernel_rfl) rfl rfl rfl (.inl rfl) rfl rfl hC fun a hs => ?_
                  refine h_s hs 18 rfl (by kernel_rfl) rfl rfl rfl (.inl rfl) rfl rfl hC fun a hs => ?_
                  refine h_s hs 19 rfl (by kernel_rfl) rfl rfl rfl (.inl rfl) rfl rfl hC fun a hs => ?_
                  refine h_s hs 20 rfl (by kernel_rfl) rfl rfl rfl (.inl rfl) rfl rfl hC fun a hs => ?_
                  refine h_s hs 21 rfl (by kernel_rfl) rfl rfl rfl (.inl rfl) rfl rfl hC fun a hs => ?_
                  refine h_s hs 22 rfl (by kernel_rfl) rfl rfl rfl (.inl rfl) rfl rfl hC fun a hs => ?_
                  refine h_s hs 23 rfl (by kernel_rfl) rfl rfl rfl (.inl rfl) rfl rfl hC fun a hs => ?_
                  refine h_g hs 24 rfl (by kernel_rfl) rfl rfl hC rfl (fun w hC => y_pickTE (v := .bool c6974) rfl rfl (vbs h7090)) fun a hs => ?_
                  refine h_g hs 25 rfl (by kernel_rfl) rfl rfl hC rfl (fun w hC => y_move rfl) fun a hs => ?_
                  have hs := hs.fix 324 (.bool true) rfl (vb h7091)
                  refine h_s hs 26 rfl (by kernel_rfl) rfl rfl rfl (.inl rfl) rfl rfl hC fun a hs => ?_
                  refine h_s hs 27 rfl (by kernel_rfl) rfl rfl rfl (.inl rfl) rfl rfl hC fun a hs => ?_
                  refine h_s hs 28 rfl (by kernel_rfl) rfl rfl rfl (.inl rfl) rfl rfl hC fun a hs => ?_
                  refine h_s hs 29 rfl (by kernel_rfl) rfl rfl rfl (.inl rfl) rfl rfl hC fun a hs => ?_
                  refine h_s hs 30 rfl (by kernel_rfl) rfl rfl rfl (.inl rfl) rfl rfl hC fun a hs => ?_
                  refine h_s hs 31 rfl (by kernel_rfl) rfl rfl rfl (.inl rfl) rfl rfl hC fun a hs => ?_
                  refine h_s hs 32 rfl (by kernel_rfl) rfl rfl rfl (.inl rfl) rfl rfl hC fun a hs => ?_
                  refine h_s hs 33 rfl (by kernel_rfl) rfl rfl rfl (.inl rfl) rfl rfl hC fun a hs => ?_
                  refine h_s hs 34 rfl (by kernel_rfl) rfl rfl rfl (.inl rfl) rfl rfl hC fun a hs => ?_
                  refine h_g hs 35 rfl (by kernel_rfl) rfl rfl hC rfl (fun w hC => y_pickTE (v := .bool c6979) rfl rfl (vbs h7092)) fun a hs => ?_
                  refine h_done (by kernel_rfl) ?_
                  exact ⟨Sv6869, (hs.wk rfl), (hw.ft [1, 2, 3, 4, 5, 6, 7] [1, 2, 3, 4, 5, 6, 7] (by decide) rfl rfl)⟩
                 ·have h7113 := ite_f hc6979 h7091
                  obtain ⟨rv7115, h7114, h7113⟩ := bind_t h7113
                  obtain ⟨rv7117, h7116, h7113⟩ := bind_t h7113
                  refine h_b (C := Cls [.box b6960 [.string x6949.Source.Network, .string x6949.Source.Station, .string x6949.Source.Location, .string x6949.Source.Channel, .int .i64 x6949.Start, .int .i64 x6949.First, .int .i64 x6949.Rate.Num, .int .i64 x6949.Rate.Den, .int .i64 x6949.Error, .int .i64 x6949.Run, .int .i64 x6949.Seq, .slice p6956 x6949.Samples.length k6958] 32, .box b12 [.string raw5.Source.Network, .string raw5.Source.Station, .string raw5.Source.Location, .string raw5.Source.Channel, .int .i64 raw5.Start, .int .i64 raw5.First, .int .i64 raw5.Rate.Num, .int .i64 raw5.Rate.Den, .int .i64 raw5.Error, .int .i64 raw5.Run, .int .i64 raw5.Seq, .slice p6 raw5.Samples.length k7] 32, .box b39 [.slice p5846 rv5845.2.L.length k5847, .int .i64 rv5845.2.At] 60, .box b77 [.string rv60.1.Source.Network, .string rv60.1.Source.Station, .string rv60.1.Source.Location, .string rv60.1.Source.Channel, .int .i64 rv60.1.Start, .int .i64 rv60.1.First, .int .i64 rv60.1.Rate.Num, .int .i64 rv60.1.Rate.Den, .int .i64 rv60.1.Error, .int .i64 rv60.1.Run, .int .i64 rv60.1.Seq, .slice p61 rv60.1.Samples.length k62] 32, .box b78 [.string x166, .string x167, .string x168, .string x169, .int .i64 x170, .int .i64 x171, .int .i64 x172, .int .i64 x173, .int .i64 x174, .int .i64 x175, .int .i64 x176, .slice p161 x177.length k162] 32, .box b5170 [.string x5159.Source.Network, .string x5159.Source.Station, .string x5159.Source.Location, .string x5159.Source.Channel, .int .i64 x5159.Start, .int .i64 x5159.First, .int .i64 x5159.Rate.Num, .int .i64 x5159.Rate.Den, .int .i64 x5159.Error, .int .i64 x5159.Run, .int .i64 x5159.Seq, .slice p5166 x5159.Samples.length k5168] 32, .row (some ⟨b188, 0, none⟩) l190.length l190.length c191 32 12, .row (some ⟨b6678, 0, none⟩) l6680.length l6680.length c6681 32 12] []) (by kernel_rfl) rfl (hw.drew.cs [0, 1, 2, 3, 4, 5, 6, 7] [] rfl rfl) fun hC => ?_
                  have hw := hw.drew
                  refine h_g hs 0 rfl (by kernel_rfl) rfl rfl hC rfl (fun w hC => y_loadBA (hC.ownAt 5 rfl) rfl Try.isAgg32 Try.sizeOf32 rfl rfl) fun a hs => ?_
                  refine h_g hs 1 rfl (by kernel_rfl) rfl rfl hC rfl (fun w hC => y_loadBA (hC.ownAt 0 rfl) rfl Try.isAgg32 Try.sizeOf32 rfl rfl) fun a hs => ?_
                  refine h_g hs 3 rfl (by kernel_rfl) rfl rfl hC rfl (fun w hC => y_loadBA (hC.ownAt 5 rfl) rfl Try.isAgg32 Try.sizeOf32 rfl rfl) fun a hs => ?_
                  refine h_g hs 4 rfl (by kernel_rfl) rfl rfl hC rfl (fun w hC => y_loadBA (hC.ownAt 0 rfl) rfl Try.isAgg32 Try.sizeOf32 rfl rfl) fun a hs => ?_
                  refine h_one (i := 2) (by kernel_rfl) rfl ?_
                  refine st_callR hs (record_Compare_ok h6961 hw.bdom (hw.bE 5 rfl) (hw.bE 0 rfl)) (do_call Try.call23 rfl) trivial rfl rfl ?_
                  intro v7121 Sv7118 w a h7119 h7120 hs
                  subst h7120
                  have hw := hw.callB h7119
                  refine h_nx (hw.cs [0, 1, 2, 3, 4, 5, 6, 7] [] rfl rfl) fun hC => ?_
                  refine h_one (i := 5) (by kernel_rfl) rfl ?_
                  refine st_callR hs (ref14_Compare_ok h6963 hw.bdom (hw.bE 5 rfl) (hw.bE 0 rfl)) (do_call Try.call32 rfl) trivial rfl rfl ?_
                  intro v7126 Sv7123 w a h7124 h7125 hs
                  subst h7125
                  have hw := hw.callB h7124
                  refine h_nx (hw.cs [0, 1, 2, 3, 4, 5, 6, 7] [] rfl rfl) fun hC => ?_
                  refine h_g hs 6 rfl (by kernel_rfl) rfl rfl hC rfl (fun w hC => y_neq rfl rfl) fun a hs => ?_
                  refine h_g hs 7 rfl (by kernel_rfl) rfl rfl hC rfl (fun w hC => y_move rfl) fun a hs => ?_
                  have hs := hs.fix 306 (.bool false) rfl (vb h6981)
                  refine h_t hs 8 rfl (by kernel_rfl) ⟨_, rfl, rfl⟩ rfl rfl hC (fun w hC => y_loadBA (hC.ownAt 5 rfl) rfl Try.isAgg32 Try.sizeOf32 rfl rfl) fun a hs => ?_
                  refine h_t hs 9 rfl (by kernel_rfl) ⟨_, rfl, rfl⟩ rfl rfl hC (fun w hC => y_loadBA (hC.ownAt 0 rfl) rfl Try.isAgg32 Try.sizeOf32 rfl rfl) fun a hs => ?_
                  refine h_t hs 11 rfl (by kernel_rfl) ⟨_, rfl, rfl⟩ rfl rfl hC (fun w hC => y_loadBA (hC.ownAt 5 rfl) rfl Try.isAgg32 Try.sizeOf32 rfl rfl) fun a hs => ?_
                  refine h_t hs 12 rfl (by kernel_rfl) ⟨_, rfl, rfl⟩ rfl rfl hC (fun w hC => y_loadBA (hC.ownAt 0 rfl) rfl Try.isAgg32 Try.sizeOf32 rfl rfl) fun a hs => ?_
                  refine h_one (i := 10) (by kernel_rfl) rfl ?_
                  refine st_callR hs (record_Better_ok h7085 hw.bdom (hw.bE 5 rfl) (hw.bE 0 rfl)) (do_call Try.call24 rfl) ⟨_, rfl, rfl⟩ rfl rfl ?_
                  intro v7131 Sv7128 w a h7129 h7130 hs
                  subst h7130
                  have hw := hw.callB h7129
                  refine h_nx (hw.cs [0, 1, 2, 3, 4, 5, 6, 7] [] rfl rfl) fun hC => ?_
                  refine h_one (i := 13) (by kernel_rfl) rfl ?_
                  refine st_callR hs (ref14_Better_ok h7087 hw.bdom (hw.bE 5 rfl) (hw.bE 0 rfl)) (do_call Try.call33 rfl) ⟨_, rfl, rfl⟩ rfl rfl ?_
                  intro v7136 Sv7133 w a h7134 h7135 hs
                  subst h7135
                  have hw := hw.callB h7134
                  refine h_nx (hw.cs [0, 1, 2, 3, 4, 5, 6, 7] [] rfl rfl) fun hC => ?_
                  refine h_t hs 14 rfl (by kernel_rfl) ⟨_, rfl, rfl⟩ rfl rfl hC (fun w hC => y_neqB Try.runUnderlying4 rfl rfl) fun a hs => ?_
                  refine h_g hs 15 rfl (by kernel_rfl) rfl rfl hC rfl (fun w hC => y_pickFE (v := .bool c6969) rfl rfl (vbs h7084)) fun a hs => ?_
                  refine h_g hs 16 rfl (by kernel_rfl) rfl rfl hC rfl (fun w hC => y_move rfl) fun a hs => ?_
                  have hs := hs.fix 315 (.bool true) rfl (vb h7089)
                  refine h_s hs 17 rfl (by kernel_rfl) rfl rfl rfl (.inl rfl) rfl rfl hC fun a hs => ?_
                  refine h_s hs 18 rfl (by kernel_rfl) rfl rfl rfl (.inl rfl) rfl rfl hC fun a hs => ?_
                  refine h_s hs 19 rfl (by kernel_rfl) rfl rfl rfl (.inl rfl) rfl rfl hC fun a hs => ?_
                  refine h_s hs 20 rfl (by kernel_rfl) rfl rfl rfl (.inl rfl) rfl rfl hC fun a hs => ?_
                  refine h_s hs 21 rfl (by kernel_rfl) rfl rfl rfl (.inl rfl) rfl rfl hC fun a hs => ?_
                  refine h_s hs 22 rfl (by kernel_rfl) rfl rfl rfl (.inl rfl) rfl rfl hC fun a hs => ?_
                  refine h_s hs 23 rfl (by kernel_rfl) rfl rfl rfl (.inl rfl) rfl rfl hC fun a hs => ?_
                  refine h_g hs 24 rfl (by kernel_rfl) rfl rfl hC rfl (fun w hC => y_pickTE (v := .bool c6974) rfl rfl (vbs h7090)) fun a hs => ?_
                  refine h_g hs 25 rfl (by kernel_rfl) rfl rfl hC rfl (fun w hC => y_move rfl) fun a hs => ?_
                  have hs := hs.fix 324 (.bool false) rfl (vb h7091)
                  refine h_t hs 26 rfl (by kernel_rfl) ⟨_, rfl, rfl⟩ rfl rfl hC (fun w hC => y_loadBA (hC.ownAt 5 rfl) rfl Try.isAgg32 Try.sizeOf32 rfl rfl) fun a hs => ?_
                  refine h_t hs 27 rfl (by kernel_rfl) ⟨_, rfl, rfl⟩ rfl rfl hC (fun w hC => y_loadBA (hC.ownAt 0 rfl) rfl Try.isAgg32 Try.sizeOf32 rfl rfl) fun a hs => ?_
                  refine h_t hs 28 rfl (by kernel_rfl) ⟨_, rfl, rfl⟩ rfl rfl hC (fun w hC => y_move rfl) fun a hs => ?_
                  refine h_t hs 30 rfl (by kernel_rfl) ⟨_, rfl, rfl⟩ rfl rfl hC (fun w hC => y_loadBA (hC.ownAt 5 rfl) rfl Try.isAgg32 Try.sizeOf32 rfl rfl) fun a hs => ?_
                  refine h_t hs 31 rfl (by kernel_rfl) ⟨_, rfl, rfl⟩ rfl rfl hC (fun w hC => y_loadBA (hC.ownAt 0 rfl) rfl Try.isAgg32 Try.sizeOf32 rfl rfl) fun a hs => ?_
                  refine h_t hs 32 rfl (by kernel_rfl) ⟨_, rfl, rfl⟩ rfl rfl hC (fun w hC => y_move rfl) fun a hs => ?_
                  refine h_one (i := 29) (by kernel_rfl) rfl ?_
                  refine st_callR hs (record_Follows_ok h7114 hw.bdom (hw.bE 5 rfl) (hw.bE 0 rfl)) (do_call Try.call14 rfl) ⟨_, rfl, rfl⟩ rfl rfl ?_
                  intro v7141 Sv7138 w a h7139 h7140 hs
                  subst h7140
                  have hw := hw.callB h7139
                  refine h_nx (hw.cs [0, 1, 2, 3, 4, 5, 6, 7] [] rfl rfl) fun hC => ?_
                  refine h_one (i := 33) (by kernel_rfl) rfl ?_
                  refine st_callR hs (ref14_Follows_ok h7116 hw.bdom (hw.bE 5 rfl) (hw.bE 0 rfl)) (do_call Try.call34 rfl) ⟨_, rfl, rfl⟩ rfl rfl ?_
                  intro v7146 Sv7143 w a h7144 h7145 hs
                  subst h7145
                  have hw := hw.callB h7144
                  refine h_nx (hw.cs [0, 1, 2, 3, 4, 5, 6, 7] [] rfl rfl) fun hC => ?_
                  refine h_t hs 34 rfl (by kernel_rfl) ⟨_, rfl, rfl⟩ rfl rfl hC (fun w hC => y_neqB Try.runUnderlying4 rfl rfl) fun a hs => ?_
                  refine h_g hs 35 rfl (by kernel_rfl) rfl rfl hC rfl (fun w hC => y_pickFE (v := .bool c6979) rfl rfl (vbs h7113)) fun a hs => ?_
                  refine h_done (by kernel_rfl) ?_
                  exact ⟨Sv6869, (hs.wk rfl), (hw.ft [1, 2, 3, 4, 5, 6, 7] [1, 2, 3, 4, 5, 6, 7] (by decide) rfl rfl)⟩
                ·have h7148 := ite_f hc6974 h7089
                 obtain ⟨rv7150, h7149, h7148⟩ := bind_t h7148
                 obtain ⟨rv7152, h7151, h7148⟩ := bind_t h7148
                 rcases Bool.eq_false_or_eq_true c6974 with h7153 | h7153
                 ·have h7154 := ite_t hc6979 h7153
                  refine h_b (C := Cls [.box b6960 [.string x6949.Source.Network, .string x6949.Source.Station, .string x6949.Source.Location, .string x6949.Source.Channel, .int .i64 x6949.Start, .int .i64 x6949.First, .int .i64 x6949.Rate.Num, .int .i64 x6949.Rate.Den, .int .i64 x6949.Error, .int .i64 x6949.Run, .int .i64 x6949.Seq, .slice p6956 x6949.Samples.length k6958] 32, .box b12 [.string raw5.Source.Network, .string raw5.Source.Station, .string raw5.Source.Location, .string raw5.Source.Channel, .int .i64 raw5.Start, .int .i64 raw5.First, .int .i64 raw5.Rate.Num, .int .i64 raw5.Rate.Den, .int .i64 raw5.Error, .int .i64 raw5.Run, .int .i64 raw5.Seq, .slice p6 raw5.Samples.length k7] 32, .box b39 [.slice p5846 rv5845.2.L.length k5847, .int .i64 rv5845.2.At] 60, .box b77 [.string rv60.1.Source.Network, .string rv60.1.Source.Station, .string rv60.1.Source.Location, .string rv60.1.Source.Channel, .int .i64 rv60.1.Start, .int .i64 rv60.1.First, .int .i64 rv60.1.Rate.Num, .int .i64 rv60.1.Rate.Den, .int .i64 rv60.1.Error, .int .i64 rv60.1.Run, .int .i64 rv60.1.Seq, .slice p61 rv60.1.Samples.length k62] 32, .box b78 [.string x166, .string x167, .string x168, .string x169, .int .i64 x170, .int .i64 x171, .int .i64 x172, .int .i64 x173, .int .i64 x174, .int .i64 x175, .int .i64 x176, .slice p161 x177.length k162] 32, .box b5170 [.string x5159.Source.Network, .string x5159.Source.Station, .string x5159.Source.Location, .string x5159.Source.Channel, .int .i64 x5159.Start, .int .i64 x5159.First, .int .i64 x5159.Rate.Num, .int .i64 x5159.Rate.Den, .int .i64 x5159.Error, .int .i64 x5159.Run, .int .i64 x5159.Seq, .slice p5166 x5159.Samples.length k5168] 32, .row (some ⟨b188, 0, none⟩) l190.length l190.length c191 32 12, .row (some ⟨b6678, 0, none⟩) l6680.length l6680.length c6681 32 12] []) (by kernel_rfl) rfl (hw.drew.cs [0, 1, 2, 3, 4, 5, 6, 7] [] rfl rfl) fun hC => ?_
                  have hw := hw.drew
                  refine h_g hs 0 rfl (by kernel_rfl) rfl rfl hC rfl (fun w hC => y_loadBA (hC.ownAt 5 rfl) rfl Try.isAgg32 Try.sizeOf32 rfl rfl) fun a hs => ?_
                  refine h_g hs 1 rfl (by kernel_rfl) rfl rfl hC rfl (fun w hC => y_loadBA (hC.ownAt 0 rfl) rfl Try.isAgg32 Try.sizeOf32 rfl rfl) fun a hs => ?_
                  refine h_g hs 3 rfl (by kernel_rfl) rfl rfl hC rfl (fun w hC => y_loadBA (hC.ownAt 5 rfl) rfl Try.isAgg32 Try.sizeOf32 rfl rfl) fun a hs => ?_
                  refine h_g hs 4 rfl (by kernel_rfl) rfl rfl hC rfl (fun w hC => y_loadBA (hC.ownAt 0 rfl) rfl Try.isAgg32 Try.sizeOf32 rfl rfl) fun a hs => ?_
                  refine h_one (i := 2) (by kernel_rfl) rfl ?_
                  refine st_callR hs (record_Compare_ok h6961 hw.bdom (hw.bE 5 rfl) (hw.bE 0 rfl)) (do_call Try.call23 rfl) trivial rfl rfl ?_
                  intro v7158 Sv7155 w a h7156 h7157 hs
                  subst h7157
                  have hw := hw.callB h7156
                  refine h_nx (hw.cs [0, 1, 2, 3, 4, 5, 6, 7] [] rfl rfl) fun hC => ?_
                  refine h_one (i := 5) (by kernel_rfl) rfl ?_
                  refine st_callR hs (ref14_Compare_ok h6963 hw.bdom (hw.bE 5 rfl) (hw.bE 0 rfl)) (do_call Try.call32 rfl) trivial rfl rfl ?_
                  intro v7163 Sv7160 w a h7161 h7162 hs
                  subst h7162
                  have hw := hw.callB h7161
                  refine h_nx (hw.cs [0, 1, 2, 3, 4, 5, 6, 7] [] rfl rfl) fun hC => ?_
                  refine h_g hs 6 rfl (by kernel_rfl) rfl rfl hC rfl (fun w hC => y_neq rfl rfl) fun a hs => ?_
                  refine h_g hs 7 rfl (by kernel_rfl) rfl rfl hC rfl (fun w hC => y_move rfl) fun a hs => ?_
                  have hs := hs.fix 306 (.bool false) rfl (vb h6981)
                  refine h_t hs 8 rfl (by kernel_rfl) ⟨_, rfl, rfl⟩ rfl rfl hC (fun w hC => y_loadBA (hC.ownAt 5 rfl) rfl Try.isAgg32 Try.sizeOf32 rfl rfl) fun a hs => ?_
                  refine h_t hs 9 rfl (by kernel_rfl) ⟨_, rfl, rfl⟩ rfl rfl hC (fun w hC => y_loadBA (hC.ownAt 0 rfl) rfl Try.isAgg32 Try.sizeOf32 rfl rfl) fun a hs => ?_
                  refine h_t hs 11 rfl (by kernel_rfl) ⟨_, rfl, rfl⟩ rfl rfl hC (fun w hC => y_loadBA (hC.ownAt 5 rfl) rfl Try.isAgg32 Try.sizeOf32 rfl rfl) fun a hs => ?_
                  refine h_t hs 12 rfl (by kernel_rfl) ⟨_, rfl, rfl⟩ rfl rfl hC (fun w hC => y_loadBA (hC.ownAt 0 rfl) rfl Try.isAgg32 Try.sizeOf32 rfl rfl) fun a hs => ?_
                  refine h_one (i := 10) (by kernel_rfl) rfl ?_
                  refine st_callR hs (record_Better_ok h7085 hw.bdom (hw.bE 5 rfl) (hw.bE 0 rfl)) (do_call Try.call24 rfl) ⟨_, rfl, rfl⟩ rfl rfl ?_
                  intro v7168 Sv7165 w a h7166 h7167 hs
                  subst h7167
                  have hw := hw.callB h7166
                  refine h_nx (hw.cs [0, 1, 2, 3, 4, 5, 6, 7] [] rfl rfl) fun hC => ?_
                  refine h_one (i := 13) (by kernel_rfl) rfl ?_
                  refine st_callR hs (ref14_Better_ok h7087 hw.bdom (hw.bE 5 rfl) (hw.bE 0 rfl)) (do_call Try.call33 rfl) ⟨_, rfl, rfl⟩ rfl rfl ?_
                  intro v7173 Sv7170 w a h7171 h7172 hs
                  subst h7172
                  have hw := hw.callB h7171
                  refine h_nx (hw.cs [0, 1, 2, 3, 4, 5, 6, 7] [] rfl rfl) fun hC => ?_
                  refine h_t hs 14 rfl (by kernel_rfl) ⟨_, rfl, rfl⟩ rfl rfl hC (fun w hC => y_neqB Try.runUnderlying4 rfl rfl) fun a hs => ?_
                  refine h_g hs 15 rfl (by kernel_rfl) rfl rfl hC rfl (fun w hC => y_pickFE (v := .bool c6969) rfl rfl (vbs h7084)) fun a hs => ?_
                  refine h_g hs 16 rfl (by kernel_rfl) rfl rfl hC rfl (fun w hC => y_move rfl) fun a hs => ?_
                  have hs := hs.fix 315 (.bool false) rfl (vb h7089)
                  refine h_t hs 17 rfl (by kernel_rfl) ⟨_, rfl, rfl⟩ rfl rfl hC (fun w hC => y_loadBA (hC.ownAt 5 rfl) rfl Try.isAgg32 Try.sizeOf32 rfl rfl) fun a hs => ?_
                  refine h_t hs 18 rfl (by kernel_rfl) ⟨_, rfl, rfl⟩ rfl rfl hC (fun w hC => y_loadBA (hC.ownAt 0 rfl) rfl Try.isAgg32 Try.sizeOf32 rfl rfl) fun a hs => ?_
                  refine h_t hs 20 rfl (by kernel_rfl) ⟨_, rfl, rfl⟩ rfl rfl hC (fun w hC => y_loadBA (hC.ownAt 5 rfl) rfl Try.isAgg32 Try.sizeOf32 rfl rfl) fun a hs => ?_
                  refine h_t hs 21 rfl (by kernel_rfl) ⟨_, rfl, rfl⟩ rfl rfl hC (fun w hC => y_loadBA (hC.ownAt 0 rfl) rfl Try.isAgg32 Try.sizeOf32 rfl rfl) fun a hs => ?_
                  refine h_one (i := 19) (by kernel_rfl) rfl ?_
                  refine st_callR hs (record_Same_ok h7149 hw.bdom (hw.bE 5 rfl) (hw.bE 0 rfl)) (do_call Try.call17 rfl) ⟨_, rfl, rfl⟩ rfl rfl ?_
                  intro v7178 Sv7175 w a h7176 h7177 hs
                  subst h7177
                  have hw := hw.callB h7176
                  refine h_nx (hw.cs [0, 1, 2, 3, 4, 5, 6, 7] [] rfl rfl) fun hC => ?_
                  refine h_one (i := 22) (by kernel_rfl) rfl ?_
                  refine st_callR hs (ref14_Same_ok h7151 hw.bdom (hw.bE 5 rfl) (hw.bE 0 rfl)) (do_call Try.call29 rfl) ⟨_, rfl, rfl⟩ rfl rfl ?_
                  intro v7183 Sv7180 w a h7181 h7182 hs
                  subst h7182
                  have hw := hw.callB h7181
                  refine h_nx (hw.cs [0, 1, 2, 3, 4, 5, 6, 7] [] rfl rfl) fun hC => ?_
                  refine h_t hs 23 rfl (by kernel_rfl) ⟨_, rfl, rfl⟩ rfl rfl hC (fun w hC => y_neqB Try.runUnderlying4 rfl rfl) fun a hs => ?_
                  refine h_g hs 24 rfl (by kernel_rfl) rfl rfl hC rfl (fun w hC => y_pickFE (v := .bool c6974) rfl rfl (vbs h7148)) fun a hs => ?_
                  refine h_g hs 25 rfl (by kernel_rfl) rfl rfl hC rfl (fun w hC => y_move rfl) fun a hs => ?_
                  have hs := hs.fix 324 (.bool true) rfl (vb h7153)
                  refine h_s hs 26 rfl (by kernel_rfl) rfl rfl rfl (.inl rfl) rfl rfl hC fun a hs => ?_
                  refine h_s hs 27 rfl (by kernel_rfl) rfl rfl rfl (.inl rfl) rfl rfl hC fun a hs => ?_
                  refine h_s hs 28 rfl (by kernel_rfl) rfl rfl rfl (.inl rfl) rfl rfl hC fun a hs => ?_
                  refine h_s hs 29 rfl (by kernel_rfl) rfl rfl rfl (.inl rfl) rfl rfl hC fun a hs => ?_
                  refine h_s hs 30 rfl (by kernel_rfl) rfl rfl rfl (.inl rfl) rfl rfl hC fun a hs => ?_
                  refine h_s hs 31 rfl (by kernel_rfl) rfl rfl rfl (.inl rfl) rfl rfl hC fun a hs => ?_
                  refine h_s hs 32 rfl (by kernel_rfl) rfl rfl rfl (.inl rfl) rfl rfl hC fun a hs => ?_
                  refine h_s hs 33 rfl (by kernel_rfl) rfl rfl rfl (.inl rfl) rfl rfl hC fun a hs => ?_
                  refine h_s hs 34 rfl (by kernel_rfl) rfl rfl rfl (.inl rfl) rfl rfl hC fun a hs => ?_
                  refine h_g hs 35 rfl (by kernel_rfl) rfl rfl hC rfl (fun w hC => y_pickTE (v := .bool c6979) rfl rfl (vbs h7154)) fun a hs => ?_
                  refine h_done (by kernel_rfl) ?_
                  exact ⟨Sv6869, (hs.wk rfl), (hw.ft [1, 2, 3, 4, 5, 6, 7] [1, 2, 3, 4, 5, 6, 7] (by decide) rfl rfl)⟩
                 ·have h7185 := ite_f hc6979 h7153
                  obtain ⟨rv7187, h7186, h7185⟩ := bind_t h7185
                  obtain ⟨rv7189, h7188, h7185⟩ := bind_t h7185
                  refine h_b (C := Cls [.box b6960 [.string x6949.Source.Network, .string x6949.Source.Station, .string x6949.Source.Location, .string x6949.Source.Channel, .int .i64 x6949.Start, .int .i64 x6949.First, .int .i64 x6949.Rate.Num, .int .i64 x6949.Rate.Den, .int .i64 x6949.Error, .int .i64 x6949.Run, .int .i64 x6949.Seq, .slice p6956 x6949.Samples.length k6958] 32, .box b12 [.string raw5.Source.Network, .string raw5.Source.Station, .string raw5.Source.Location, .string raw5.Source.Channel, .int .i64 raw5.Start, .int .i64 raw5.First, .int .i64 raw5.Rate.Num, .int .i64 raw5.Rate.Den, .int .i64 raw5.Error, .int .i64 raw5.Run, .int .i64 raw5.Seq, .slice p6 raw5.Samples.length k7] 32, .box b39 [.slice p5846 rv5845.2.L.length k5847, .int .i64 rv5845.2.At] 60, .box b77 [.string rv60.1.Source.Network, .string rv60.1.Source.Station, .string rv60.1.Source.Location, .string rv60.1.Source.Channel, .int .i64 rv60.1.Start, .int .i64 rv60.1.First, .int .i64 rv60.1.Rate.Num, .int .i64 rv60.1.Rate.Den, .int .i64 rv60.1.Error, .int .i64 rv60.1.Run, .int .i64 rv60.1.Seq, .slice p61 rv60.1.Samples.length k62] 32, .box b78 [.string x166, .string x167, .string x168, .string x169, .int .i64 x170, .int .i64 x171, .int .i64 x172, .int .i64 x173, .int .i64 x174, .int .i64 x175, .int .i64 x176, .slice p161 x177.length k162] 32, .box b5170 [.string x5159.Source.Network, .string x5159.Source.Station, .string x5159.Source.Location, .string x5159.Source.Channel, .int .i64 x5159.Start, .int .i64 x5159.First, .int .i64 x5159.Rate.Num, .int .i64 x5159.Rate.Den, .int .i64 x5159.Error, .int .i64 x5159.Run, .int .i64 x5159.Seq, .slice p5166 x5159.Samples.length k5168] 32, .row (some ⟨b188, 0, none⟩) l190.length l190.length c191 32 12, .row (some ⟨b6678, 0, none⟩) l6680.length l6680.length c6681 32 12] []) (by kernel_rfl) rfl (hw.drew.cs [0, 1, 2, 3, 4, 5, 6, 7] [] rfl rfl) fun hC => ?_
                  have hw := hw.drew
                  refine h_g hs 0 rfl (by kernel_rfl) rfl rfl hC rfl (fun w hC => y_loadBA (hC.ownAt 5 rfl) rfl Try.isAgg32 Try.sizeOf32 rfl rfl) fun a hs => ?_
                  refine h_g hs 1 rfl (by kernel_rfl) rfl rfl hC rfl (fun w hC => y_loadBA (hC.ownAt 0 rfl) rfl Try.isAgg32 Try.sizeOf32 rfl rfl) fun a hs => ?_
                  refine h_g hs 3 rfl (by kernel_rfl) rfl rfl hC rfl (fun w hC => y_loadBA (hC.ownAt 5 rfl) rfl Try.isAgg32 Try.sizeOf32 rfl rfl) fun a hs => ?_
                  refine h_g hs 4 rfl (by kernel_rfl) rfl rfl hC rfl (fun w hC => y_loadBA (hC.ownAt 0 rfl) rfl Try.isAgg32 Try.sizeOf32 rfl rfl) fun a hs => ?_
                  refine h_one (i := 2) (by kernel_rfl) rfl ?_
                  refine st_callR hs (record_Compare_ok h6961 hw.bdom (hw.bE 5 rfl) (hw.bE 0 rfl)) (do_call Try.call23 rfl) trivial rfl rfl ?_
                  intro v7193 Sv7190 w a h7191 h7192 hs
                  subst h7192
                  have hw := hw.callB h7191
                  refine h_nx (hw.cs [0, 1, 2, 3, 4, 5, 6, 7] [] rfl rfl) fun hC => ?_
                  refine h_one (i := 5) (by kernel_rfl) rfl ?_
                  refine st_callR hs (ref14_Compare_ok h6963 hw.bdom (hw.bE 5 rfl) (hw.bE 0 rfl)) (do_call Try.call32 rfl) trivial rfl rfl ?_
                  intro v7198 Sv7195 w a h7196 h7197 hs
                  subst h7197
                  have hw := hw.callB h7196
                  refine h_nx (hw.cs [0, 1, 2, 3, 4, 5, 6, 7] [] rfl rfl) fun hC => ?_
                  refine h_g hs 6 rfl (by kernel_rfl) rfl rfl hC rfl (fun w hC => y_neq rfl rfl) fun a hs => ?_
                  refine h_g hs 7 rfl (by kernel_rfl) rfl rfl hC rfl (fun w hC => y_move rfl) fun a hs => ?_
                  have hs := hs.fix 306 (.bool false) rfl (vb h6981)
                  refine h_t hs 8 rfl (by kernel_rfl) ⟨_, rfl, rfl⟩ rfl rfl hC (fun w hC => y_loadBA (hC.ownAt 5 rfl) rfl Try.isAgg32 Try.sizeOf32 rfl rfl) fun a hs => ?_
                  refine h_t hs 9 rfl (by kernel_rfl) ⟨_, rfl, rfl⟩ rfl rfl hC (fun w hC => y_loadBA (hC.ownAt 0 rfl) rfl Try.isAgg32 Try.sizeOf32 rfl rfl) fun a hs => ?_
                  refine h_t hs 11 rfl (by kernel_rfl) ⟨_, rfl, rfl⟩ rfl rfl hC (fun w hC => y_loadBA (hC.ownAt 5 rfl) rfl Try.isAgg32 Try.sizeOf32 rfl rfl) fun a hs => ?_
                  refine h_t hs 12 rfl (by kernel_rfl) ⟨_, rfl, rfl⟩ rfl rfl hC (fun w hC => y_loadBA (hC.ownAt 0 rfl) rfl Try.isAgg32 Try.sizeOf32 rfl rfl) fun a hs => ?_
                  refine h_one (i := 10) (by kernel_rfl) rfl ?_
                  refine st_callR hs (record_Better_ok h7085 hw.bdom (hw.bE 5 rfl) (hw.bE 0 rfl)) (do_call Try.call24 rfl) ⟨_, rfl, rfl⟩ rfl rfl ?_
                  intro v7203 Sv7200 w a h7201 h7202 hs
                  subst h7202
                  have hw := hw.callB h7201
                  refine h_nx (hw.cs [0, 1, 2, 3, 4, 5, 6, 7] [] rfl rfl) fun hC => ?_
                  refine h_one (i := 13) (by kernel_rfl) rfl ?_
                  refine st_callR hs (ref14_Better_ok h7087 hw.bdom (hw.bE 5 rfl) (hw.bE 0 rfl)) (do_call Try.call33 rfl) ⟨_, rfl, rfl⟩ rfl rfl ?_
                  intro v7208 Sv7205 w a h7206 h7207 hs
                  subst h7207
                  have hw := hw.callB h7206
                  refine h_nx (hw.cs [0, 1, 2, 3, 4, 5, 6, 7] [] rfl rfl) fun hC => ?_
                  refine h_t hs 14 rfl (by kernel_rfl) ⟨_, rfl, rfl⟩ rfl rfl hC (fun w hC => y_neqB Try.runUnderlying4 rfl rfl) fun a hs => ?_
                  refine h_g hs 15 rfl (by kernel_rfl) rfl rfl hC rfl (fun w hC => y_pickFE (v := .bool c6969) rfl rfl (vbs h7084)) fun a hs => ?_
                  refine h_g hs 16 rfl (by kernel_rfl) rfl rfl hC rfl (fun w hC => y_move rfl) fun a hs => ?_
                  have hs := hs.fix 315 (.bool false) rfl (vb h7089)
                  refine h_t hs 17 rfl (by kernel_rfl) ⟨_, rfl, rfl⟩ rfl rfl hC (fun w hC => y_loadBA (hC.ownAt 5 rfl) rfl Try.isAgg32 Try.sizeOf32 rfl rfl) fun a hs => ?_
                  refine h_t hs 18 rfl (by kernel_rfl) ⟨_, rfl, rfl⟩ rfl rfl hC (fun w hC => y_loadBA (hC.ownAt 0 rfl) rfl Try.isAgg32 Try.sizeOf32 rfl rfl) fun a hs => ?_
                  refine h_t hs 20 rfl (by kernel_rfl) ⟨_, rfl, rfl⟩ rfl rfl hC (fun w hC => y_loadBA (hC.ownAt 5 rfl) rfl Try.isAgg32 Try.sizeOf32 rfl rfl) fun a hs => ?_
                  refine h_t hs 21 rfl (by kernel_rfl) ⟨_, rfl, rfl⟩ rfl rfl hC (fun w hC => y_loadBA (hC.ownAt 0 rfl) rfl Try.isAgg32 Try.sizeOf32 rfl rfl) fun a hs => ?_
                  refine h_one (i := 19) (by kernel_rfl) rfl ?_
                  refine st_callR hs (record_Same_ok h7149 hw.bdom (hw.bE 5 rfl) (hw.bE 0 rfl)) (do_call Try.call17 rfl) ⟨_, rfl, rfl⟩ rfl rfl ?_
                  intro v7213 Sv7210 w a h7211 h7212 hs
                  subst h7212
                  have hw := hw.callB h7211
                  refine h_nx (hw.cs [0, 1, 2, 3, 4, 5, 6, 7] [] rfl rfl) fun hC => ?_
                  refine h_one (i := 22) (by kernel_rfl) rfl ?_
                  refine st_callR hs (ref14_Same_ok h7151 hw.bdom (hw.bE 5 rfl) (hw.bE 0 rfl)) (do_call Try.call29 rfl) ⟨_, rfl, rfl⟩ rfl rfl ?_
                  intro v7218 Sv7215 w a h7216 h7217 hs
                  subst h7217
                  have hw := hw.callB h7216
                  refine h_nx (hw.cs [0, 1, 2, 3, 4, 5, 6, 7] [] rfl rfl) fun hC => ?_
                  refine h_t hs 23 rfl (by kernel_rfl) ⟨_, rfl, rfl⟩ rfl rfl hC (fun w hC => y_neqB Try.runUnderlying4 rfl rfl) fun a hs => ?_
                  refine h_g hs 24 rfl (by kernel_rfl) rfl rfl hC rfl (fun w hC => y_pickFE (v := .bool c6974) rfl rfl (vbs h7148)) fun a hs => ?_
                  refine h_g hs 25 rfl (by kernel_rfl) rfl rfl hC rfl (fun w hC => y_move rfl) fun a hs => ?_
                  have hs := hs.fix 324 (.bool false) rfl (vb h7153)
                  refine h_t hs 26 rfl (by kernel_rfl) ⟨_, rfl, rfl⟩ rfl rfl hC (fun w hC => y_loadBA (hC.ownAt 5 rfl) rfl Try.isAgg32 Try.sizeOf32 rfl rfl) fun a hs => ?_
                  refine h_t hs 27 rfl (by kernel_rfl) ⟨_, rfl, rfl⟩ rfl rfl hC (fun w hC => y_loadBA (hC.ownAt 0 rfl) rfl Try.isAgg32 Try.sizeOf32 rfl rfl) fun a hs => ?_
                  refine h_t hs 28 rfl (by kernel_rfl) ⟨_, rfl, rfl⟩ rfl rfl hC (fun w hC => y_move rfl) fun a hs => ?_
                  refine h_t hs 30 rfl (by kernel_rfl) ⟨_, rfl, rfl⟩ rfl rfl hC (fun w hC => y_loadBA (hC.ownAt 5 rfl) rfl Try.isAgg32 Try.sizeOf32 rfl rfl) fun a hs => ?_
                  refine h_t hs 31 rfl (by kernel_rfl) ⟨_, rfl, rfl⟩ rfl rfl hC (fun w hC => y_loadBA (hC.ownAt 0 rfl) rfl Try.isAgg32 Try.sizeOf32 rfl rfl) fun a hs => ?_
                  refine h_t hs 32 rfl (by kernel_rfl) ⟨_, rfl, rfl⟩ rfl rfl hC (fun w hC => y_move rfl) fun a hs => ?_
                  refine h_one (i := 29) (by kernel_rfl) rfl ?_
                  refine st_callR hs (record_Follows_ok h7186 hw.bdom (hw.bE 5 rfl) (hw.bE 0 rfl)) (do_call Try.call14 rfl) ⟨_, rfl, rfl⟩ rfl rfl ?_
                  intro v7223 Sv7220 w a h7221 h7222 hs
                  subst h7222
                  have hw := hw.callB h7221
                  refine h_nx (hw.cs [0, 1, 2, 3, 4, 5, 6, 7] [] rfl rfl) fun hC => ?_
                  refine h_one (i := 33) (by kernel_rfl) rfl ?_
                  refine st_callR hs (ref14_Follows_ok h7188 hw.bdom (hw.bE 5 rfl) (hw.bE 0 rfl)) (do_call Try.call34 rfl) ⟨_, rfl, rfl⟩ rfl rfl ?_
                  intro v7228 Sv7225 w a h7226 h7227 hs
                  subst h7227
                  have hw := hw.callB h7226
                  refine h_nx (hw.cs [0, 1, 2, 3, 4, 5, 6, 7] [] rfl rfl) fun hC => ?_
                  refine h_t hs 34 rfl (by kernel_rfl) ⟨_, rfl, rfl⟩ rfl rfl hC (fun w hC => y_neqB Try.runUnderlying4 rfl rfl) fun a hs => ?_
                  refine h_g hs 35 rfl (by kernel_rfl) rfl rfl hC rfl (fun w hC => y_pickFE (v := .bool c6979) rfl rfl (vbs h7185)) fun a hs => ?_
                  refine h_done (by kernel_rfl) ?_
                  exact ⟨Sv6869, (hs.wk rfl), (hw.ft [1, 2, 3, 4, 5, 6, 7] [1, 2, 3, 4, 5, 6, 7] (by decide) rfl rfl)⟩
              ·rintro a w ⟨Sv6980, hs, hw⟩
               refine then_normal ?_
               refine wp_cond_split (hs.ev rfl) (fun h7231 => ?_) (fun h7231 => ?_)
               ·have hsh := ite_t hsh h7231
                refine wp_seq ?_
                refine wp_region_lit ?_
                refine st_val hs (y_assign rfl) trivial rfl rfl fun a hs => ?_
                refine wpList_nil ?_
                refine then_normal ?_
                have hsh := Option.some.inj hsh
                subst hsh
                have h7232 := hd6906 _ rfl
                subst h7232
                have h7233 := hd4447 _ rfl
                subst h7233
                refine wp_ret ?_
                refine blk_ret ?_
                refine then_ret ?_
                refine then_ret ?_
                refine blk_ret ?_
                refine blk_ret ?_
                refine then_ret ?_
                refine then_ret ?_
                refine blk_ret ?_
                refine then_ret ?_
                exact ret1 hs rfl (rv_tmp rfl) (hw.ret rfl)
               ·have hsh := ite_f hsh h7231
                refine wp_skip ?_
                refine blk_normal ?_
                refine then_normal ?_
                refine wp_region_lit ?_
                refine st_val hs (y_add rfl rfl) trivial rfl rfl fun a hs => ?_
                refine st_val hs (y_move rfl) trivial rfl rfl fun a hs => ?_
                refine wpList_nil ?_
                refine then_normal ?_
                exact ⟨_, (Option.some.inj hsh).symm, Sv6980, (hs.wk rfl), (hw.ft [0, 1, 2, 3, 4, 5, 6] [0, 1, 2, 3, 4, 5, 6] (by decide) rfl rfl)⟩
             ·have hsh := ite_f hsh h6911
              obtain ⟨rv7234, hsh, h7235⟩ := map_t hsh
              have h7235 := (hd6906 _ h7235.symm).symm
              subst h7235
              refine wp_exit ?_
              refine then_exit ?_
              refine then_exit ?_
              refine blk_exit ?_
              refine blk_normal ?_
              refine then_normal ?_
              refine wp_region_lit ?_
              refine st_val hs (y_add rfl rfl) trivial rfl rfl fun a hs => ?_
              refine st_val hs (y_move rfl) trivial rfl rfl fun a hs => ?_
              refine wpList_nil ?_
              refine then_normal ?_
              exact ⟨_, (Option.some.inj hsh).symm, p5846, k5847, Sv6869, (hs.wk rfl), (hw.ft [0, 1, 2, 3, 5] [0, 1, 2, 3, 5] (by decide) rfl rfl)⟩
      ·have hsh := ite_f hsh h4452
       obtain ⟨rv7470, hsh, h7471⟩ := map_t hsh
       have h7471 := (hd4447 _ h7471.symm).symm
       subst h7471
       refine wp_exit ?_
       refine then_exit ?_
       refine then_exit ?_
       refine blk_exit ?_
       refine then_normal ?_
       refine wp_seq ?_
       refine wp_seq ?_
       refine wp_region_lit ?_
       refine w_litSlice (α := Int) (vs := D6t3) (cs := D6t3) (xs := D6t4) hs hw El22 rfl rfl rfl rfl rfl rfl ⟨⟨_, rfl, rfl⟩, ⟨⟨_, rfl, rfl⟩, ⟨⟨_, rfl, rfl⟩, ⟨⟨_, rfl, rfl⟩, rfl⟩⟩⟩⟩ rfl trivial rfl fun b7241 a w hs hw => ?_
       refine st_val hs (y_len Try.runUnderlying22 rfl) trivial rfl rfl fun a hs => ?_
       refine st_val hs (y_move rfl) trivial rfl rfl fun a hs => ?_
       refine wpList_nil ?_
       refine then_normal ?_
       refine wp_block ?_
       refine wp_while (fun sv7310 a w => ∃ (Sv7354 : Nat → Prop), Sl 365 [(13, .pointer (some ⟨b77, 0, none⟩)), (14, .pointer (some ⟨b78, 0, none⟩)), (337, .slice (some ⟨b7241, 0, none⟩) ([0, 250000, 3000000, 9007199254740992] : List Int).length ([0, 250000, 3000000, 9007199254740992] : List Int).length), (338, .int .i64 (([0, 250000, 3000000, 9007199254740992] : List Int).length : Int)), (339, .int .i64 sv7310)] a ∧ Wd ⟨w0, S0, []⟩ Sv7354 [.box b77 [.string rv60.1.Source.Network, .string rv60.1.Source.Station, .string rv60.1.Source.Location, .string rv60.1.Source.Channel, .int .i64 rv60.1.Start, .int .i64 rv60.1.First, .int .i64 rv60.1.Rate.Num, .int .i64 rv60.1.Rate.Den, .int .i64 rv60.1.Error, .int .i64 rv60.1.Run, .int .i64 rv60.1.Seq, .slice p61 rv60.1.Samples.length k62] 32, .box b78 [.string x166, .string x167, .string x168, .string x169, .int .i64 x170, .int .i64 x171, .int .i64 x172, .int .i64 x173, .int .i64 x174, .int .i64 x175, .int .i64 x176, .slice p161 x177.length k162] 32, .row (some ⟨b7241, 0, none⟩) ([0, 250000, 3000000, 9007199254740992] : List Int).length ([0, 250000, 3000000, 9007199254740992] : List Int).length [.int .i64 0, .int .i64 250000, .int .i64 3000000, .int .i64 9007199254740992] 3 1] [SlA p61 rv60.1.Samples.length k62 rv60.1.Samples, SlA p161 x177.length k162 x177, RowA [.int .i64 0, .int .i64 250000, .int .i64 3000000, .int .i64 9007199254740992] ([0, 250000, 3000000, 9007199254740992] : List Int)] w) 0 hsh ⟨Sv3741, (hs.wk rfl), (hw.ft [3, 4, 0] [3, 4, 0] (by decide) rfl rfl)⟩ ?_
       repeat clear hsh
       rintro sv7310 a w tv7377 ⟨Sv7354, hs, hw⟩ hsh hd7376
       delta law14_RecordExact_l31 at hsh
       refine wp_seq ?_
       refine wp_region_lit ?_
       refine st_val hs (y_lss rfl rfl) trivial rfl rfl fun a hs => ?_
       refine wpList_nil ?_
       refine then_normal ?_
       refine wp_seq ?_
       refine wp_cond_split (hs.ev rfl) (fun h7381 => ?_) (fun h7381 => ?_)
       ·have hsh := ite_t hsh h7381
        refine wp_skip ?_
        refine then_normal ?_
        refine wp_seq ?_
        refine wp_block ?_
        refine wp_seq ?_
        refine wp_region_lit ?_
        obtain ⟨x7404, h7402, hsh⟩ := bind_t hsh
        obtain ⟨q7408, c7409, h7405, h7406, h7410, h7403⟩ := hw.elemRK (α := Int) 2 rfl 2 rfl h7402
        obtain ⟨_, rfl, rfl⟩ := h7403
        refine st_val hs (y_indexAt Try.runUnderlying22 Try.sizeOf3 rfl rfl h7405.1 h7405.2 h7406) trivial rfl rfl fun a hs => ?_
        refine st_val hs (y_loadQ1 (j := 0) (hw.ownAt 2 rfl) rfl Try.isAgg3 h7410 rfl) trivial rfl rfl fun a hs => ?_
        refine st_val hs (y_assign rfl) trivial rfl rfl fun a hs => ?_
        refine wpList_nil ?_
        refine then_normal ?_
        refine wp_seq ?_
        obtain ⟨rv7412, h7411, hsh⟩ := bind_t hsh
        obtain ⟨rv7414, h7413, hsh⟩ := bind_t hsh
        obtain ⟨c7419, hc7419, hsh⟩ := bind_t hsh
        refine wp_only (fun a w => ∃ (Sv7420 : Nat → Prop), Sl 365 [(13, .pointer (some ⟨b77, 0, none⟩)), (14, .pointer (some ⟨b78, 0, none⟩)), (337, .slice (some ⟨b7241, 0, none⟩) ([0, 250000, 3000000, 9007199254740992] : List Int).length ([0, 250000, 3000000, 9007199254740992] : List Int).length), (338, .int .i64 (([0, 250000, 3000000, 9007199254740992] : List Int).length : Int)), (339, .int .i64 sv7310), (362, .bool c7419)] a ∧ Wd ⟨w0, S0, []⟩ Sv7420 [.box b77 [.string rv60.1.Source.Network, .string rv60.1.Source.Station, .string rv60.1.Source.Location, .string rv60.1.Source.Channel, .int .i64 rv60.1.Start, .int .i64 rv60.1.First, .int .i64 rv60.1.Rate.Num, .int .i64 rv60.1.Rate.Den, .int .i64 rv60.1.Error, .int .i64 rv60.1.Run, .int .i64 rv60.1.Seq, .slice p61 rv60.1.Samples.length k62] 32, .box b78 [.string x166, .string x167, .string x168, .string x169, .int .i64 x170, .int .i64 x171, .int .i64 x172, .int .i64 x173, .int .i64 x174, .int .i64 x175, .int .i64 x176, .slice p161 x177.length k162] 32, .row (some ⟨b7241, 0, none⟩) ([0, 250000, 3000000, 9007199254740992] : List Int).length ([0, 250000, 3000000, 9007199254740992] : List Int).length [.int .i64 0, .int .i64 250000, .int .i64 3000000, .int .i64 9007199254740992] 3 1] [SlA p61 rv60.1.Samples.length k62 rv60.1.Samples, SlA p161 x177.length k162 x177, RowA [.int .i64 0, .int .i64 250000, .int .i64 3000000, .int .i64 9007199254740992] ([0, 250000, 3000000, 9007199254740992] : List Int)] w) ?_ ?_
        ·rcases Bool.eq_false_or_eq_true (!(rv7412 == rv7414)) with h7421 | h7421
         ·have h7422 := ite_t hc7419 h7421
          refine h_b (C := Cls [.box b77 [.string rv60.1.Source.Network, .string rv60.1.Source.Station, .string rv60.1.Source.Location, .string rv60.1.Source.Channel, .int .i64 rv60.1.Start, .int .i64 rv60.1.First, .int .i64 rv60.1.Rate.Num, .int .i64 rv60.1.Rate.Den, .int .i64 rv60.1.Error, .int .i64 rv60.1.Run, .int .i64 rv60.1.Seq, .slice p61 rv60.1.Samples.length k62] 32, .box b78 [.string x166, .string x167, .string x168, .string x169, .int .i64 x170, .int .i64 x171, .int .i64 x172, .int .i64 x173, .int .i64 x174, .int .i64 x175, .int .i64 x176, .slice p161 x177.length k162] 32, .row (some ⟨b7241, 0, none⟩) ([0, 250000, 3000000, 9007199254740992] : List Int).length ([0, 250000, 3000000, 9007199254740992] : List Int).length [.int .i64 0, .int .i64 250000, .int .i64 3000000, .int .i64 9007199254740992] 3 1] []) (by kernel_rfl) rfl (hw.drew.cs [0, 1, 2] [] rfl rfl) fun hC => ?_
          have hw := hw.drew
          refine h_g hs 0 rfl (by kernel_rfl) rfl rfl hC rfl (fun w hC => y_loadBA (hC.ownAt 0 rfl) rfl Try.isAgg32 Try.sizeOf32 rfl rfl) fun a hs => ?_
          refine h_g hs 1 rfl (by kernel_rfl) rfl rfl hC rfl (fun w hC => y_loadBA (hC.ownAt 1 rfl) rfl Try.isAgg32 Try.sizeOf32 rfl rfl) fun a hs => ?_
          refine h_g hs 2 rfl (by kernel_rfl) rfl rfl hC rfl (fun w hC => y_move rfl) fun a hs => ?_
          refine h_g hs 4 rfl (by kernel_rfl) rfl rfl hC rfl (fun w hC => y_loadBA (hC.ownAt 0 rfl) rfl Try.isAgg32 Try.sizeOf32 rfl rfl) fun a hs => ?_
          refine h_g hs 5 rfl (by kernel_rfl) rfl rfl hC rfl (fun w hC => y_loadBA (hC.ownAt 1 rfl) rfl Try.isAgg32 Try.sizeOf32 rfl rfl) fun a hs => ?_
          refine h_g hs 6 rfl (by kernel_rfl) rfl rfl hC rfl (fun w hC => y_move rfl) fun a hs => ?_
          refine h_one (i := 3) (by kernel_rfl) rfl ?_
          refine st_callR hs (record_Follows_ok h7411 hw.bdom (hw.bE 0 rfl) (hw.bE 1 rfl)) (do_call Try.call14 rfl) trivial rfl rfl ?_
          intro v7426 Sv7423 w a h7424 h7425 hs
          subst h7425
          have hw := hw.callB h7424
          refine h_nx (hw.cs [0, 1, 2] [] rfl rfl) fun hC => ?_
          refine h_one (i := 7) (by kernel_rfl) rfl ?_
          refine st_callR hs (ref14_Follows_ok h7413 hw.bdom (hw.bE 0 rfl) (hw.bE 1 rfl)) (do_call Try.call34 rfl) trivial rfl rfl ?_
          intro v7431 Sv7428 w a h7429 h7430 hs
          subst h7430
          have hw := hw.callB h7429
          refine h_nx (hw.cs [0, 1, 2] [] rfl rfl) fun hC => ?_
          refine h_g hs 8 rfl (by kernel_rfl) rfl rfl hC rfl (fun w hC => y_neqB Try.runUnderlying4 rfl rfl) fun a hs => ?_
          refine h_g hs 9 rfl (by kernel_rfl) rfl rfl hC rfl (fun w hC => y_move rfl) fun a hs => ?_
          have hs := hs.fix 352 (.bool true) rfl (vb h7421)
          refine h_s hs 10 rfl (by kernel_rfl) rfl rfl rfl (.inl rfl) rfl rfl hC fun a hs => ?_
          refine h_s hs 11 rfl (by kernel_rfl) rfl rfl rfl (.inl rfl) rfl rfl hC fun a hs => ?_
          refine h_s hs 12 rfl (by kernel_rfl) rfl rfl rfl (.inl rfl) rfl rfl hC fun a hs => ?_
          refine h_s hs 13 rfl (by kernel_rfl) rfl rfl rfl (.inl rfl) rfl rfl hC fun a hs => ?_
          refine h_s hs 14 rfl (by kernel_rfl) rfl rfl rfl (.inl rfl) rfl rfl hC fun a hs => ?_
          refine h_s hs 15 rfl (by kernel_rfl) rfl rfl rfl (.inl rfl) rfl rfl hC fun a hs => ?_
          refine h_s hs 16 rfl (by kernel_rfl) rfl rfl rfl (.inl rfl) rfl rfl hC fun a hs => ?_
          refine h_s hs 17 rfl (by kernel_rfl) rfl rfl rfl (.inl rfl) rfl rfl hC fun a hs => ?_
          refine h_s hs 18 rfl (by kernel_rfl) rfl rfl rfl (.inl rfl) rfl rfl hC fun a hs => ?_
          refine h_g hs 19 rfl (by kernel_rfl) rfl rfl hC rfl (fun w hC => y_pickTE (v := .bool c7419) rfl rfl (vbs h7422)) fun a hs => ?_
          refine h_done (by kernel_rfl) ?_
          exact ⟨Sv7354, (hs.wk rfl), (hw.ft [0, 1, 2] [0, 1, 2] (by decide) rfl rfl)⟩
         ·have h7433 := ite_f hc7419 h7421
          obtain ⟨rv7435, h7434, h7433⟩ := bind_t h7433
          obtain ⟨rv7437, h7436, h7433⟩ := bind_t h7433
          refine h_b (C := Cls [.box b77 [.string rv60.1.Source.Network, .string rv60.1.Source.Station, .string rv60.1.Source.Location, .string rv60.1.Source.Channel, .int .i64 rv60.1.Start, .int .i64 rv60.1.First, .int .i64 rv60.1.Rate.Num, .int .i64 rv60.1.Rate.Den, .int .i64 rv60.1.Error, .int .i64 rv60.1.Run, .int .i64 rv60.1.Seq, .slice p61 rv60.1.Samples.length k62] 32, .box b78 [.string x166, .string x167, .string x168, .string x169, .int .i64 x170, .int .i64 x171, .int .i64 x172, .int .i64 x173, .int .i64 x174, .int .i64 x175, .int .i64 x176, .slice p161 x177.length k162] 32, .row (some ⟨b7241, 0, none⟩) ([0, 250000, 3000000, 9007199254740992] : List Int).length ([0, 250000, 3000000, 9007199254740992] : List Int).length [.int .i64 0, .int .i64 250000, .int .i64 3000000, .int .i64 9007199254740992] 3 1] []) (by kernel_rfl) rfl (hw.drew.cs [0, 1, 2] [] rfl rfl) fun hC => ?_
          have hw := hw.drew
          refine h_g hs 0 rfl (by kernel_rfl) rfl rfl hC rfl (fun w hC => y_loadBA (hC.ownAt 0 rfl) rfl Try.isAgg32 Try.sizeOf32 rfl rfl) fun a hs => ?_
          refine h_g hs 1 rfl (by kernel_rfl) rfl rfl hC rfl (fun w hC => y_loadBA (hC.ownAt 1 rfl) rfl Try.isAgg32 Try.sizeOf32 rfl rfl) fun a hs => ?_
          refine h_g hs 2 rfl (by kernel_rfl) rfl rfl hC rfl (fun w hC => y_move rfl) fun a hs => ?_
          refine h_g hs 4 rfl (by kernel_rfl) rfl rfl hC rfl (fun w hC => y_loadBA (hC.ownAt 0 rfl) rfl Try.isAgg32 Try.sizeOf32 rfl rfl) fun a hs => ?_
          refine h_g hs 5 rfl (by kernel_rfl) rfl rfl hC rfl (fun w hC => y_loadBA (hC.ownAt 1 rfl) rfl Try.isAgg32 Try.sizeOf32 rfl rfl) fun a hs => ?_
          refine h_g hs 6 rfl (by kernel_rfl) rfl rfl hC rfl (fun w hC => y_move rfl) fun a hs => ?_
          refine h_one (i := 3) (by kernel_rfl) rfl ?_
          refine st_callR hs (record_Follows_ok h7411 hw.bdom (hw.bE 0 rfl) (hw.bE 1 rfl)) (do_call Try.call14 rfl) trivial rfl rfl ?_
          intro v7441 Sv7438 w a h7439 h7440 hs
          subst h7440
          have hw := hw.callB h7439
          refine h_nx (hw.cs [0, 1, 2] [] rfl rfl) fun hC => ?_
          refine h_one (i := 7) (by kernel_rfl) rfl ?_
          refine st_callR hs (ref14_Follows_ok h7413 hw.bdom (hw.bE 0 rfl) (hw.bE 1 rfl)) (do_call Try.call34 rfl) trivial rfl rfl ?_
          intro v7446 Sv7443 w a h7444 h7445 hs
          subst h7445
          have hw := hw.callB h7444
          refine h_nx (hw.cs [0, 1, 2] [] rfl rfl) fun hC => ?_
          refine h_g hs 8 rfl (by kernel_rfl) rfl rfl hC rfl (fun w hC => y_neqB Try.runUnderlying4 rfl rfl) fun a hs => ?_
          refine h_g hs 9 rfl (by kernel_rfl) rfl rfl hC rfl (fun w hC => y_move rfl) fun a hs => ?_
          have hs := hs.fix 352 (.bool false) rfl (vb h7421)
          refine h_t hs 10 rfl (by kernel_rfl) ⟨_, rfl, rfl⟩ rfl rfl hC (fun w hC => y_loadBA (hC.ownAt 1 rfl) rfl Try.isAgg32 Try.sizeOf32 rfl rfl) fun a hs => ?_
          refine h_t hs 11 rfl (by kernel_rfl) ⟨_, rfl, rfl⟩ rfl rfl hC (fun w hC => y_loadBA (hC.ownAt 0 rfl) rfl Try.isAgg32 Try.sizeOf32 rfl rfl) fun a hs => ?_
          refine h_t hs 12 rfl (by kernel_rfl) ⟨_, rfl, rfl⟩ rfl rfl hC (fun w hC => y_move rfl) fun a hs => ?_
          refine h_t hs 14 rfl (by kernel_rfl) ⟨_, rfl, rfl⟩ rfl rfl hC (fun w hC => y_loadBA (hC.ownAt 1 rfl) rfl Try.isAgg32 Try.sizeOf32 rfl rfl) fun a hs => ?_
          refine h_t hs 15 rfl (by kernel_rfl) ⟨_, rfl, rfl⟩ rfl rfl hC (fun w hC => y_loadBA (hC.ownAt 0 rfl) rfl Try.isAgg32 Try.sizeOf32 rfl rfl) fun a hs => ?_
          refine h_t hs 16 rfl (by kernel_rfl) ⟨_, rfl, rfl⟩ rfl rfl hC (fun w hC => y_move rfl) fun a hs => ?_
          refine h_one (i := 13) (by kernel_rfl) rfl ?_
          refine st_callR hs (record_Follows_ok h7434 hw.bdom (hw.bE 1 rfl) (hw.bE 0 rfl)) (do_call Try.call14 rfl) ⟨_, rfl, rfl⟩ rfl rfl ?_
          intro v7451 Sv7448 w a h7449 h7450 hs
          subst h7450
          have hw := hw.callB h7449
          refine h_nx (hw.cs [0, 1, 2] [] rfl rfl) fun hC => ?_
          refine h_one (i := 17) (by kernel_rfl) rfl ?_
          refine st_callR hs (ref14_Follows_ok h7436 hw.bdom (hw.bE 1 rfl) (hw.bE 0 rfl)) (do_call Try.call34 rfl) ⟨_, rfl, rfl⟩ rfl rfl ?_
          intro v7456 Sv7453 w a h7454 h7455 hs
          subst h7455
          have hw := hw.callB h7454
          refine h_nx (hw.cs [0, 1, 2] [] rfl rfl) fun hC => ?_
          refine h_t hs 18 rfl (by kernel_rfl) ⟨_, rfl, rfl⟩ rfl rfl hC (fun w hC => y_neqB Try.runUnderlying4 rfl rfl) fun a hs => ?_
          refine h_g hs 19 rfl (by kernel_rfl) rfl rfl hC rfl (fun w hC => y_pickFE (v := .bool c7419) rfl rfl (vbs h7433)) fun a hs => ?_
          refine h_done (by kernel_rfl) ?_
          exact ⟨Sv7354, (hs.wk rfl), (hw.ft [0, 1, 2] [0, 1, 2] (by decide) rfl rfl)⟩
        ·rintro a w ⟨Sv7420, hs, hw⟩
         refine then_normal ?_
         refine wp_cond_split (hs.ev rfl) (fun h7459 => ?_) (fun h7459 => ?_)
         ·have hsh := ite_t hsh h7459
          refine wp_seq ?_
          refine wp_region_lit ?_
          refine st_val hs (y_assign rfl) trivial rfl rfl fun a hs => ?_
          refine wpList_nil ?_
          refine then_normal ?_
          have hsh := Option.some.inj hsh
          subst hsh
          have h7460 := hd7376 _ rfl
          subst h7460
          refine wp_ret ?_
          refine blk_ret ?_
          refine then_ret ?_
          refine then_ret ?_
          refine blk_ret ?_
          refine then_ret ?_
          exact ret1 hs rfl (rv_tmp rfl) (hw.ret rfl)
         ·have hsh := ite_f hsh h7459
          refine wp_skip ?_
          refine blk_normal ?_
          refine then_normal ?_
          refine wp_region_lit ?_
          refine st_val hs (y_add rfl rfl) trivial rfl rfl fun a hs => ?_
          refine st_val hs (y_move rfl) trivial rfl rfl fun a hs => ?_
          refine wpList_nil ?_
          refine then_normal ?_
          exact ⟨_, (Option.some.inj hsh).symm, Sv7420, (hs.wk rfl), (hw.ft [0, 1, 2] [0, 1, 2] (by decide) rfl rfl)⟩
       ·have hsh := ite_f hsh h7381
        obtain ⟨rv7468, hsh, h7469⟩ := map_t hsh
        have h7469 := (hd7376 _ h7469.symm).symm
        subst h7469
        refine wp_exit ?_
        refine then_exit ?_
        refine then_exit ?_
        refine blk_exit ?_
        refine then_normal ?_
        refine wp_seq ?_
        refine wp_region_lit ?_
        obtain ⟨rv7462, h7461, hsh⟩ := bind_t hsh
        refine st_callR hs (law14_sane_ok h7461 hw.bdom) (do_call Try.call8 rfl) trivial rfl rfl ?_
        intro v7466 Sv7463 w a h7464 h7465 hs
        subst h7465
        have hw := hw.callB h7464
        refine st_val hs (y_assign rfl) trivial rfl rfl fun a hs => ?_
        refine wpList_nil ?_
        refine then_normal ?_
        have hsh := Option.some.inj hsh
        subst hsh
        refine wp_ret ?_
        exact ret1 hs rfl (rv_tmp rfl) (hw.ret rfl)

end Go.Proofs.Ytdifjkamipeibaa.Wk

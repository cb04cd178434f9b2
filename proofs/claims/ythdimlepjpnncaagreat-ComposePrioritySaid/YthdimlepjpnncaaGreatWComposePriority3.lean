/- The walks of ComposePriority, part 3: each Go function computes what its plain program computes. Printed by a program of ours. -/
import Derived.Test.YthdimlepjpnncaaGreatProg
import Derived.Test.YthdimlepjpnncaaGreatDat
import Derived.Test.YthdimlepjpnncaaGreatSh
import Derived.Test.YthdimlepjpnncaaGreatLibL
import Derived.Test.YthdimlepjpnncaaGreatLibZ
import Derived.Test.YthdimlepjpnncaaGreatLibQ
import Derived.KernelRfl
import Derived.Test.YthdimlepjpnncaaGreatLibU
import Derived.Shelf.SlLaysF0
import Derived.Test.YthdimlepjpnncaaGreatWComposePriority2
namespace Go.Proofs.YthdimlepjpnncaaGreat.Wk
open Go Go.RowKit Go.Proofs Go.Proofs.YthdimlepjpnncaaGreat.Sh
set_option linter.unusedVariables false
set_option linter.unusedSimpArgs false

abbrev made_Dice_Record_rd (w0 : World) (X : List Nat) (b2 : Nat) (r : (Record × Dice)) : (Nat → Prop) → World → Value → Prop := fun S w v => ∃ (p0_11 : Option Addr) (k0_11 : Nat) (c0_11 : List Value) (pq0_0 : Option Addr) (kq0_0 : Nat), v = .agg #[.string r.1.Source.Network, .string r.1.Source.Station, .string r.1.Source.Location, .string r.1.Source.Channel, .int .i64 r.1.Start, .int .i64 r.1.First, .int .i64 r.1.Rate.Num, .int .i64 r.1.Rate.Den, .int .i64 r.1.Error, .int .i64 r.1.Run, .int .i64 r.1.Seq, .slice p0_11 r.1.Samples.length k0_11] ∧ Outs X w0 S w [.row p0_11 r.1.Samples.length k0_11 c0_11 3 1, .box b2 [.slice pq0_0 r.2.L.length kq0_0, .int .i64 r.2.At] 75] ∧ (RowA c0_11 r.1.Samples).p S w ∧ (SlA pq0_0 r.2.L.length kq0_0 r.2.L).p S w
abbrev D16t1 (b2 : Nat) (b43 : Nat) (b8 : Nat) (b9 : Nat) (n7 : Int) : Slots := [(0, .pointer (some ⟨b2, 0, none⟩)), (2, .int .i64 n7), (4, .pointer (some ⟨b8, 0, none⟩)), (6, .pointer (some ⟨b9, 0, none⟩)), (7, .pointer (some ⟨b43, 0, none⟩))]
abbrev D16t2 (b2 : Nat) (b50 : Nat) (b57 : Nat) (b73 : Nat) (rv37 : (Rate × Int)) (rv45 : (Int × Dice)) (rv52 : (Int × Dice)) (rv59 : (Int × Dice)) (rv64 : (Int × Dice)) (rv69 : (Int × Dice)) (s6 : SourceID) : Vs := [(0, 21, .agg #[.string s6.Network, .string s6.Station, .string s6.Location, .string s6.Channel]), (1, 22, .pointer (some ⟨b2, 0, none⟩)), (2, 23, .int .i64 rv45.1), (3, 24, .int .i64 (w64 (250000 * rv45.1))), (4, 25, .int .i64 (w64 (1000000000000 + (w64 (250000 * rv45.1))))), (5, 26, .pointer (some ⟨b2, 0, none⟩)), (6, 27, .slice (some ⟨b50, 0, none⟩) ([0, 0, 3] : List Int).length ([0, 0, 3] : List Int).length), (7, 28, .int .i64 rv52.1), (8, 29, .agg #[.int .i64 rv37.1.Num, .int .i64 rv37.1.Den]), (9, 30, .pointer (some ⟨b2, 0, none⟩)), (10, 31, .slice (some ⟨b57, 0, none⟩) ([0, 0, 10, 500] : List Int).length ([0, 0, 10, 500] : List Int).length), (11, 32, .int .i64 rv59.1), (12, 33, .pointer (some ⟨b2, 0, none⟩)), (13, 34, .int .i64 rv64.1), (14, 35, .pointer (some ⟨b2, 0, none⟩)), (15, 36, .int .i64 rv69.1), (16, 37, .agg #[.string s6.Network, .string s6.Station, .string s6.Location, .string s6.Channel, .int .i64 (w64 (1000000000000 + (w64 (250000 * rv45.1)))), .int .i64 rv52.1, .int .i64 rv37.1.Num, .int .i64 rv37.1.Den, .int .i64 rv59.1, .int .i64 rv64.1, .int .i64 rv69.1, .slice none ([] : List Int).length 0]), (17, 9, .pointer (some ⟨b73, 0, none⟩))]
abbrev D16t3 : List Value := [.int .i64 0, .int .i64 0, .int .i64 3]
abbrev D16t4 : List Int := ([0, 0, 3] : List Int)
abbrev D16t5 : List Value := [.int .i64 0, .int .i64 0, .int .i64 10, .int .i64 500]
abbrev D16t6 : List Int := ([0, 0, 10, 500] : List Int)
set_option maxHeartbeats 4000000 in
set_option maxRecDepth 100000 in
theorem made_Dice_Record_ok {w0 : World} {S0 : Nat → Prop} {b2 : Nat} {p3 : Option Addr} {k4 : Nat} {d1 : Dice} {s6 : SourceID} {n7 : Int} {r : (Record × Dice)} (hsh : made_Dice_Record d1 s6 n7 = some r) (hS : ∀ b, S0 b → b < w0.heap.size) (hin : Ins S0 w0 [.box b2 [.slice p3 d1.L.length k4, .int .i64 d1.At] 75]) (h5 : (SlA p3 d1.L.length k4 d1.L).p S0 w0) : Calls Tryz.prog 16 #[.pointer (some ⟨b2, 0, none⟩), .agg #[.string s6.Network, .string s6.Station, .string s6.Location, .string s6.Channel], .int .i64 n7] w0 (Ret (blks [.box b2 [.slice p3 d1.L.length k4, .int .i64 d1.At] 75]) w0 S0 (made_Dice_Record_rd w0 (blks [.box b2 [.slice p3 d1.L.length k4, .int .i64 d1.At] 75]) b2 r)) := by
 refine calls_of_wp Tryz.func16 rfl ?_
 have hs := Sl.enter #[.pointer (some ⟨b2, 0, none⟩), .agg #[.string s6.Network, .string s6.Station, .string s6.Location, .string s6.Channel], .int .i64 n7] 54 [(0, .pointer (some ⟨b2, 0, none⟩)), (1, .agg #[.string s6.Network, .string s6.Station, .string s6.Location, .string s6.Channel]), (2, .int .i64 n7)] rfl ⟨rfl, rfl, rfl, trivial⟩
 have hw := Wd.enterI hS hin
 have hw := hw.addE h5
 delta made_Dice_Record at hsh
 refine sr ?_
 refine w_box (cs := [.string s6.Network, .string s6.Station, .string s6.Location, .string s6.Channel]) hs hw rfl rfl rfl trivial ?_
 intro b8 a w hs hw
 refine w_alloc (cs := [.string ByteArray.empty, .string ByteArray.empty, .string ByteArray.empty, .string ByteArray.empty, .int .i64 0, .int .i64 0, .int .i64 0, .int .i64 0, .int .i64 0, .int .i64 0, .int .i64 0, .slice none ([] : List Int).length 0]) hs hw Tryz.zeroValue35 rfl rfl trivial ?_
 intro b9 a w hs hw
 refine nl ?_
 refine sr ?_
 refine mv hs rfl rfl fun a hs => ?_
 refine w_litSlice (α := Int) (vs := [.int .i64 1, .int .i64 2, .int .i64 2, .int .i64 3]) (cs := [.int .i64 1, .int .i64 2, .int .i64 2, .int .i64 3]) (xs := ([1, 2, 2, 3] : List Int)) hs hw El22 rfl rfl rfl rfl rfl rfl ⟨⟨_, rfl, rfl⟩, ⟨⟨_, rfl, rfl⟩, ⟨⟨_, rfl, rfl⟩, ⟨⟨_, rfl, rfl⟩, rfl⟩⟩⟩⟩ rfl trivial rfl fun b11 a w hs hw => ?_
 obtain ⟨rv13, h12, hsh⟩ := bind_t hsh
 obtain ⟨Sv17, hw⟩ := w_share (α := Int) hw 0 rfl 0 rfl
 refine st_callR hs (made_Dice_Pick_ok h12 hw.dom (hw.ins [2] (by decide) rfl) (hw.envAt 2 rfl) (hw.envAt 0 rfl)) (do_call Tryz.call47 rfl) trivial rfl rfl ?_
 intro v21 Sv18 w a h19 h20 hs
 obtain ⟨p14, k15, rfl, h22, h16⟩ := h20
 have hw := hw.callO [2] [0, 1] (by decide) rfl h19 h22
 have hw := hw.addE (e := SlA p14 rv13.2.L.length k15 rv13.2.L) h16
 refine mv hs rfl rfl fun a hs => ?_
 refine w_litSlice (α := Int) (vs := [.int .i64 1, .int .i64 1, .int .i64 1, .int .i64 3]) (cs := [.int .i64 1, .int .i64 1, .int .i64 1, .int .i64 3]) (xs := ([1, 1, 1, 3] : List Int)) hs hw El22 rfl rfl rfl rfl rfl rfl ⟨⟨_, rfl, rfl⟩, ⟨⟨_, rfl, rfl⟩, ⟨⟨_, rfl, rfl⟩, ⟨⟨_, rfl, rfl⟩, rfl⟩⟩⟩⟩ rfl trivial rfl fun b24 a w hs hw => ?_
 obtain ⟨rv26, h25, hsh⟩ := bind_t hsh
 obtain ⟨Sv30, hw⟩ := w_share (α := Int) hw 0 rfl 0 rfl
 refine st_callR hs (made_Dice_Pick_ok h25 hw.dom (hw.ins [0] (by decide) rfl) (hw.envAt 2 rfl) (hw.envAt 0 rfl)) (do_call Tryz.call47 rfl) trivial rfl rfl ?_
 intro v34 Sv31 w a h32 h33 hs
 obtain ⟨p27, k28, rfl, h35, h29⟩ := h33
 have hw := hw.callO [0] [1, 2] (by decide) rfl h32 h35
 have hw := hw.addE (e := SlA p27 rv26.2.L.length k28 rv26.2.L) h29
 obtain ⟨rv37, h36, hsh⟩ := bind_t hsh
 refine st_callR hs (ref02_New_ok h36 hw.bdom) (do_call Tryz.call48 rfl) trivial rfl rfl ?_
 intro v41 Sv38 w a h39 h40 hs
 subst h40
 have hw := hw.callB h39
 refine mv hs rfl rfl fun a hs => ?_
 refine sv hs (y_extract rfl rfl) rfl fun a hs => ?_
 refine sv hs (y_extract rfl rfl) rfl fun a hs => ?_
 refine w_alloc (cs := [.int .i64 0, .int .i64 0]) hs hw Tryz.zeroValue33 rfl rfl trivial ?_
 intro b43 a w hs hw
 refine w_store (m := 2) (cs' := [.int .i64 rv37.1.Num, .int .i64 rv37.1.Den]) hs hw 0 rfl rfl rfl Tryz.sizeOf33 rfl rfl rfl rfl trivial ?_
 intro a w hs hw
 refine av hs rfl rfl fun a hs => ?_
 refine nl ?_
 refine wp_seq ?_
 obtain ⟨rv45, h44, hsh⟩ := bind_t hsh
 obtain ⟨rv52, h51, hsh⟩ := bind_t hsh
 obtain ⟨rv59, h58, hsh⟩ := bind_t hsh
 obtain ⟨rv64, h63, hsh⟩ := bind_t hsh
 obtain ⟨rv69, h68, hsh⟩ := bind_t hsh
 refine wp_only (fun a w => ∃ (Sv74 : Nat → Prop) (b73 : Nat) (k71 : Nat) (p70 : Option Addr), Sl 54 [(0, .pointer (some ⟨b2, 0, none⟩)), (2, .int .i64 n7), (6, .pointer (some ⟨b9, 0, none⟩)), (9, .pointer (some ⟨b73, 0, none⟩))] a ∧ Wd ⟨w0, S0, blks [.box b2 [.slice p3 d1.L.length k4, .int .i64 d1.At] 75]⟩ Sv74 [.box b2 [.slice p70 rv69.2.L.length k71, .int .i64 rv69.2.At] 75, .box b9 [.string ByteArray.empty, .string ByteArray.empty, .string ByteArray.empty, .string ByteArray.empty, .int .i64 0, .int .i64 0, .int .i64 0, .int .i64 0, .int .i64 0, .int .i64 0, .int .i64 0, .slice none ([] : List Int).length 0] 35, .box b73 [.string s6.Network, .string s6.Station, .string s6.Location, .string s6.Channel, .int .i64 (w64 (1000000000000 + (w64 (250000 * rv45.1)))), .int .i64 rv52.1, .int .i64 rv37.1.Num, .int .i64 rv37.1.Den, .int .i64 rv59.1, .int .i64 rv64.1, .int .i64 rv69.1, .slice none ([] : List Int).length 0] 35] [SlA p70 rv69.2.L.length k71 rv69.2.L, SlA none ([] : List Int).length 0 ([] : List Int)] w) ?_ ?_
 ·refine wp_region_phi (n := 19) (Φ := fun l a w => ∃ (b50 : Nat) (b57 : Nat) (b73 : Nat) (k47 : Nat) (k54 : Nat) (k61 : Nat) (k66 : Nat) (k71 : Nat) (p46 : Option Addr) (p53 : Option Addr) (p60 : Option Addr) (p65 : Option Addr) (p70 : Option Addr) (S : Nat → Prop), SlF 54 (D16t1 b2 b43 b8 b9 n7) (D16t2 b2 b50 b57 b73 rv37 rv45 rv52 rv59 rv64 rv69 s6) l a ∧ Wd ⟨w0, S0, blks [.box b2 [.slice p3 d1.L.length k4, .int .i64 d1.At] 75]⟩ S [.box b43 [.int .i64 rv37.1.Num, .int .i64 rv37.1.Den] 33, ((bif l 15 then .box b2 [.slice p70 rv69.2.L.length k71, .int .i64 rv69.2.At] 75 else (bif l 13 then .box b2 [.slice p65 rv64.2.L.length k66, .int .i64 rv64.2.At] 75 else (bif l 11 then .box b2 [.slice p60 rv59.2.L.length k61, .int .i64 rv59.2.At] 75 else (bif l 7 then .box b2 [.slice p53 rv52.2.L.length k54, .int .i64 rv52.2.At] 75 else (bif l 2 then .box b2 [.slice p46 rv45.2.L.length k47, .int .i64 rv45.2.At] 75 else .box b2 [.slice p27 rv26.2.L.length k28, .int .i64 rv26.2.At] 75))))) : Res), .box b9 [.string ByteArray.empty, .string ByteArray.empty, .string ByteArray.empty, .string ByteArray.empty, .int .i64 0, .int .i64 0, .int .i64 0, .int .i64 0, .int .i64 0, .int .i64 0, .int .i64 0, .slice none ([] : List Int).length 0] 35, .box b8 [.string s6.Network, .string s6.Station, .string s6.Location, .string s6.Channel] 31, ((bif l 7 then emp else (bif l 6 then .row (some ⟨b50, 0, none⟩) ([0, 0, 3] : List Int).length ([0, 0, 3] : List Int).length [.int .i64 0, .int .i64 0, .int .i64 3] 3 1 else emp)) : Res), ((bif l 11 then emp else (bif l 10 then .row (some ⟨b57, 0, none⟩) ([0, 0, 10, 500] : List Int).length ([0, 0, 10, 500] : List Int).length [.int .i64 0, .int .i64 0, .int .i64 10, .int .i64 500] 3 1 else emp)) : Res), ((bif l 18 then .box b73 [.string s6.Network, .string s6.Station, .string s6.Location, .string s6.Channel, .int .i64 (w64 (1000000000000 + (w64 (250000 * rv45.1)))), .int .i64 rv52.1, .int .i64 rv37.1.Num, .int .i64 rv37.1.Den, .int .i64 rv59.1, .int .i64 rv64.1, .int .i64 rv69.1, .slice none ([] : List Int).length 0] 35 else (bif l 17 then .box b73 [.string ByteArray.empty, .string ByteArray.empty, .string ByteArray.empty, .string ByteArray.empty, .int .i64 0, .int .i64 0, .int .i64 0, .int .i64 0, .int .i64 0, .int .i64 0, .int .i64 0, .slice none ([] : List Int).length 0] 35 else emp)) : Res)] [SlA p27 rv26.2.L.length k28 rv26.2.L, SlA (some ⟨b24, 0, none⟩) ([1, 1, 1, 3] : List Int).length ([1, 1, 1, 3] : List Int).length ([1, 1, 1, 3] : List Int), RowA [.int .i64 1, .int .i64 1, .int .i64 1, .int .i64 3] ([1, 1, 1, 3] : List Int), SlA p14 rv13.2.L.length k15 rv13.2.L, SlA (some ⟨b11, 0, none⟩) ([1, 2, 2, 3] : List Int).length ([1, 2, 2, 3] : List Int).length ([1, 2, 2, 3] : List Int), RowA [.int .i64 1, .int .i64 2, .int .i64 2, .int .i64 3] ([1, 2, 2, 3] : List Int), SlA p3 d1.L.length k4 d1.L, optA (l 2) (SlA p46 rv45.2.L.length k47 rv45.2.L), optA (l 6) (RowA [.int .i64 0, .int .i64 0, .int .i64 3] ([0, 0, 3] : List Int)), optA (l 7) (SlA (some ⟨b50, 0, none⟩) ([0, 0, 3] : List Int).length ([0, 0, 3] : List Int).length ([0, 0, 3] : List Int)), optA (l 7) (SlA p53 rv52.2.L.length k54 rv52.2.L), optA (l 10) (RowA [.int .i64 0, .int .i64 0, .int .i64 10, .int .i64 500] ([0, 0, 10, 500] : List Int)), optA (l 11) (SlA (some ⟨b57, 0, none⟩) ([0, 0, 10, 500] : List Int).length ([0, 0, 10, 500] : List Int).length ([0, 0, 10, 500] : List Int)), optA (l 11) (SlA p60 rv59.2.L.length k61 rv59.2.L), optA (l 13) (SlA p65 rv64.2.L.length k66 rv64.2.L), optA (l 15) (SlA p70 rv69.2.L.length k71 rv69.2.L)] w) [1, 1, 2, 3, 4, 1, 1, 3, 1, 1, 1, 4, 1, 5, 1, 6, 7, 1, 8] (by kernel_rfl) rfl (by kernel_rfl) ?_ (AllS.succ (AllS.succ (AllS.succ (AllS.succ (AllS.succ (AllS.succ (AllS.succ (AllS.succ (AllS.succ (AllS.succ (AllS.succ (AllS.succ (AllS.succ (AllS.succ (AllS.succ (AllS.succ (AllS.succ (AllS.succ (AllS.succ AllS.zero ?_) ?_) ?_) ?_) ?_) ?_) ?_) ?_) ?_) ?_) ?_) ?_) ?_) ?_) ?_) ?_) ?_) ?_) ?_) ?_
  ·obtain ⟨b50, b57, b73, k47, k54, k61, k66, k71, p46, p53, p60, p65, p70, _⟩ : ∃ (b50 : Nat) (b57 : Nat) (b73 : Nat) (k47 : Nat) (k54 : Nat) (k61 : Nat) (k66 : Nat) (k71 : Nat) (p46 : Option Addr) (p53 : Option Addr) (p60 : Option Addr) (p65 : Option Addr) (p70 : Option Addr), True := ⟨0, 0, 0, 0, 0, 0, 0, 0, none, none, none, none, none, trivial⟩
   have hw := hw.drew
   have hw := hw.emp
   have hw := hw.emp
   have hw := hw.emp
   have hw := hw.noE (SlA p70 rv69.2.L.length k71 rv69.2.L)
   have hw := hw.noE (SlA p65 rv64.2.L.length k66 rv64.2.L)
   have hw := hw.noE (SlA p60 rv59.2.L.length k61 rv59.2.L)
   have hw := hw.noE (SlA (some ⟨b57, 0, none⟩) ([0, 0, 10, 500] : List Int).length ([0, 0, 10, 500] : List Int).length ([0, 0, 10, 500] : List Int))
   have hw := hw.noE (RowA [.int .i64 0, .int .i64 0, .int .i64 10, .int .i64 500] ([0, 0, 10, 500] : List Int))
   have hw := hw.noE (SlA p53 rv52.2.L.length k54 rv52.2.L)
   have hw := hw.noE (SlA (some ⟨b50, 0, none⟩) ([0, 0, 3] : List Int).length ([0, 0, 3] : List Int).length ([0, 0, 3] : List Int))
   have hw := hw.noE (RowA [.int .i64 0, .int .i64 0, .int .i64 3] ([0, 0, 3] : List Int))
   have hw := hw.noE (SlA p46 rv45.2.L.length k47 rv45.2.L)
   exact ⟨b50, b57, b73, k47, k54, k61, k66, k71, p46, p53, p60, p65, p70, Sv31, SlF.init (hs.wk rfl) (by kernel_rfl), hw.ft [3, 4, 5, 6, 0, 1, 2] [9, 10, 11, 12, 13, 14, 15, 0, 1, 2, 3, 4, 5, 6, 7, 8] (by decide) rfl rfl⟩
  ·intro l hi hp hc a w ⟨b50, b57, b73, k47, k54, k61, k66, k71, p46, p53, p60, p65, p70, S, hS, hw⟩
   refine S_val hS (.b (t := 4) rfl .nil) rfl rfl trivial (y_loadBA (hw.ownAt 3 rfl) rfl Tryz.isAgg31 Tryz.sizeOf31 rfl rfl) (rfl) 0 rfl fun a hS => ⟨b50, b57, b73, k47, k54, k61, k66, k71, p46, p53, p60, p65, p70, S, hS, hw⟩
  ·intro l hi hp hc a w ⟨b50, b57, b73, k47, k54, k61, k66, k71, p46, p53, p60, p65, p70, S, hS, hw⟩
   refine S_val hS (.b (t := 0) rfl .nil) rfl rfl trivial (y_move rfl) (rfl) 1 rfl fun a hS => ⟨b50, b57, b73, k47, k54, k61, k66, k71, p46, p53, p60, p65, p70, S, hS, hw⟩
  ·intro l hi hp hc a w ⟨b50, b57, b73, k47, k54, k61, k66, k71, p46, p53, p60, p65, p70, S, hS, hw⟩
   have h_7 := l_neg hc 7 hi rfl
   have h_11 := l_neg hc 11 h_7 rfl
   have h_13 := l_neg hc 13 h_11 rfl
   have h_15 := l_neg hc 15 h_13 rfl
   have hw := hw.fixR 1 (r' := .box b2 [.slice p27 rv26.2.L.length k28, .int .i64 rv26.2.At] 75) rfl ((bF h_15).trans ((bF h_13).trans ((bF h_11).trans ((bF h_7).trans ((bF hi))))))
   have h_1 := hp 1 rfl
   refine S_eff rfl ?_
   have hs := hS.open_ (.v (t := 22) 1 rfl h_1 .nil)
   refine st_callR hs (made_Dice_Next_ok h44 hw.dom (hw.ins [1] (by decide) rfl) (hw.envAt 0 rfl)) (do_call Tryz.call15 rfl) trivial rfl rfl ?_
   intro v110 Sv107 w a h108 h109 hs
   obtain ⟨p46, k47, rfl, h111, h48⟩ := h109
   have hw := hw.callO [1] [0, 2, 3, 4, 5, 6] (by decide) rfl h108 h111
   have hw := hw.addE (e := SlA p46 rv45.2.L.length k47 rv45.2.L) h48
   have hw := hw.fixR 0 (r' := (bif l 15 then .box b2 [.slice p70 rv69.2.L.length k71, .int .i64 rv69.2.At] 75 else (bif l 13 then .box b2 [.slice p65 rv64.2.L.length k66, .int .i64 rv64.2.At] 75 else (bif l 11 then .box b2 [.slice p60 rv59.2.L.length k61, .int .i64 rv59.2.At] 75 else (bif l 7 then .box b2 [.slice p53 rv52.2.L.length k54, .int .i64 rv52.2.At] 75 else .box b2 [.slice p46 rv45.2.L.length k47, .int .i64 rv45.2.At] 75))))) rfl ((bF h_15).trans ((bF h_13).trans ((bF h_11).trans ((bF h_7))))).symm
   have hw := hw.opt 0 rfl true
   refine nl ?_
   exact ⟨b50, b57, b73, k47, k54, k61, k66, k71, p46, p53, p60, p65, p70, Sv107, hS.close (.v (t := 22) 1 rfl h_1 .nil) hs rfl (.same (.same (.here (.same (.same (.same (.same (.same (.same (.same (.same (.same (.same (.same (.same (.same (.same (.same .nil)))))))))))))))))) 2 rfl, hw.ft [1, 0, 2, 3, 4, 5, 6] [2, 3, 4, 5, 6, 7, 8, 0, 10, 11, 12, 13, 14, 15, 16, 17] (by decide) rfl rfl⟩
  ·intro l hi hp hc a w ⟨b50, b57, b73, k47, k54, k61, k66, k71, p46, p53, p60, p65, p70, S, hS, hw⟩
   have h_2 := hp 2 rfl
   refine S_val hS (.v (t := 23) 2 rfl h_2 .nil) rfl rfl trivial (y_mul rfl rfl) (rfl) 3 rfl fun a hS => ⟨b50, b57, b73, k47, k54, k61, k66, k71, p46, p53, p60, p65, p70, S, hS, hw⟩
  ·intro l hi hp hc a w ⟨b50, b57, b73, k47, k54, k61, k66, k71, p46, p53, p60, p65, p70, S, hS, hw⟩
   have h_3 := hp 3 rfl
   refine S_val hS (.v (t := 24) 3 rfl h_3 .nil) rfl rfl trivial (y_add rfl rfl) (rfl) 4 rfl fun a hS => ⟨b50, b57, b73, k47, k54, k61, k66, k71, p46, p53, p60, p65, p70, S, hS, hw⟩
  ·intro l hi hp hc a w ⟨b50, b57, b73, k47, k54, k61, k66, k71, p46, p53, p60, p65, p70, S, hS, hw⟩
   refine S_val hS (.b (t := 0) rfl .nil) rfl rfl trivial (y_move rfl) (rfl) 5 rfl fun a hS => ⟨b50, b57, b73, k47, k54, k61, k66, k71, p46, p53, p60, p65, p70, S, hS, hw⟩
  ·intro l hi hp hc a w ⟨b50, b57, b73, k47, k54, k61, k66, k71, p46, p53, p60, p65, p70, S, hS, hw⟩
   refine S_eff rfl ?_
   have hs := hS.open_ .nil
   refine w_litSlice (α := Int) (vs := D16t3) (cs := D16t3) (xs := D16t4) hs hw El22 rfl rfl rfl rfl rfl rfl ⟨⟨_, rfl, rfl⟩, ⟨⟨_, rfl, rfl⟩, ⟨⟨_, rfl, rfl⟩, rfl⟩⟩⟩ rfl trivial rfl fun b50 a w hs hw => ?_
   have h_7 := l_neg hc 7 hi rfl
   have hw := hw.fixR 0 (r' := (bif l 7 then emp else .row (some ⟨b50, 0, none⟩) ([0, 0, 3] : List Int).length ([0, 0, 3] : List Int).length [.int .i64 0, .int .i64 0, .int .i64 3] 3 1)) rfl ((bF h_7)).symm
   have hw := hw.opt 0 rfl true
   have hw := hw.noL h_7 (SlA (some ⟨b50, 0, none⟩) ([0, 0, 3] : List Int).length ([0, 0, 3] : List Int).length ([0, 0, 3] : List Int))
   refine nl ?_
   exact ⟨b50, b57, b73, k47, k54, k61, k66, k71, p46, p53, p60, p65, p70, S, hS.close .nil hs rfl (.same (.same (.same (.same (.same (.same (.here (.same (.same (.same (.same (.same (.same (.same (.same (.same (.same (.same .nil)))))))))))))))))) 6 rfl, hw.ft [1, 2, 3, 4, 0, 6, 7] [3, 4, 5, 6, 7, 8, 9, 10, 1, 0, 13, 14, 15, 16, 17, 18] (by decide) rfl rfl⟩
  ·intro l hi hp hc a w ⟨b50, b57, b73, k47, k54, k61, k66, k71, p46, p53, p60, p65, p70, S, hS, hw⟩
   have h_11 := l_neg hc 11 hi rfl
   have h_13 := l_neg hc 13 h_11 rfl
   have h_15 := l_neg hc 15 h_13 rfl
   have h_2 := hp 2 rfl
   have hw := hw.fixR 1 (r' := .box b2 [.slice p46 rv45.2.L.length k47, .int .i64 rv45.2.At] 75) rfl ((bF h_15).trans ((bF h_13).trans ((bF h_11).trans ((bF hi).trans ((bT h_2))))))
   have h_6 := hp 6 rfl
   have hw := hw.fixR 4 (r' := .row (some ⟨b50, 0, none⟩) ([0, 0, 3] : List Int).length ([0, 0, 3] : List Int).length [.int .i64 0, .int .i64 0, .int .i64 3] 3 1) rfl ((bF hi).trans ((bT h_6)))
   have hw := hw.yes 7 rfl h_2
   have hw := hw.yes 9 rfl h_6
   have h_5 := hp 5 rfl
   refine S_eff rfl ?_
   have hs := hS.open_ (.v (t := 26) 5 rfl h_5 (.v (t := 27) 6 rfl h_6 .nil))
   obtain ⟨Sv118, hw⟩ := w_share (α := Int) hw 4 rfl 0 rfl
   refine st_callR hs (made_Dice_Pick_ok h51 hw.dom (hw.ins [1] (by decide) rfl) (hw.envAt 2 rfl) (hw.envAt 0 rfl)) (do_call Tryz.call47 rfl) trivial rfl rfl ?_
   intro v122 Sv119 w a h120 h121 hs
   obtain ⟨p53, k54, rfl, h123, h55⟩ := h121
   have hw := hw.callO [1] [0, 2, 3, 4, 5] (by decide) rfl h120 h123
   have hw := hw.addE (e := SlA p53 rv52.2.L.length k54 rv52.2.L) h55
   have hw := hw.fixR 0 (r' := (bif l 15 then .box b2 [.slice p70 rv69.2.L.length k71, .int .i64 rv69.2.At] 75 else (bif l 13 then .box b2 [.slice p65 rv64.2.L.length k66, .int .i64 rv64.2.At] 75 else (bif l 11 then .box b2 [.slice p60 rv59.2.L.length k61, .int .i64 rv59.2.At] 75 else .box b2 [.slice p53 rv52.2.L.length k54, .int .i64 rv52.2.At] 75)))) rfl ((bF h_15).trans ((bF h_13).trans ((bF h_11)))).symm
   have hw := hw.emp
   have hw := hw.opt 1 rfl true
   have hw := hw.opt 1 rfl true
   refine nl ?_
   exact ⟨b50, b57, b73, k47, k54, k61, k66, k71, p46, p53, p60, p65, p70, Sv119, hS.close (.v (t := 26) 5 rfl h_5 (.v (t := 27) 6 rfl h_6 .nil)) hs rfl (.same (.same (.same (.same (.same (.same (.same (.here (.same (.same (.same (.same (.same (.same (.same (.same (.same (.same .nil)))))))))))))))))) 7 rfl, hw.ft [2, 1, 3, 4, 0, 5, 6] [6, 7, 8, 9, 10, 11, 12, 13, 14, 1, 0, 17, 18, 19, 20, 21] (by decide) rfl rfl⟩
  ·intro l hi hp hc a w ⟨b50, b57, b73, k47, k54, k61, k66, k71, p46, p53, p60, p65, p70, S, hS, hw⟩
   refine S_val hS (.b (t := 7) rfl .nil) rfl rfl trivial (y_loadBA (hw.ownAt 0 rfl) rfl Tryz.isAgg33 Tryz.sizeOf33 rfl rfl) (rfl) 8 rfl fun a hS => ⟨b50, b57, b73, k47, k54, k61, k66, k71, p46, p53, p60, p65, p70, S, hS, hw⟩
  ·intro l hi hp hc a w ⟨b50, b57, b73, k47, k54, k61, k66, k71, p46, p53, p60, p65, p70, S, hS, hw⟩
   refine S_val hS (.b (t := 0) rfl .nil) rfl rfl trivial (y_move rfl) (rfl) 9 rfl fun a hS => ⟨b50, b57, b73, k47, k54, k61, k66, k71, p46, p53, p60, p65, p70, S, hS, hw⟩
  ·intro l hi hp hc a w ⟨b50, b57, b73, k47, k54, k61, k66, k71, p46, p53, p60, p65, p70, S, hS, hw⟩
   refine S_eff rfl ?_
   have hs := hS.open_ .nil
   refine w_litSlice (α := Int) (vs := D16t5) (cs := D16t5) (xs := D16t6) hs hw El22 rfl rfl rfl rfl rfl rfl ⟨⟨_, rfl, rfl⟩, ⟨⟨_, rfl, rfl⟩, ⟨⟨_, rfl, rfl⟩, ⟨⟨_, rfl, rfl⟩, rfl⟩⟩⟩⟩ rfl trivial rfl fun b57 a w hs hw => ?_
   have h_11 := l_neg hc 11 hi rfl
   have hw := hw.fixR 0 (r' := (bif l 11 then emp else .row (some ⟨b57, 0, none⟩) ([0, 0, 10, 500] : List Int).length ([0, 0, 10, 500] : List Int).length [.int .i64 0, .int .i64 0, .int .i64 10, .int .i64 500] 3 1)) rfl ((bF h_11)).symm
   have hw := hw.opt 0 rfl true
   have hw := hw.noL h_11 (SlA (some ⟨b57, 0, none⟩) ([0, 0, 10, 500] : List Int).length ([0, 0, 10, 500] : List Int).length ([0, 0, 10, 500] : List Int))
   refine nl ?_
   exact ⟨b50, b57, b73, k47, k54, k61, k66, k71, p46, p53, p60, p65, p70, S, hS.close .nil hs rfl (.same (.same (.same (.same (.same (.same (.same (.same (.same (.same (.here (.same (.same (.same (.same (.same (.same (.same .nil)))))))))))))))))) 10 rfl, hw.ft [1, 2, 3, 4, 5, 0, 7] [3, 4, 5, 6, 7, 8, 9, 10, 11, 12, 13, 1, 0, 16, 17, 18] (by decide) rfl rfl⟩
  ·intro l hi hp hc a w ⟨b50, b57, b73, k47, k54, k61, k66, k71, p46, p53, p60, p65, p70, S, hS, hw⟩
   have h_13 := l_neg hc 13 hi rfl
   have h_15 := l_neg hc 15 h_13 rfl
   have h_7 := hp 7 rfl
   have hw := hw.fixR 1 (r' := .box b2 [.slice p53 rv52.2.L.length k54, .int .i64 rv52.2.At] 75) rfl ((bF h_15).trans ((bF h_13).trans ((bF hi).trans ((bT h_7)))))
   have h_10 := hp 10 rfl
   have hw := hw.fixR 5 (r' := .row (some ⟨b57, 0, none⟩) ([0, 0, 10, 500] : List Int).length ([0, 0, 10, 500] : List Int).length [.int .i64 0, .int .i64 0, .int .i64 10, .int .i64 500] 3 1) rfl ((bF hi).trans ((bT h_10)))
   have hw := hw.yes 10 rfl h_7
   have hw := hw.yes 12 rfl h_10
   have h_9 := hp 9 rfl
   refine S_eff rfl ?_
   have hs := hS.open_ (.v (t := 30) 9 rfl h_9 (.v (t := 31) 10 rfl h_10 .nil))
   obtain ⟨Sv130, hw⟩ := w_share (α := Int) hw 5 rfl 0 rfl
   refine st_callR hs (made_Dice_Pick_ok h58 hw.dom (hw.ins [1] (by decide) rfl) (hw.envAt 2 rfl) (hw.envAt 0 rfl)) (do_call Tryz.call47 rfl) trivial rfl rfl ?_
   intro v134 Sv131 w a h132 h133 hs
   obtain ⟨p60, k61, rfl, h135, h62⟩ := h133
   have hw := hw.callO [1] [0, 2, 3, 4, 5] (by decide) rfl h132 h135
   have hw := hw.addE (e := SlA p60 rv59.2.L.length k61 rv59.2.L) h62
   have hw := hw.fixR 0 (r' := (bif l 15 then .box b2 [.slice p70 rv69.2.L.length k71, .int .i64 rv69.2.At] 75 else (bif l 13 then .box b2 [.slice p65 rv64.2.L.length k66, .int .i64 rv64.2.At] 75 else .box b2 [.slice p60 rv59.2.L.length k61, .int .i64 rv59.2.At] 75))) rfl ((bF h_15).trans ((bF h_13))).symm
   have hw := hw.emp
   have hw := hw.opt 1 rfl true
   have hw := hw.opt 1 rfl true
   refine nl ?_
   exact ⟨b50, b57, b73, k47, k54, k61, k66, k71, p46, p53, p60, p65, p70, Sv131, hS.close (.v (t := 30) 9 rfl h_9 (.v (t := 31) 10 rfl h_10 .nil)) hs rfl (.same (.same (.same (.same (.same (.same (.same (.same (.same (.same (.same (.here (.same (.same (.same (.same (.same (.same .nil)))))))))))))))))) 11 rfl, hw.ft [2, 1, 3, 4, 5, 0, 6] [6, 7, 8, 9, 10, 11, 12, 13, 14, 15, 16, 17, 1, 0, 20, 21] (by decide) rfl rfl⟩
  ·intro l hi hp hc a w ⟨b50, b57, b73, k47, k54, k61, k66, k71, p46, p53, p60, p65, p70, S, hS, hw⟩
   refine S_val hS (.b (t := 0) rfl .nil) rfl rfl trivial (y_move rfl) (rfl) 12 rfl fun a hS => ⟨b50, b57, b73, k47, k54, k61, k66, k71, p46, p53, p60, p65, p70, S, hS, hw⟩
  ·intro l hi hp hc a w ⟨b50, b57, b73, k47, k54, k61, k66, k71, p46, p53, p60, p65, p70, S, hS, hw⟩
   have h_15 := l_neg hc 15 hi rfl
   have h_11 := hp 11 rfl
   have hw := hw.fixR 1 (r' := .box b2 [.slice p60 rv59.2.L.length k61, .int .i64 rv59.2.At] 75) rfl ((bF h_15).trans ((bF hi).trans ((bT h_11))))
   have hw := hw.yes 13 rfl h_11
   have h_12 := hp 12 rfl
   refine S_eff rfl ?_
   have hs := hS.open_ (.v (t := 33) 12 rfl h_12 .nil)
   refine st_callR hs (made_Dice_Next_ok h63 hw.dom (hw.ins [1] (by decide) rfl) (hw.envAt 0 rfl)) (do_call Tryz.call15 rfl) trivial rfl rfl ?_
   intro v144 Sv141 w a h142 h143 hs
   obtain ⟨p65, k66, rfl, h145, h67⟩ := h143
   have hw := hw.callO [1] [0, 2, 3, 4, 5, 6] (by decide) rfl h142 h145
   have hw := hw.addE (e := SlA p65 rv64.2.L.length k66 rv64.2.L) h67
   have hw := hw.fixR 0 (r' := (bif l 15 then .box b2 [.slice p70 rv69.2.L.length k71, .int .i64 rv69.2.At] 75 else .box b2 [.slice p65 rv64.2.L.length k66, .int .i64 rv64.2.At] 75)) rfl ((bF h_15)).symm
   have hw := hw.opt 0 rfl true
   refine nl ?_
   exact ⟨b50, b57, b73, k47, k54, k61, k66, k71, p46, p53, p60, p65, p70, Sv141, hS.close (.v (t := 33) 12 rfl h_12 .nil) hs rfl (.same (.same (.same (.same (.same (.same (.same (.same (.same (.same (.same (.same (.same (.here (.same (.same (.same (.same .nil)))))))))))))))))) 13 rfl, hw.ft [1, 0, 2, 3, 4, 5, 6] [3, 4, 5, 6, 7, 8, 9, 10, 11, 12, 13, 14, 15, 16, 0, 18] (by decide) rfl rfl⟩
  ·intro l hi hp hc a w ⟨b50, b57, b73, k47, k54, k61, k66, k71, p46, p53, p60, p65, p70, S, hS, hw⟩
   refine S_val hS (.b (t := 0) rfl .nil) rfl rfl trivial (y_move rfl) (rfl) 14 rfl fun a hS => ⟨b50, b57, b73, k47, k54, k61, k66, k71, p46, p53, p60, p65, p70, S, hS, hw⟩
  ·intro l hi hp hc a w ⟨b50, b57, b73, k47, k54, k61, k66, k71, p46, p53, p60, p65, p70, S, hS, hw⟩
   have h_13 := hp 13 rfl
   have hw := hw.fixR 1 (r' := .box b2 [.slice p65 rv64.2.L.length k66, .int .i64 rv64.2.At] 75) rfl ((bF hi).trans ((bT h_13)))
   have hw := hw.yes 14 rfl h_13
   have h_14 := hp 14 rfl
   refine S_eff rfl ?_
   have hs := hS.open_ (.v (t := 35) 14 rfl h_14 .nil)
   refine st_callR hs (made_Dice_Next_ok h68 hw.dom (hw.ins [1] (by decide) rfl) (hw.envAt 0 rfl)) (do_call Tryz.call15 rfl) trivial rfl rfl ?_
   intro v154 Sv151 w a h152 h153 hs
   obtain ⟨p70, k71, rfl, h155, h72⟩ := h153
   have hw := hw.callO [1] [0, 2, 3, 4, 5, 6] (by decide) rfl h152 h155
   have hw := hw.addE (e := SlA p70 rv69.2.L.length k71 rv69.2.L) h72
   have hw := hw.opt 0 rfl true
   refine nl ?_
   exact ⟨b50, b57, b73, k47, k54, k61, k66, k71, p46, p53, p60, p65, p70, Sv151, hS.close (.v (t := 35) 14 rfl h_14 .nil) hs rfl (.same (.same (.same (.same (.same (.same (.same (.same (.same (.same (.same (.same (.same (.same (.same (.here (.same (.same .nil)))))))))))))))))) 15 rfl, hw.ft [1, 0, 2, 3, 4, 5, 6] [3, 4, 5, 6, 7, 8, 9, 10, 11, 12, 13, 14, 15, 16, 17, 0] (by decide) rfl rfl⟩
  ·intro l hi hp hc a w ⟨b50, b57, b73, k47, k54, k61, k66, k71, p46, p53, p60, p65, p70, S, hS, hw⟩
   have h_15 := hp 15 rfl
   have h_13 := hp 13 rfl
   have h_11 := hp 11 rfl
   have h_8 := hp 8 rfl
   have h_7 := hp 7 rfl
   have h_4 := hp 4 rfl
   have h_0 := hp 0 rfl
   refine S_val hS (.v (t := 21) 0 rfl h_0 (.v (t := 25) 4 rfl h_4 (.v (t := 28) 7 rfl h_7 (.v (t := 29) 8 rfl h_8 (.v (t := 32) 11 rfl h_11 (.v (t := 34) 13 rfl h_13 (.v (t := 36) 15 rfl h_15 .nil))))))) rfl rfl trivial (y_build (vs := [(0, .agg #[.string s6.Network, .string s6.Station, .string s6.Location, .string s6.Channel]), (1, .int .i64 (w64 (1000000000000 + (w64 (250000 * rv45.1))))), (2, .int .i64 rv52.1), (3, .agg #[.int .i64 rv37.1.Num, .int .i64 rv37.1.Den]), (4, .int .i64 rv59.1), (5, .int .i64 rv64.1), (6, .int .i64 rv69.1)]) Bld35 rfl rfl) (rfl) 16 rfl fun a hS => ⟨b50, b57, b73, k47, k54, k61, k66, k71, p46, p53, p60, p65, p70, S, hS, hw⟩
  ·intro l hi hp hc a w ⟨b50, b57, b73, k47, k54, k61, k66, k71, p46, p53, p60, p65, p70, S, hS, hw⟩
   refine S_eff rfl ?_
   have hs := hS.open_ .nil
   refine w_alloc (cs := [.string ByteArray.empty, .string ByteArray.empty, .string ByteArray.empty, .string ByteArray.empty, .int .i64 0, .int .i64 0, .int .i64 0, .int .i64 0, .int .i64 0, .int .i64 0, .int .i64 0, .slice none ([] : List Int).length 0]) hs hw Tryz.zeroValue35 rfl rfl trivial ?_
   intro b73 a w hs hw
   have h_18 := l_neg hc 18 hi rfl
   have hw := hw.fixR 0 (r' := (bif l 18 then .box b73 [.string s6.Network, .string s6.Station, .string s6.Location, .string s6.Channel, .int .i64 (w64 (1000000000000 + (w64 (250000 * rv45.1)))), .int .i64 rv52.1, .int .i64 rv37.1.Num, .int .i64 rv37.1.Den, .int .i64 rv59.1, .int .i64 rv64.1, .int .i64 rv69.1, .slice none ([] : List Int).length 0] 35 else .box b73 [.string ByteArray.empty, .string ByteArray.empty, .string ByteArray.empty, .string ByteArray.empty, .int .i64 0, .int .i64 0, .int .i64 0, .int .i64 0, .int .i64 0, .int .i64 0, .int .i64 0, .slice none ([] : List Int).length 0] 35)) rfl ((bF h_18)).symm
   refine nl ?_
   exact ⟨b50, b57, b73, k47, k54, k61, k66, k71, p46, p53, p60, p65, p70, S, hS.close .nil hs rfl (.same (.same (.same (.same (.same (.same (.same (.same (.same (.same (.same (.same (.same (.same (.same (.same (.same (.here .nil)))))))))))))))))) 17 rfl, hw.ft [1, 2, 3, 4, 5, 6, 0] [0, 1, 2, 3, 4, 5, 6, 7, 8, 9, 10, 11, 12, 13, 14, 15] (by decide) rfl rfl⟩
  ·intro l hi hp hc a w ⟨b50, b57, b73, k47, k54, k61, k66, k71, p46, p53, p60, p65, p70, S, hS, hw⟩
   have h_17 := hp 17 rfl
   have hw := hw.fixR 6 (r' := .box b73 [.string ByteArray.empty, .string ByteArray.empty, .string ByteArray.empty, .string ByteArray.empty, .int .i64 0, .int .i64 0, .int .i64 0, .int .i64 0, .int .i64 0, .int .i64 0, .int .i64 0, .slice none ([] : List Int).length 0] 35) rfl ((bF hi).trans ((bT h_17)))
   have h_16 := hp 16 rfl
   refine S_eff rfl ?_
   have hs := hS.open_ (.v (t := 9) 17 rfl h_17 (.v (t := 37) 16 rfl h_16 .nil))
   refine w_store (m := 12) (cs' := [.string s6.Network, .string s6.Station, .string s6.Location, .string s6.Channel, .int .i64 (w64 (1000000000000 + (w64 (250000 * rv45.1)))), .int .i64 rv52.1, .int .i64 rv37.1.Num, .int .i64 rv37.1.Den, .int .i64 rv59.1, .int .i64 rv64.1, .int .i64 rv69.1, .slice none ([] : List Int).length 0]) hs hw 6 rfl rfl rfl Tryz.sizeOf35 rfl rfl rfl rfl trivial ?_
   intro a w hs hw
   refine nl ?_
   exact ⟨b50, b57, b73, k47, k54, k61, k66, k71, p46, p53, p60, p65, p70, S, hS.close0 (.v (t := 9) 17 rfl h_17 (.v (t := 37) 16 rfl h_16 .nil)) hs rfl, hw.ft [0, 1, 2, 3, 4, 5, 6] [0, 1, 2, 3, 4, 5, 6, 7, 8, 9, 10, 11, 12, 13, 14, 15] (by decide) rfl rfl⟩
  intro l a w hl ⟨b50, b57, b73, k47, k54, k61, k66, k71, p46, p53, p60, p65, p70, S, hS, hw⟩
  have hw := hw.yes 15 rfl (hl 15 (by decide))
  have hw := hw.fixR 1 (r' := .box b2 [.slice p70 rv69.2.L.length k71, .int .i64 rv69.2.At] 75) rfl (bT (hl 15 (by decide)))
  have hw := hw.fixR 6 (r' := .box b73 [.string s6.Network, .string s6.Station, .string s6.Location, .string s6.Channel, .int .i64 (w64 (1000000000000 + (w64 (250000 * rv45.1)))), .int .i64 rv52.1, .int .i64 rv37.1.Num, .int .i64 rv37.1.Den, .int .i64 rv59.1, .int .i64 rv64.1, .int .i64 rv69.1, .slice none ([] : List Int).length 0] 35) rfl (bT (hl 18 (by decide)))
  have hs := hS.on (.b (t := 0) rfl (.b (t := 2) rfl (.b (t := 6) rfl (.v (t := 9) 17 rfl (hl 17 (by decide)) .nil))))
  have hw := hw.addE (e := SlA (α := Int) none 0 0 []) nil_sl
  exact ⟨S, b73, k71, p70, (hs.wk rfl), (hw.ft [1, 2, 6] [1, 0] (by decide) rfl rfl)⟩
 rintro a w ⟨Sv74, b73, k71, p70, hs, hw⟩
 refine then_normal ?_
 refine wp_seq ?_
 refine sr ?_
 refine mv hs rfl rfl fun a hs => ?_
 refine mv hs rfl rfl fun a hs => ?_
 obtain ⟨rv157, h156, hsh⟩ := bind_t hsh
 refine st_callR hs (made_Dice_Next_ok h156 hw.dom (hw.ins [0] (by decide) rfl) (hw.envAt 0 rfl)) (do_call Tryz.call15 rfl) trivial rfl rfl ?_
 intro v164 Sv161 w a h162 h163 hs
 obtain ⟨p158, k159, rfl, h165, h160⟩ := h163
 have hw := hw.callO [0] [1, 2] (by decide) rfl h162 h165
 have hw := hw.addE (e := SlA p158 rv157.2.L.length k159 rv157.2.L) h160
 refine sv hs (y_add rfl rfl) rfl fun a hs => ?_
 obtain ⟨i167, h166, hsh⟩ := bind_t hsh
 refine sv hs (y_assignI rfl h166) rfl fun a hs => ?_
 refine nl ?_
 obtain ⟨e232, h280, hsh⟩ := bind_t hsh
 refine wp_join (fun a w => ∃ (p233 : Option Addr) (k234 : Nat) (c235 : List Value) (p236 : Option Addr) (k237 : Nat) (Sv238 : Nat → Prop), Sl 54 [(6, .pointer (some ⟨b9, 0, none⟩)), (9, .pointer (some ⟨b73, 0, none⟩))] a ∧ Wd ⟨w0, S0, blks [.box b2 [.slice p3 d1.L.length k4, .int .i64 d1.At] 75]⟩ Sv238 [.box b2 [.slice p233 e232.1.length k234, .int .i64 e232.2.1] 75, .box b9 [.string ByteArray.empty, .string ByteArray.empty, .string ByteArray.empty, .string ByteArray.empty, .int .i64 0, .int .i64 0, .int .i64 0, .int .i64 0, .int .i64 0, .int .i64 0, .int .i64 0, .slice none ([] : List Int).length 0] 35, .box b73 [.string s6.Network, .string s6.Station, .string s6.Location, .string s6.Channel, .int .i64 (w64 (1000000000000 + (w64 (250000 * rv45.1)))), .int .i64 rv52.1, .int .i64 rv37.1.Num, .int .i64 rv37.1.Den, .int .i64 rv59.1, .int .i64 rv64.1, .int .i64 rv69.1, .slice p236 e232.2.2.length k237] 35, .row p236 e232.2.2.length k237 c235 3 1] [SlA p233 e232.1.length k234 e232.1, SlA none ([] : List Int).length 0 ([] : List Int), RowA c235 e232.2.2] w) ?_ ?_
 ·refine wp_block ?_
  have hw := hw.nilRow Int 3
  refine wp_while (fun sv168 a w => ∃ (p207 : Option Addr) (k208 : Nat) (c209 : List Value) (p210 : Option Addr) (k211 : Nat) (Sv212 : Nat → Prop), Sl 54 [(0, .pointer (some ⟨b2, 0, none⟩)), (6, .pointer (some ⟨b9, 0, none⟩)), (9, .pointer (some ⟨b73, 0, none⟩)), (10, .int .i64 sv168.2.2.2)] a ∧ Wd ⟨w0, S0, blks [.box b2 [.slice p3 d1.L.length k4, .int .i64 d1.At] 75]⟩ Sv212 [.box b2 [.slice p207 sv168.1.length k208, .int .i64 sv168.2.1] 75, .box b9 [.string ByteArray.empty, .string ByteArray.empty, .string ByteArray.empty, .string ByteArray.empty, .int .i64 0, .int .i64 0, .int .i64 0, .int .i64 0, .int .i64 0, .int .i64 0, .int .i64 0, .slice none ([] : List Int).length 0] 35, .box b73 [.string s6.Network, .string s6.Station, .string s6.Location, .string s6.Channel, .int .i64 (w64 (1000000000000 + (w64 (250000 * rv45.1)))), .int .i64 rv52.1, .int .i64 rv37.1.Num, .int .i64 rv37.1.Den, .int .i64 rv59.1, .int .i64 rv64.1, .int .i64 rv69.1, .slice p210 sv168.2.2.1.length k211] 35, .row p210 sv168.2.2.1.length k211 c209 3 1] [SlA p207 sv168.1.length k208 sv168.1, SlA none ([] : List Int).length 0 ([] : List Int), RowA c209 sv168.2.2.1] w) (rv157.2.L, rv157.2.At, ([] : List Int), i167) h280 ⟨p158, k159, [], none, 0, Sv161, (hs.wk rfl), (hw.ft [1, 2, 3, 0] [1, 3, 0] (by decide) rfl rfl)⟩ ?_
  clear h280
  repeat clear hsh
  rintro sv168 a w tv230 ⟨p207, k208, c209, p210, k211, Sv212, hs, hw⟩ hsh hd229
  delta made_Dice_Record_l1 at hsh
  refine wp_seq ?_
  refine sr ?_
  refine mv hs rfl rfl fun a hs => ?_
  refine sv hs (y_gtr rfl rfl) rfl fun a hs => ?_
  refine nl ?_
  refine wp_cond_split (hs.ev rfl) (fun h240 => ?_) (fun h240 => ?_)
  ·have hsh := ite_t hsh h240
   refine wp_skip ?_
   refine then_normal ?_
   refine wp_seq ?_
   refine wp_block ?_
   obtain ⟨rv255, h254, hsh⟩ := bind_t hsh
   obtain ⟨l262, h261, hsh⟩ := bind_t hsh
   refine wp_only (fun a w => ∃ (Sv266 : Nat → Prop) (c265 : List Value) (k257 : Nat) (k264 : Nat) (p256 : Option Addr) (p263 : Option Addr), Sl 54 [(0, .pointer (some ⟨b2, 0, none⟩)), (6, .pointer (some ⟨b9, 0, none⟩)), (9, .pointer (some ⟨b73, 0, none⟩)), (10, .int .i64 sv168.2.2.2)] a ∧ Wd ⟨w0, S0, blks [.box b2 [.slice p3 d1.L.length k4, .int .i64 d1.At] 75]⟩ Sv266 [.box b2 [.slice p256 rv255.2.L.length k257, .int .i64 rv255.2.At] 75, .box b9 [.string ByteArray.empty, .string ByteArray.empty, .string ByteArray.empty, .string ByteArray.empty, .int .i64 0, .int .i64 0, .int .i64 0, .int .i64 0, .int .i64 0, .int .i64 0, .int .i64 0, .slice none ([] : List Int).length 0] 35, .box b73 [.string s6.Network, .string s6.Station, .string s6.Location, .string s6.Channel, .int .i64 (w64 (1000000000000 + (w64 (250000 * rv45.1)))), .int .i64 rv52.1, .int .i64 rv37.1.Num, .int .i64 rv37.1.Den, .int .i64 rv59.1, .int .i64 rv64.1, .int .i64 rv69.1, .slice p263 l262.length k264] 35, .row p263 l262.length k264 c265 3 1] [SlA p256 rv255.2.L.length k257 rv255.2.L, SlA none ([] : List Int).length 0 ([] : List Int), RowA c265 l262] w) ?_ ?_
   ·refine h_b (C := Cls [.box b9 [.string ByteArray.empty, .string ByteArray.empty, .string ByteArray.empty, .string ByteArray.empty, .int .i64 0, .int .i64 0, .int .i64 0, .int .i64 0, .int .i64 0, .int .i64 0, .int .i64 0, .slice none ([] : List Int).length 0] 35] []) (by kernel_rfl) rfl (hw.drew.cs [1] [] rfl rfl) fun hC => ?_
    have hw := hw.drew
    refine gv hs 0 rfl rfl hC (fun w hC => y_fieldAddr (o' := 11) Tryz.runUnderlying35 rfl Tryz.sizeOf22 rfl rfl rfl) fun a hs => ?_
    refine gm hs 2 rfl rfl rfl hC fun a hs => ?_
    refine h_all (rs := [1, 3]) (by kernel_rfl) rfl ?_
    refine AllH.cons rfl ?_ ?_
    ·refine sv hs (y_loadB1 (hw.ownAt 2 rfl) rfl Tryz.isAgg22 rfl) rfl fun a hs => ?_
     refine h_nx (hw.cs [1] [] rfl rfl) fun hC => ?_
     refine ho 3 rfl ?_
     refine st_callR hs (made_Dice_Next_ok h254 hw.dom (hw.ins [0] (by decide) rfl) (hw.envAt 0 rfl)) (do_call Tryz.call15 rfl) trivial rfl rfl ?_
     intro v270 Sv267 w a h268 h269 hs
     obtain ⟨p256, k257, rfl, h271, h258⟩ := h269
     have hw := hw.callO [0] [1, 2, 3] (by decide) rfl h268 h271
     have hw := hw.addE (e := SlA p256 rv255.2.L.length k257 rv255.2.L) h258
     refine h_nx (hw.cs [1] [] rfl rfl) fun hC => ?_
     refine ho 4 rfl ?_
     refine w_litSlice (α := Int) (vs := [.int .i64 rv255.1]) (cs := [.int .i64 rv255.1]) (xs := ([rv255.1] : List Int)) hs hw El22 rfl rfl rfl rfl rfl rfl ⟨⟨_, rfl, rfl⟩, rfl⟩ rfl trivial rfl fun b260 a w hs hw => ?_
     refine h_nx (hw.cs [2] [] rfl rfl) fun hC => ?_
     refine h_st (C' := Cls [.box b9 [.string ByteArray.empty, .string ByteArray.empty, .string ByteArray.empty, .string ByteArray.empty, .int .i64 0, .int .i64 0, .int .i64 0, .int .i64 0, .int .i64 0, .int .i64 0, .int .i64 0, .slice none ([] : List Int).length 0] 35, .row (some ⟨b260, 0, none⟩) ([rv255.1] : List Int).length ([rv255.1] : List Int).length [.int .i64 rv255.1] 3 1] []) (fun _ h => by exact h.sub [0] (Sel.of rfl) (AllIn.of [] rfl)) (hw.cs [2, 0] [] rfl rfl) fun hC => ?_
     refine ho 5 rfl ?_
     refine w_appendR (α := Int) hs hw El22 4 rfl rfl rfl 4 rfl 0 rfl 0 rfl h261 rfl trivial ?_
     intro p263 k264 c265 a w hs hw
     refine h_nx (hw.cs [2, 0] [] rfl rfl) fun hC => ?_
     refine gv hs 6 rfl rfl hC (fun w hC => y_fieldAddr (o' := 11) Tryz.runUnderlying35 rfl Tryz.sizeOf22 rfl rfl rfl) fun a hs => ?_
     refine ho 7 rfl ?_
     refine w_store (m := 1) (cs' := [.string s6.Network, .string s6.Station, .string s6.Location, .string s6.Channel, .int .i64 (w64 (1000000000000 + (w64 (250000 * rv45.1)))), .int .i64 rv52.1, .int .i64 rv37.1.Num, .int .i64 rv37.1.Den, .int .i64 rv59.1, .int .i64 rv64.1, .int .i64 rv69.1, .slice p263 l262.length k264]) hs hw 3 rfl rfl rfl Tryz.sizeOf22 rfl rfl rfl rfl trivial ?_
     intro a w hs hw
     refine h_nx (hw.cs [2, 0] [] rfl rfl) fun hC => ?_
     refine h_done (by kernel_rfl) ?_
     exact ⟨Sv267, c265, k257, k264, p256, p263, (hs.wk rfl), (hw.ft [1, 2, 3, 4] [2, 4, 0] (by decide) rfl rfl)⟩
    refine AllH.cons rfl ?_ ?_
    ·refine st_callR hs (made_Dice_Next_ok h254 hw.dom (hw.ins [0] (by decide) rfl) (hw.envAt 0 rfl)) (do_call Tryz.call15 rfl) trivial rfl rfl ?_
     intro v275 Sv272 w a h273 h274 hs
     obtain ⟨p256, k257, rfl, h276, h258⟩ := h274
     have hw := hw.callO [0] [1, 2, 3] (by decide) rfl h273 h276
     have hw := hw.addE (e := SlA p256 rv255.2.L.length k257 rv255.2.L) h258
     refine h_nx (hw.cs [1] [] rfl rfl) fun hC => ?_
     refine h_all (rs := [1, 4]) (by kernel_rfl) rfl ?_
     refine AllH.cons rfl ?_ ?_
     ·refine sv hs (y_loadB1 (hw.ownAt 2 rfl) rfl Tryz.isAgg22 rfl) rfl fun a hs => ?_
      refine h_nx (hw.cs [1] [] rfl rfl) fun hC => ?_
      refine ho 4 rfl ?_
      refine w_litSlice (α := Int) (vs := [.int .i64 rv255.1]) (cs := [.int .i64 rv255.1]) (xs := ([rv255.1] : List Int)) hs hw El22 rfl rfl rfl rfl rfl rfl ⟨⟨_, rfl, rfl⟩, rfl⟩ rfl trivial rfl fun b260 a w hs hw => ?_
      refine h_nx (hw.cs [2] [] rfl rfl) fun hC => ?_
      refine h_st (C' := Cls [.box b9 [.string ByteArray.empty, .string ByteArray.empty, .string ByteArray.empty, .string ByteArray.empty, .int .i64 0, .int .i64 0, .int .i64 0, .int .i64 0, .int .i64 0, .int .i64 0, .int .i64 0, .slice none ([] : List Int).length 0] 35, .row (some ⟨b260, 0, none⟩) ([rv255.1] : List Int).length ([rv255.1] : List Int).length [.int .i64 rv255.1] 3 1] []) (fun _ h => by exact h.sub [0] (Sel.of rfl) (AllIn.of [] rfl)) (hw.cs [2, 0] [] rfl rfl) fun hC => ?_
      refine ho 5 rfl ?_
      refine w_appendR (α := Int) hs hw El22 4 rfl rfl rfl 4 rfl 0 rfl 0 rfl h261 rfl trivial ?_
      intro p263 k264 c265 a w hs hw
      refine h_nx (hw.cs [2, 0] [] rfl rfl) fun hC => ?_
      refine gv hs 6 rfl rfl hC (fun w hC => y_fieldAddr (o' := 11) Tryz.runUnderlying35 rfl Tryz.sizeOf22 rfl rfl rfl) fun a hs => ?_
      refine ho 7 rfl ?_
      refine w_store (m := 1) (cs' := [.string s6.Network, .string s6.Station, .string s6.Location, .string s6.Channel, .int .i64 (w64 (1000000000000 + (w64 (250000 * rv45.1)))), .int .i64 rv52.1, .int .i64 rv37.1.Num, .int .i64 rv37.1.Den, .int .i64 rv59.1, .int .i64 rv64.1, .int .i64 rv69.1, .slice p263 l262.length k264]) hs hw 3 rfl rfl rfl Tryz.sizeOf22 rfl rfl rfl rfl trivial ?_
      intro a w hs hw
      refine h_nx (hw.cs [2, 0] [] rfl rfl) fun hC => ?_
      refine h_done (by kernel_rfl) ?_
      exact ⟨Sv272, c265, k257, k264, p256, p263, (hs.wk rfl), (hw.ft [1, 2, 3, 4] [2, 4, 0] (by decide) rfl rfl)⟩
     refine AllH.cons rfl ?_ ?_
     ·refine w_litSlice (α := Int) (vs := [.int .i64 rv255.1]) (cs := [.int .i64 rv255.1]) (xs := ([rv255.1] : List Int)) hs hw El22 rfl rfl rfl rfl rfl rfl ⟨⟨_, rfl, rfl⟩, rfl⟩ rfl trivial rfl fun b260 a w hs hw => ?_
      refine h_nx (hw.cs [2] [] rfl rfl) fun hC => ?_
      refine h_st (C' := Cls [.box b9 [.string ByteArray.empty, .string ByteArray.empty, .string ByteArray.empty, .string ByteArray.empty, .int .i64 0, .int .i64 0, .int .i64 0, .int .i64 0, .int .i64 0, .int .i64 0, .int .i64 0, .slice none ([] : List Int).length 0] 35, .row (some ⟨b260, 0, none⟩) ([rv255.1] : List Int).length ([rv255.1] : List Int).length [.int .i64 rv255.1] 3 1] []) (fun _ h => by exact h.sub [0] (Sel.of rfl) (AllIn.of [] rfl)) (hw.cs [2, 0] [] rfl rfl) fun hC => ?_
      refine ho 1 rfl ?_
      refine sv hs (y_loadB1 (hw.ownAt 3 rfl) rfl Tryz.isAgg22 rfl) rfl fun a hs => ?_
      refine h_nx (hw.cs [2, 0] [] rfl rfl) fun hC => ?_
      refine ho 5 rfl ?_
      refine w_appendR (α := Int) hs hw El22 4 rfl rfl rfl 4 rfl 0 rfl 0 rfl h261 rfl trivial ?_
      intro p263 k264 c265 a w hs hw
      refine h_nx (hw.cs [2, 0] [] rfl rfl) fun hC => ?_
      refine gv hs 6 rfl rfl hC (fun w hC => y_fieldAddr (o' := 11) Tryz.runUnderlying35 rfl Tryz.sizeOf22 rfl rfl rfl) fun a hs => ?_
      refine ho 7 rfl ?_
      refine w_store (m := 1) (cs' := [.string s6.Network, .string s6.Station, .string s6.Location, .string s6.Channel, .int .i64 (w64 (1000000000000 + (w64 (250000 * rv45.1)))), .int .i64 rv52.1, .int .i64 rv37.1.Num, .int .i64 rv37.1.Den, .int .i64 rv59.1, .int .i64 rv64.1, .int .i64 rv69.1, .slice p263 l262.length k264]) hs hw 3 rfl rfl rfl Tryz.sizeOf22 rfl rfl rfl rfl trivial ?_
      intro a w hs hw
      refine h_nx (hw.cs [2, 0] [] rfl rfl) fun hC => ?_
      refine h_done (by kernel_rfl) ?_
      exact ⟨Sv272, c265, k257, k264, p256, p263, (hs.wk rfl), (hw.ft [1, 2, 3, 4] [2, 4, 0] (by decide) rfl rfl)⟩
     exact AllH.nil
    exact AllH.nil
   rintro a w ⟨Sv266, c265, k257, k264, p256, p263, hs, hw⟩
   refine blk_normal ?_
   refine then_normal ?_
   refine wp_region_lit ?_
   refine mv hs rfl rfl fun a hs => ?_
   refine sv hs (y_sub rfl rfl) rfl fun a hs => ?_
   obtain ⟨i278, h277, hsh⟩ := bind_t hsh
   refine sv hs (y_assignI rfl h277) rfl fun a hs => ?_
   refine nl ?_
   exact ⟨_, (Option.some.inj hsh).symm, p256, k257, c265, p263, k264, Sv266, (hs.wk rfl), (hw.ft [0, 1, 2, 3] [0, 1, 2] (by decide) rfl rfl)⟩
  have hsh := ite_f hsh h240
  refine wp_exit ?_
  refine then_exit ?_
  refine then_exit ?_
  refine blk_exit ?_
  have hsh := oi hsh
  subst hsh
  have h279 := hd229 _ rfl
  subst h279
  refine then_normal ?_
  exact ⟨p207, k208, c209, p210, k211, Sv212, (hs.wk rfl), (hw.ft [0, 1, 2, 3] [0, 1, 2] (by decide) rfl rfl)⟩
 rintro a w ⟨p233, k234, c235, p236, k237, Sv238, hs, hw⟩
 refine then_normal ?_
 refine sr ?_
 refine sv hs (y_loadBA (hw.ownAt 2 rfl) rfl Tryz.isAgg35 Tryz.sizeOf35 rfl rfl) rfl fun a hs => ?_
 refine w_store (m := 12) (cs' := [.string s6.Network, .string s6.Station, .string s6.Location, .string s6.Channel, .int .i64 (w64 (1000000000000 + (w64 (250000 * rv45.1)))), .int .i64 rv52.1, .int .i64 rv37.1.Num, .int .i64 rv37.1.Den, .int .i64 rv59.1, .int .i64 rv64.1, .int .i64 rv69.1, .slice p236 e232.2.2.length k237]) hs hw 1 rfl rfl rfl Tryz.sizeOf35 rfl rfl rfl rfl trivial ?_
 intro a w hs hw
 refine nl ?_
 have hsh := oi hsh
 subst hsh
 refine wp_ret ?_
 exact ret1 hs rfl (rv_cell hw 1 rfl rfl Tryz.isAgg35 Tryz.sizeOf35 rfl) (hw.ret ⟨p236, k237, c235, p233, k234, rfl, (hw.outs [3, 0] (by decide) rfl), (hw.envAt 2 rfl), (hw.envAt 0 rfl)⟩)

abbrev ref05_Same_rd (w0 : World) (X : List Nat) (r : Bool) : (Nat → Prop) → World → Value → Prop := fun S w v => v = .bool r
set_option maxHeartbeats 4000000 in
set_option maxRecDepth 100000 in
theorem ref05_Same_ok {w0 : World} {S0 : Nat → Prop} {p2 : Option Addr} {k3 : Nat} {p6 : Option Addr} {k7 : Nat} {a1 : (List Int)} {b5 : (List Int)} {r : Bool} (hsh : ref05_Same a1 b5 = some r) (hS : ∀ b, S0 b → b < w0.heap.size) (h4 : (SlA p2 a1.length k3 a1).p S0 w0) (h8 : (SlA p6 b5.length k7 b5).p S0 w0) : Calls Tryz.prog 50 #[.slice p2 a1.length k3, .slice p6 b5.length k7] w0 (Ret ([]) w0 S0 (ref05_Same_rd w0 ([]) r)) := by
 refine calls_of_wp Tryz.func50 rfl ?_
 have hs := Sl.enter #[.slice p2 a1.length k3, .slice p6 b5.length k7] 26 [(0, .slice p2 a1.length k3), (1, .slice p6 b5.length k7)] rfl ⟨rfl, rfl, trivial⟩
 have hw := Wd.enter (E := []) hS (fun _ h => (by cases h))
 have hw := hw.addE h4
 have hw := hw.addE h8
 delta ref05_Same at hsh
 refine sr ?_
 refine av hs rfl rfl fun a hs => ?_
 refine nl ?_
 refine wp_seq ?_
 refine sr ?_
 refine mv hs rfl rfl fun a hs => ?_
 refine sv hs (y_len Tryz.runUnderlying22 rfl) rfl fun a hs => ?_
 refine mv hs rfl rfl fun a hs => ?_
 refine sv hs (y_len Tryz.runUnderlying22 rfl) rfl fun a hs => ?_
 refine sv hs (y_neq rfl rfl) rfl fun a hs => ?_
 refine nl ?_
 refine wp_cond_split (hs.ev rfl) (fun h10 => ?_) (fun h10 => ?_)
 ·have hsh := ite_t hsh h10
  refine sr ?_
  refine av hs rfl rfl fun a hs => ?_
  refine nl ?_
  have hsh := oi hsh
  subst hsh
  refine wp_ret ?_
  refine then_ret ?_
  exact ret1 hs rfl (rv_tmp rfl) (hw.ret rfl)
 have hsh := ite_f hsh h10
 refine wp_skip ?_
 refine then_normal ?_
 refine wp_seq ?_
 refine sr ?_
 refine av hs rfl rfl fun a hs => ?_
 refine nl ?_
 refine wp_block ?_
 refine wp_while (fun sv109 a w => ∃ (Sv173 : Nat → Prop), Sl 26 [(0, .slice p2 a1.length k3), (1, .slice p6 b5.length k7), (5, .int .i64 sv109)] a ∧ Wd ⟨w0, S0, []⟩ Sv173 [] [SlA p2 a1.length k3 a1, SlA p6 b5.length k7 b5] w) 0 hsh ⟨S0, (hs.wk rfl), (hw.ft [] [1, 0] (by decide) rfl rfl)⟩ ?_
 repeat clear hsh
 rintro sv109 a w tv206 ⟨Sv173, hs, hw⟩ hsh hd205
 delta ref05_Same_l2 at hsh
 refine wp_seq ?_
 refine sr ?_
 refine mv hs rfl rfl fun a hs => ?_
 refine mv hs rfl rfl fun a hs => ?_
 refine sv hs (y_len Tryz.runUnderlying22 rfl) rfl fun a hs => ?_
 refine sv hs (y_lss rfl rfl) rfl fun a hs => ?_
 refine nl ?_
 refine wp_cond_split (hs.ev rfl) (fun h210 => ?_) (fun h210 => ?_)
 ·have hsh := ite_t hsh h210
  refine wp_skip ?_
  refine then_normal ?_
  refine wp_seq ?_
  refine wp_block ?_
  refine wp_seq ?_
  obtain ⟨x241, h239, hsh⟩ := bind_t hsh
  obtain ⟨b247, o248, q245, c246, h249, h242, h243, h244, h240⟩ := hw.elemV 0 rfl h239
  have hsv250 := hs
  have hwv251 := hw
  subst h249
  have hs := hsv250
  have hw := hwv251
  obtain ⟨_, rfl, rfl⟩ := h240
  have hw := hw.addE h244
  obtain ⟨x254, h252, hsh⟩ := bind_t hsh
  obtain ⟨b260, o261, q258, c259, h262, h255, h256, h257, h253⟩ := hw.elemV 2 rfl h252
  have hsv263 := hs
  have hwv264 := hw
  subst h262
  have hs := hsv263
  have hw := hwv264
  obtain ⟨_, rfl, rfl⟩ := h253
  have hw := hw.addE h257
  refine wp_only (fun a w => ∃ (Sv265 : Nat → Prop), Sl 26 [(0, .slice (some ⟨b247, o248, none⟩) a1.length k3), (1, .slice (some ⟨b260, o261, none⟩) b5.length k7), (5, .int .i64 sv109), (25, .bool (x241 != x254))] a ∧ Wd ⟨w0, S0, []⟩ Sv265 [] [SlA (some ⟨b247, o248, none⟩) a1.length k3 a1, SlA (some ⟨b260, o261, none⟩) b5.length k7 b5] w) ?_ ?_
  ·refine h_b (C := Cls [] [CeA b260 q258 [.int .i64 x254], CeA b247 q245 [.int .i64 x241]]) (by kernel_rfl) rfl (hw.drew.cs [] [0, 1] rfl rfl) fun hC => ?_
   have hw := hw.drew
   refine gm hs 0 rfl rfl rfl hC fun a hs => ?_
   refine gm hs 1 rfl rfl rfl hC fun a hs => ?_
   refine gv hs 2 rfl rfl hC (fun w hC => y_indexAt Tryz.runUnderlying22 Tryz.sizeOf3 rfl rfl h242.1 h242.2 h243) fun a hs => ?_
   refine gv hs 3 rfl rfl hC (fun w hC => y_loadE1 (j := 0) (hC.ceAt 1 rfl) rfl Tryz.isAgg3 rfl) fun a hs => ?_
   refine gm hs 4 rfl rfl rfl hC fun a hs => ?_
   refine gm hs 5 rfl rfl rfl hC fun a hs => ?_
   refine gv hs 6 rfl rfl hC (fun w hC => y_indexAt Tryz.runUnderlying22 Tryz.sizeOf3 rfl rfl h255.1 h255.2 h256) fun a hs => ?_
   refine gv hs 7 rfl rfl hC (fun w hC => y_loadE1 (j := 0) (hC.ceAt 0 rfl) rfl Tryz.isAgg3 rfl) fun a hs => ?_
   refine gv hs 8 rfl rfl hC (fun w hC => y_neq rfl rfl) fun a hs => ?_
   refine h_done (by kernel_rfl) ?_
   exact ⟨Sv173, (hs.wk rfl), (hw.ft [] [2, 3] (by decide) rfl rfl)⟩
  rintro a w ⟨Sv265, hs, hw⟩
  refine then_normal ?_
  refine wp_cond_split (hs.ev rfl) (fun h267 => ?_) (fun h267 => ?_)
  ·have hsh := ite_t hsh h267
   refine sr ?_
   refine av hs rfl rfl fun a hs => ?_
   refine nl ?_
   have hsh := oi hsh
   subst hsh
   have h268 := hd205 _ rfl
   subst h268
   refine wp_ret ?_
   refine blk_ret ?_
   refine then_ret ?_
   refine then_ret ?_
   refine blk_ret ?_
   refine then_ret ?_
   exact ret1 hs rfl (rv_tmp rfl) (hw.ret rfl)
  have hsh := ite_f hsh h267
  refine wp_skip ?_
  refine blk_normal ?_
  refine then_normal ?_
  refine wp_region_lit ?_
  refine mv hs rfl rfl fun a hs => ?_
  refine sv hs (y_add rfl rfl) rfl fun a hs => ?_
  obtain ⟨i270, h269, hsh⟩ := bind_t hsh
  refine sv hs (y_assignI rfl h269) rfl fun a hs => ?_
  refine nl ?_
  exact ⟨_, (Option.some.inj hsh).symm, Sv265, (hs.wk rfl), (hw.ft [] [0, 1] (by decide) rfl rfl)⟩
 have hsh := ite_f hsh h210
 obtain ⟨rv271, hsh, h272⟩ := map_t hsh
 have h272 := (hd205 _ h272.symm).symm
 subst h272
 refine wp_exit ?_
 refine then_exit ?_
 refine then_exit ?_
 refine blk_exit ?_
 refine then_normal ?_
 refine sr ?_
 refine av hs rfl rfl fun a hs => ?_
 refine nl ?_
 have hsh := oi hsh
 subst hsh
 refine wp_ret ?_
 exact ret1 hs rfl (rv_tmp rfl) (hw.ret rfl)

abbrev ref14_Same_rd (w0 : World) (X : List Nat) (r : Bool) : (Nat → Prop) → World → Value → Prop := fun S w v => v = .bool r
set_option maxHeartbeats 4000000 in
set_option maxRecDepth 100000 in
theorem ref14_Same_ok {w0 : World} {S0 : Nat → Prop} {p2 : Option Addr} {k3 : Nat} {p6 : Option Addr} {k7 : Nat} {a1 : Record} {b5 : Record} {r : Bool} (hsh : ref14_Same a1 b5 = some r) (hS : ∀ b, S0 b → b < w0.heap.size) (h4 : (SlA p2 a1.Samples.length k3 a1.Samples).p S0 w0) (h8 : (SlA p6 b5.Samples.length k7 b5.Samples).p S0 w0) : Calls Tryz.prog 20 #[.agg #[.string a1.Source.Network, .string a1.Source.Station, .string a1.Source.Location, .string a1.Source.Channel, .int .i64 a1.Start, .int .i64 a1.First, .int .i64 a1.Rate.Num, .int .i64 a1.Rate.Den, .int .i64 a1.Error, .int .i64 a1.Run, .int .i64 a1.Seq, .slice p2 a1.Samples.length k3], .agg #[.string b5.Source.Network, .string b5.Source.Station, .string b5.Source.Location, .string b5.Source.Channel, .int .i64 b5.Start, .int .i64 b5.First, .int .i64 b5.Rate.Num, .int .i64 b5.Rate.Den, .int .i64 b5.Error, .int .i64 b5.Run, .int .i64 b5.Seq, .slice p6 b5.Samples.length k7]] w0 (Ret ([]) w0 S0 (ref14_Same_rd w0 ([]) r)) := by
 refine calls_of_wp Tryz.func20 rfl ?_
 have hs := Sl.enter #[.agg #[.string a1.Source.Network, .string a1.Source.Station, .string a1.Source.Location, .string a1.Source.Channel, .int .i64 a1.Start, .int .i64 a1.First, .int .i64 a1.Rate.Num, .int .i64 a1.Rate.Den, .int .i64 a1.Error, .int .i64 a1.Run, .int .i64 a1.Seq, .slice p2 a1.Samples.length k3], .agg #[.string b5.Source.Network, .string b5.Source.Station, .string b5.Source.Location, .string b5.Source.Channel, .int .i64 b5.Start, .int .i64 b5.First, .int .i64 b5.Rate.Num, .int .i64 b5.Rate.Den, .int .i64 b5.Error, .int .i64 b5.Run, .int .i64 b5.Seq, .slice p6 b5.Samples.length k7]] 59 [(0, .agg #[.string a1.Source.Network, .string a1.Source.Station, .string a1.Source.Location, .string a1.Source.Channel, .int .i64 a1.Start, .int .i64 a1.First, .int .i64 a1.Rate.Num, .int .i64 a1.Rate.Den, .int .i64 a1.Error, .int .i64 a1.Run, .int .i64 a1.Seq, .slice p2 a1.Samples.length k3]), (1, .agg #[.string b5.Source.Network, .string b5.Source.Station, .string b5.Source.Location, .string b5.Source.Channel, .int .i64 b5.Start, .int .i64 b5.First, .int .i64 b5.Rate.Num, .int .i64 b5.Rate.Den, .int .i64 b5.Error, .int .i64 b5.Run, .int .i64 b5.Seq, .slice p6 b5.Samples.length k7])] rfl ⟨rfl, rfl, trivial⟩
 have hw := Wd.enter (E := []) hS (fun _ h => (by cases h))
 have hw := hw.addE h4
 have hw := hw.addE h8
 delta ref14_Same at hsh
 refine sr ?_
 refine w_box (cs := [.string a1.Source.Network, .string a1.Source.Station, .string a1.Source.Location, .string a1.Source.Channel, .int .i64 a1.Start, .int .i64 a1.First, .int .i64 a1.Rate.Num, .int .i64 a1.Rate.Den, .int .i64 a1.Error, .int .i64 a1.Run, .int .i64 a1.Seq, .slice p2 a1.Samples.length k3]) hs hw rfl rfl rfl trivial ?_
 intro b9 a w hs hw
 refine w_box (cs := [.string b5.Source.Network, .string b5.Source.Station, .string b5.Source.Location, .string b5.Source.Channel, .int .i64 b5.Start, .int .i64 b5.First, .int .i64 b5.Rate.Num, .int .i64 b5.Rate.Den, .int .i64 b5.Error, .int .i64 b5.Run, .int .i64 b5.Seq, .slice p6 b5.Samples.length k7]) hs hw rfl rfl rfl trivial ?_
 intro b10 a w hs hw
 refine av hs rfl rfl fun a hs => ?_
 refine nl ?_
 refine sr ?_
 refine sv hs (y_fieldAddr (o' := 0) Tryz.runUnderlying35 rfl Tryz.sizeOf31 rfl rfl rfl) rfl fun a hs => ?_
 refine sv hs (y_loadBA (hw.ownAt 1 rfl) rfl Tryz.isAgg31 Tryz.sizeOf31 rfl rfl) rfl fun a hs => ?_
 refine sv hs (y_fieldAddr (o' := 0) Tryz.runUnderlying35 rfl Tryz.sizeOf31 rfl rfl rfl) rfl fun a hs => ?_
 refine sv hs (y_loadBA (hw.ownAt 0 rfl) rfl Tryz.isAgg31 Tryz.sizeOf31 rfl rfl) rfl fun a hs => ?_
 refine sv hs (y_eqlA (by kernel_rfl) rfl rfl (eqv_struct Tryz.runUnderlying31 (by kernel_rfl) (EqF.cons1 rfl Tryz.isAgg9 rfl rfl (eqv_str Tryz.runUnderlying9) (EqF.cons1 rfl Tryz.isAgg9 rfl rfl (eqv_str Tryz.runUnderlying9) (EqF.cons1 rfl Tryz.isAgg9 rfl rfl (eqv_str Tryz.runUnderlying9) (EqF.cons1 rfl Tryz.isAgg9 rfl rfl (eqv_str Tryz.runUnderlying9) EqF.nil)))))) rfl fun a hs => ?_
 refine mv hs rfl rfl fun a hs => ?_
 refine wpl_join 6 (fun a w1 => w = w1 ∧ Sl 59 [(2, .pointer (some ⟨b9, 0, none⟩)), (3, .pointer (some ⟨b10, 0, none⟩)), (16, .bool (((a1.Source.Network == b5.Source.Network) && ((a1.Source.Station == b5.Source.Station) && ((a1.Source.Location == b5.Source.Location) && ((a1.Source.Channel == b5.Source.Channel) && true)))) && (a1.Start == b5.Start)))] a) ?_ ?_
 ·rcases Bool.eq_false_or_eq_true ((a1.Source.Network == b5.Source.Network) && ((a1.Source.Station == b5.Source.Station) && ((a1.Source.Location == b5.Source.Location) && ((a1.Source.Channel == b5.Source.Channel) && true)))) with h11 | h11
  ·have hs := hs.fix 10 (.bool true) rfl (vb h11)
   refine st_val hs (y_fieldAddr (o' := 4) Tryz.runUnderlying35 rfl Tryz.sizeOf3 rfl rfl rfl) ⟨_, rfl, rfl⟩ rfl rfl fun a hs => ?_
   refine st_val hs (y_loadB1 (hw.ownAt 1 rfl) rfl Tryz.isAgg3 rfl) ⟨_, rfl, rfl⟩ rfl rfl fun a hs => ?_
   refine st_val hs (y_fieldAddr (o' := 4) Tryz.runUnderlying35 rfl Tryz.sizeOf3 rfl rfl rfl) ⟨_, rfl, rfl⟩ rfl rfl fun a hs => ?_
   refine st_val hs (y_loadB1 (hw.ownAt 0 rfl) rfl Tryz.isAgg3 rfl) ⟨_, rfl, rfl⟩ rfl rfl fun a hs => ?_
   refine st_val hs (y_eql rfl rfl) ⟨_, rfl, rfl⟩ rfl rfl fun a hs => ?_
   refine sv hs (y_pickT rfl rfl) rfl fun a hs => ?_
   refine nl ?_
   exact ⟨rfl, (hs.fix 16 (.bool (((a1.Source.Network == b5.Source.Network) && ((a1.Source.Station == b5.Source.Station) && ((a1.Source.Location == b5.Source.Location) && ((a1.Source.Channel == b5.Source.Channel) && true)))) && (a1.Start == b5.Start))) rfl (and_t h11)).weaken _ ⟨rfl, rfl, rfl, trivial⟩⟩
  have hs := hs.fix 10 (.bool false) rfl (vb h11)
  refine st_skip hs rfl rfl rfl rfl rfl fun a hs => ?_
  refine st_skip hs rfl rfl rfl rfl rfl fun a hs => ?_
  refine st_skip hs rfl rfl rfl rfl rfl fun a hs => ?_
  refine st_skip hs rfl rfl rfl rfl rfl fun a hs => ?_
  refine st_skip hs rfl rfl rfl rfl rfl fun a hs => ?_
  refine sv hs (y_pickF rfl rfl) rfl fun a hs => ?_
  refine nl ?_
  exact ⟨rfl, (hs.fix 16 (.bool (((a1.Source.Network == b5.Source.Network) && ((a1.Source.Station == b5.Source.Station) && ((a1.Source.Location == b5.Source.Location) && ((a1.Source.Channel == b5.Source.Channel) && true)))) && (a1.Start == b5.Start))) rfl (and_f h11)).weaken _ ⟨rfl, rfl, rfl, trivial⟩⟩
 rintro a w1 ⟨h39, hs⟩
 subst h39
 refine mv hs rfl rfl fun a hs => ?_
 refine wpl_join 6 (fun a w1 => w = w1 ∧ Sl 59 [(2, .pointer (some ⟨b9, 0, none⟩)), (3, .pointer (some ⟨b10, 0, none⟩)), (23, .bool ((((a1.Source.Network == b5.Source.Network) && ((a1.Source.Station == b5.Source.Station) && ((a1.Source.Location == b5.Source.Location) && ((a1.Source.Channel == b5.Source.Channel) && true)))) && (a1.Start == b5.Start)) && (a1.First == b5.First)))] a) ?_ ?_
 ·rcases Bool.eq_false_or_eq_true (((a1.Source.Network == b5.Source.Network) && ((a1.Source.Station == b5.Source.Station) && ((a1.Source.Location == b5.Source.Location) && ((a1.Source.Channel == b5.Source.Channel) && true)))) && (a1.Start == b5.Start)) with h12 | h12
  ·have hs := hs.fix 17 (.bool true) rfl (vb h12)
   refine st_val hs (y_fieldAddr (o' := 5) Tryz.runUnderlying35 rfl Tryz.sizeOf3 rfl rfl rfl) ⟨_, rfl, rfl⟩ rfl rfl fun a hs => ?_
   refine st_val hs (y_loadB1 (hw.ownAt 1 rfl) rfl Tryz.isAgg3 rfl) ⟨_, rfl, rfl⟩ rfl rfl fun a hs => ?_
   refine st_val hs (y_fieldAddr (o' := 5) Tryz.runUnderlying35 rfl Tryz.sizeOf3 rfl rfl rfl) ⟨_, rfl, rfl⟩ rfl rfl fun a hs => ?_
   refine st_val hs (y_loadB1 (hw.ownAt 0 rfl) rfl Tryz.isAgg3 rfl) ⟨_, rfl, rfl⟩ rfl rfl fun a hs => ?_
   refine st_val hs (y_eql rfl rfl) ⟨_, rfl, rfl⟩ rfl rfl fun a hs => ?_
   refine sv hs (y_pickT rfl rfl) rfl fun a hs => ?_
   refine nl ?_
   exact ⟨rfl, (hs.fix 23 (.bool ((((a1.Source.Network == b5.Source.Network) && ((a1.Source.Station == b5.Source.Station) && ((a1.Source.Location == b5.Source.Location) && ((a1.Source.Channel == b5.Source.Channel) && true)))) && (a1.Start == b5.Start)) && (a1.First == b5.First))) rfl (and_t h12)).weaken _ ⟨rfl, rfl, rfl, trivial⟩⟩
  have hs := hs.fix 17 (.bool false) rfl (vb h12)
  refine st_skip hs rfl rfl rfl rfl rfl fun a hs => ?_
  refine st_skip hs rfl rfl rfl rfl rfl fun a hs => ?_
  refine st_skip hs rfl rfl rfl rfl rfl fun a hs => ?_
  refine st_skip hs rfl rfl rfl rfl rfl fun a hs => ?_
  refine st_skip hs rfl rfl rfl rfl rfl fun a hs => ?_
  refine sv hs (y_pickF rfl rfl) rfl fun a hs => ?_
  refine nl ?_
  exact ⟨rfl, (hs.fix 23 (.bool ((((a1.Source.Network == b5.Source.Network) && ((a1.Source.Station == b5.Source.Station) && ((a1.Source.Location == b5.Source.Location) && ((a1.Source.Channel == b5.Source.Channel) && true)))) && (a1.Start == b5.Start)) && (a1.First == b5.First))) rfl (and_f h12)).weaken _ ⟨rfl, rfl, rfl, trivial⟩⟩
 rintro a w1 ⟨h38, hs⟩
 subst h38
 refine mv hs rfl rfl fun a hs => ?_
 refine wpl_join 6 (fun a w1 => w = w1 ∧ Sl 59 [(2, .pointer (some ⟨b9, 0, none⟩)), (3, .pointer (some ⟨b10, 0, none⟩)), (30, .bool (((((a1.Source.Network == b5.Source.Network) && ((a1.Source.Station == b5.Source.Station) && ((a1.Source.Location == b5.Source.Location) && ((a1.Source.Channel == b5.Source.Channel) && true)))) && (a1.Start == b5.Start)) && (a1.First == b5.First)) && ((a1.Rate.Num == b5.Rate.Num) && ((a1.Rate.Den == b5.Rate.Den) && true))))] a) ?_ ?_
 ·rcases Bool.eq_false_or_eq_true ((((a1.Source.Network == b5.Source.Network) && ((a1.Source.Station == b5.Source.Station) && ((a1.Source.Location == b5.Source.Location) && ((a1.Source.Channel == b5.Source.Channel) && true)))) && (a1.Start == b5.Start)) && (a1.First == b5.First)) with h13 | h13
  ·have hs := hs.fix 24 (.bool true) rfl (vb h13)
   refine st_val hs (y_fieldAddr (o' := 6) Tryz.runUnderlying35 rfl Tryz.sizeOf33 rfl rfl rfl) ⟨_, rfl, rfl⟩ rfl rfl fun a hs => ?_
   refine st_val hs (y_loadBA (hw.ownAt 1 rfl) rfl Tryz.isAgg33 Tryz.sizeOf33 rfl rfl) ⟨_, rfl, rfl⟩ rfl rfl fun a hs => ?_
   refine st_val hs (y_fieldAddr (o' := 6) Tryz.runUnderlying35 rfl Tryz.sizeOf33 rfl rfl rfl) ⟨_, rfl, rfl⟩ rfl rfl fun a hs => ?_
   refine st_val hs (y_loadBA (hw.ownAt 0 rfl) rfl Tryz.isAgg33 Tryz.sizeOf33 rfl rfl) ⟨_, rfl, rfl⟩ rfl rfl fun a hs => ?_
   refine st_val hs (y_eqlA (by kernel_rfl) rfl rfl (eqv_struct Tryz.runUnderlying33 (by kernel_rfl) (EqF.cons1 rfl Tryz.isAgg3 rfl rfl (eqv_int Tryz.runUnderlying3) (EqF.cons1 rfl Tryz.isAgg3 rfl rfl (eqv_int Tryz.runUnderlying3) EqF.nil)))) ⟨_, rfl, rfl⟩ rfl rfl fun a hs => ?_
   refine sv hs (y_pickT rfl rfl) rfl fun a hs => ?_
   refine nl ?_
   exact ⟨rfl, (hs.fix 30 (.bool (((((a1.Source.Network == b5.Source.Network) && ((a1.Source.Station == b5.Source.Station) && ((a1.Source.Location == b5.Source.Location) && ((a1.Source.Channel == b5.Source.Channel) && true)))) && (a1.Start == b5.Start)) && (a1.First == b5.First)) && ((a1.Rate.Num == b5.Rate.Num) && ((a1.Rate.Den == b5.Rate.Den) && true)))) rfl (and_t h13)).weaken _ ⟨rfl, rfl, rfl, trivial⟩⟩
  have hs := hs.fix 24 (.bool false) rfl (vb h13)
  refine st_skip hs rfl rfl rfl rfl rfl fun a hs => ?_
  refine st_skip hs rfl rfl rfl rfl rfl fun a hs => ?_
  refine st_skip hs rfl rfl rfl rfl rfl fun a hs => ?_
  refine st_skip hs rfl rfl rfl rfl rfl fun a hs => ?_
  refine st_skip hs rfl rfl rfl rfl rfl fun a hs => ?_
  refine sv hs (y_pickF rfl rfl) rfl fun a hs => ?_
  refine nl ?_
  exact ⟨rfl, (hs.fix 30 (.bool (((((a1.Source.Network == b5.Source.Network) && ((a1.Source.Station == b5.Source.Station) && ((a1.Source.Location == b5.Source.Location) && ((a1.Source.Channel == b5.Source.Channel) && true)))) && (a1.Start == b5.Start)) && (a1.First == b5.First)) && ((a1.Rate.Num == b5.Rate.Num) && ((a1.Rate.Den == b5.Rate.Den) && true)))) rfl (and_f h13)).weaken _ ⟨rfl, rfl, rfl, trivial⟩⟩
 rintro a w1 ⟨h37, hs⟩
 subst h37
 refine mv hs rfl rfl fun a hs => ?_
 refine wpl_join 6 (fun a w1 => w = w1 ∧ Sl 59 [(2, .pointer (some ⟨b9, 0, none⟩)), (3, .pointer (some ⟨b10, 0, none⟩)), (37, .bool ((((((a1.Source.Network == b5.Source.Network) && ((a1.Source.Station == b5.Source.Station) && ((a1.Source.Location == b5.Source.Location) && ((a1.Source.Channel == b5.Source.Channel) && true)))) && (a1.Start == b5.Start)) && (a1.First == b5.First)) && ((a1.Rate.Num == b5.Rate.Num) && ((a1.Rate.Den == b5.Rate.Den) && true))) && (a1.Error == b5.Error)))] a) ?_ ?_
 ·rcases Bool.eq_false_or_eq_true (((((a1.Source.Network == b5.Source.Network) && ((a1.Source.Station == b5.Source.Station) && ((a1.Source.Location == b5.Source.Location) && ((a1.Source.Channel == b5.Source.Channel) && true)))) && (a1.Start == b5.Start)) && (a1.First == b5.First)) && ((a1.Rate.Num == b5.Rate.Num) && ((a1.Rate.Den == b5.Rate.Den) && true))) with h14 | h14
  ·have hs := hs.fix 31 (.bool true) rfl (vb h14)
   refine st_val hs (y_fieldAddr (o' := 8) Tryz.runUnderlying35 rfl Tryz.sizeOf3 rfl rfl rfl) ⟨_, rfl, rfl⟩ rfl rfl fun a hs => ?_
   refine st_val hs (y_loadB1 (hw.ownAt 1 rfl) rfl Tryz.isAgg3 rfl) ⟨_, rfl, rfl⟩ rfl rfl fun a hs => ?_
   refine st_val hs (y_fieldAddr (o' := 8) Tryz.runUnderlying35 rfl Tryz.sizeOf3 rfl rfl rfl) ⟨_, rfl, rfl⟩ rfl rfl fun a hs => ?_
   refine st_val hs (y_loadB1 (hw.ownAt 0 rfl) rfl Tryz.isAgg3 rfl) ⟨_, rfl, rfl⟩ rfl rfl fun a hs => ?_
   refine st_val hs (y_eql rfl rfl) ⟨_, rfl, rfl⟩ rfl rfl fun a hs => ?_
   refine sv hs (y_pickT rfl rfl) rfl fun a hs => ?_
   refine nl ?_
   exact ⟨rfl, (hs.fix 37 (.bool ((((((a1.Source.Network == b5.Source.Network) && ((a1.Source.Station == b5.Source.Station) && ((a1.Source.Location == b5.Source.Location) && ((a1.Source.Channel == b5.Source.Channel) && true)))) && (a1.Start == b5.Start)) && (a1.First == b5.First)) && ((a1.Rate.Num == b5.Rate.Num) && ((a1.Rate.Den == b5.Rate.Den) && true))) && (a1.Error == b5.Error))) rfl (and_t h14)).weaken _ ⟨rfl, rfl, rfl, trivial⟩⟩
  have hs := hs.fix 31 (.bool false) rfl (vb h14)
  refine st_skip hs rfl rfl rfl rfl rfl fun a hs => ?_
  refine st_skip hs rfl rfl rfl rfl rfl fun a hs => ?_
  refine st_skip hs rfl rfl rfl rfl rfl fun a hs => ?_
  refine st_skip hs rfl rfl rfl rfl rfl fun a hs => ?_
  refine st_skip hs rfl rfl rfl rfl rfl fun a hs => ?_
  refine sv hs (y_pickF rfl rfl) rfl fun a hs => ?_
  refine nl ?_
  exact ⟨rfl, (hs.fix 37 (.bool ((((((a1.Source.Network == b5.Source.Network) && ((a1.Source.Station == b5.Source.Station) && ((a1.Source.Location == b5.Source.Location) && ((a1.Source.Channel == b5.Source.Channel) && true)))) && (a1.Start == b5.Start)) && (a1.First == b5.First)) && ((a1.Rate.Num == b5.Rate.Num) && ((a1.Rate.Den == b5.Rate.Den) && true))) && (a1.Error == b5.Error))) rfl (and_f h14)).weaken _ ⟨rfl, rfl, rfl, trivial⟩⟩
 rintro a w1 ⟨h36, hs⟩
 subst h36
 refine mv hs rfl rfl fun a hs => ?_
 refine wpl_join 6 (fun a w1 => w = w1 ∧ Sl 59 [(2, .pointer (some ⟨b9, 0, none⟩)), (3, .pointer (some ⟨b10, 0, none⟩)), (44, .bool (((((((a1.Source.Network == b5.Source.Network) && ((a1.Source.Station == b5.Source.Station) && ((a1.Source.Location == b5.Source.Location) && ((a1.Source.Channel == b5.Source.Channel) && true)))) && (a1.Start == b5.Start)) && (a1.First == b5.First)) && ((a1.Rate.Num == b5.Rate.Num) && ((a1.Rate.Den == b5.Rate.Den) && true))) && (a1.Error == b5.Error)) && (a1.Run == b5.Run)))] a) ?_ ?_
 ·rcases Bool.eq_false_or_eq_true ((((((a1.Source.Network == b5.Source.Network) && ((a1.Source.Station == b5.Source.Station) && ((a1.Source.Location == b5.Source.Location) && ((a1.Source.Channel == b5.Source.Channel) && true)))) && (a1.Start == b5.Start)) && (a1.First == b5.First)) && ((a1.Rate.Num == b5.Rate.Num) && ((a1.Rate.Den == b5.Rate.Den) && true))) && (a1.Error == b5.Error)) with h15 | h15
  ·have hs := hs.fix 38 (.bool true) rfl (vb h15)
   refine st_val hs (y_fieldAddr (o' := 9) Tryz.runUnderlying35 rfl Tryz.sizeOf3 rfl rfl rfl) ⟨_, rfl, rfl⟩ rfl rfl fun a hs => ?_
   refine st_val hs (y_loadB1 (hw.ownAt 1 rfl) rfl Tryz.isAgg3 rfl) ⟨_, rfl, rfl⟩ rfl rfl fun a hs => ?_
   refine st_val hs (y_fieldAddr (o' := 9) Tryz.runUnderlying35 rfl Tryz.sizeOf3 rfl rfl rfl) ⟨_, rfl, rfl⟩ rfl rfl fun a hs => ?_
   refine st_val hs (y_loadB1 (hw.ownAt 0 rfl) rfl Tryz.isAgg3 rfl) ⟨_, rfl, rfl⟩ rfl rfl fun a hs => ?_
   refine st_val hs (y_eql rfl rfl) ⟨_, rfl, rfl⟩ rfl rfl fun a hs => ?_
   refine sv hs (y_pickT rfl rfl) rfl fun a hs => ?_
   refine nl ?_
   exact ⟨rfl, (hs.fix 44 (.bool (((((((a1.Source.Network == b5.Source.Network) && ((a1.Source.Station == b5.Source.Station) && ((a1.Source.Location == b5.Source.Location) && ((a1.Source.Channel == b5.Source.Channel) && true)))) && (a1.Start == b5.Start)) && (a1.First == b5.First)) && ((a1.Rate.Num == b5.Rate.Num) && ((a1.Rate.Den == b5.Rate.Den) && true))) && (a1.Error == b5.Error)) && (a1.Run == b5.Run))) rfl (and_t h15)).weaken _ ⟨rfl, rfl, rfl, trivial⟩⟩
  have hs := hs.fix 38 (.bool false) rfl (vb h15)
  refine st_skip hs rfl rfl rfl rfl rfl fun a hs => ?_
  refine st_skip hs rfl rfl rfl rfl rfl fun a hs => ?_
  refine st_skip hs rfl rfl rfl rfl rfl fun a hs => ?_
  refine st_skip hs rfl rfl rfl rfl rfl fun a hs => ?_
  refine st_skip hs rfl rfl rfl rfl rfl fun a hs => ?_
  refine sv hs (y_pickF rfl rfl) rfl fun a hs => ?_
  refine nl ?_
  exact ⟨rfl, (hs.fix 44 (.bool (((((((a1.Source.Network == b5.Source.Network) && ((a1.Source.Station == b5.Source.Station) && ((a1.Source.Location == b5.Source.Location) && ((a1.Source.Channel == b5.Source.Channel) && true)))) && (a1.Start == b5.Start)) && (a1.First == b5.First)) && ((a1.Rate.Num == b5.Rate.Num) && ((a1.Rate.Den == b5.Rate.Den) && true))) && (a1.Error == b5.Error)) && (a1.Run == b5.Run))) rfl (and_f h15)).weaken _ ⟨rfl, rfl, rfl, trivial⟩⟩
 rintro a w1 ⟨h35, hs⟩
 subst h35
 refine mv hs rfl rfl fun a hs => ?_
 refine wpl_join 6 (fun a w1 => w = w1 ∧ Sl 59 [(2, .pointer (some ⟨b9, 0, none⟩)), (3, .pointer (some ⟨b10, 0, none⟩)), (51, .bool ((((((((a1.Source.Network == b5.Source.Network) && ((a1.Source.Station == b5.Source.Station) && ((a1.Source.Location == b5.Source.Location) && ((a1.Source.Channel == b5.Source.Channel) && true)))) && (a1.Start == b5.Start)) && (a1.First == b5.First)) && ((a1.Rate.Num == b5.Rate.Num) && ((a1.Rate.Den == b5.Rate.Den) && true))) && (a1.Error == b5.Error)) && (a1.Run == b5.Run)) && (a1.Seq == b5.Seq)))] a) ?_ ?_
 ·rcases Bool.eq_false_or_eq_true (((((((a1.Source.Network == b5.Source.Network) && ((a1.Source.Station == b5.Source.Station) && ((a1.Source.Location == b5.Source.Location) && ((a1.Source.Channel == b5.Source.Channel) && true)))) && (a1.Start == b5.Start)) && (a1.First == b5.First)) && ((a1.Rate.Num == b5.Rate.Num) && ((a1.Rate.Den == b5.Rate.Den) && true))) && (a1.Error == b5.Error)) && (a1.Run == b5.Run)) with h16 | h16
  ·have hs := hs.fix 45 (.bool true) rfl (vb h16)
   refine st_val hs (y_fieldAddr (o' := 10) Tryz.runUnderlying35 rfl Tryz.sizeOf3 rfl rfl rfl) ⟨_, rfl, rfl⟩ rfl rfl fun a hs => ?_
   refine st_val hs (y_loadB1 (hw.ownAt 1 rfl) rfl Tryz.isAgg3 rfl) ⟨_, rfl, rfl⟩ rfl rfl fun a hs => ?_
   refine st_val hs (y_fieldAddr (o' := 10) Tryz.runUnderlying35 rfl Tryz.sizeOf3 rfl rfl rfl) ⟨_, rfl, rfl⟩ rfl rfl fun a hs => ?_
   refine st_val hs (y_loadB1 (hw.ownAt 0 rfl) rfl Tryz.isAgg3 rfl) ⟨_, rfl, rfl⟩ rfl rfl fun a hs => ?_
   refine st_val hs (y_eql rfl rfl) ⟨_, rfl, rfl⟩ rfl rfl fun a hs => ?_
   refine sv hs (y_pickT rfl rfl) rfl fun a hs => ?_
   refine nl ?_
   exact ⟨rfl, (hs.fix 51 (.bool ((((((((a1.Source.Network == b5.Source.Network) && ((a1.Source.Station == b5.Source.Station) && ((a1.Source.Location == b5.Source.Location) && ((a1.Source.Channel == b5.Source.Channel) && true)))) && (a1.Start == b5.Start)) && (a1.First == b5.First)) && ((a1.Rate.Num == b5.Rate.Num) && ((a1.Rate.Den == b5.Rate.Den) && true))) && (a1.Error == b5.Error)) && (a1.Run == b5.Run)) && (a1.Seq == b5.Seq))) rfl (and_t h16)).weaken _ ⟨rfl, rfl, rfl, trivial⟩⟩
  have hs := hs.fix 45 (.bool false) rfl (vb h16)
  refine st_skip hs rfl rfl rfl rfl rfl fun a hs => ?_
  refine st_skip hs rfl rfl rfl rfl rfl fun a hs => ?_
  refine st_skip hs rfl rfl rfl rfl rfl fun a hs => ?_
  refine st_skip hs rfl rfl rfl rfl rfl fun a hs => ?_
  refine st_skip hs rfl rfl rfl rfl rfl fun a hs => ?_
  refine sv hs (y_pickF rfl rfl) rfl fun a hs => ?_
  refine nl ?_
  exact ⟨rfl, (hs.fix 51 (.bool ((((((((a1.Source.Network == b5.Source.Network) && ((a1.Source.Station == b5.Source.Station) && ((a1.Source.Location == b5.Source.Location) && ((a1.Source.Channel == b5.Source.Channel) && true)))) && (a1.Start == b5.Start)) && (a1.First == b5.First)) && ((a1.Rate.Num == b5.Rate.Num) && ((a1.Rate.Den == b5.Rate.Den) && true))) && (a1.Error == b5.Error)) && (a1.Run == b5.Run)) && (a1.Seq == b5.Seq))) rfl (and_f h16)).weaken _ ⟨rfl, rfl, rfl, trivial⟩⟩
 rintro a w1 ⟨h34, hs⟩
 subst h34
 refine mv hs rfl rfl fun a hs => ?_
 obtain ⟨c25, hc25, hsh⟩ := bind_t hsh
 refine wpl_join 6 (fun a w => ∃ (Sv26 : Nat → Prop), Sl 59 [(58, .bool c25)] a ∧ Wd ⟨w0, S0, []⟩ Sv26 [] [] w) ?_ ?_
 ·rcases Bool.eq_false_or_eq_true ((((((((a1.Source.Network == b5.Source.Network) && ((a1.Source.Station == b5.Source.Station) && ((a1.Source.Location == b5.Source.Location) && ((a1.Source.Channel == b5.Source.Channel) && true)))) && (a1.Start == b5.Start)) && (a1.First == b5.First)) && ((a1.Rate.Num == b5.Rate.Num) && ((a1.Rate.Den == b5.Rate.Den) && true))) && (a1.Error == b5.Error)) && (a1.Run == b5.Run)) && (a1.Seq == b5.Seq)) with h24 | h24
  ·have hs := hs.fix 52 (.bool true) rfl (vb h24)
   have hsh := ite_t hc25 h24
   refine st_val hs (y_fieldAddr (o' := 11) Tryz.runUnderlying35 rfl Tryz.sizeOf22 rfl rfl rfl) ⟨_, rfl, rfl⟩ rfl rfl fun a hs => ?_
   refine st_val hs (y_loadB1 (hw.ownAt 1 rfl) rfl Tryz.isAgg22 rfl) ⟨_, rfl, rfl⟩ rfl rfl fun a hs => ?_
   refine st_val hs (y_fieldAddr (o' := 11) Tryz.runUnderlying35 rfl Tryz.sizeOf22 rfl rfl rfl) ⟨_, rfl, rfl⟩ rfl rfl fun a hs => ?_
   refine st_val hs (y_loadB1 (hw.ownAt 0 rfl) rfl Tryz.isAgg22 rfl) ⟨_, rfl, rfl⟩ rfl rfl fun a hs => ?_
   obtain ⟨rv28, h27, hsh⟩ := bind_t hsh
   refine st_callR hs (ref05_Same_ok h27 hw.bdom (hw.bE 1 rfl) (hw.bE 0 rfl)) (do_call Tryz.call50 rfl) ⟨_, rfl, rfl⟩ rfl rfl ?_
   intro v32 Sv29 w a h30 h31 hs
   subst h31
   have hw := hw.callB h30
   refine sv hs (y_pickT rfl rfl) rfl fun a hs => ?_
   refine wpList_nil ?_
   have hsh := oi hsh
   subst hsh
   refine then_normal ?_
   exact ⟨S0, (hs.wk rfl), (hw.ft [] [] (by decide) rfl rfl)⟩
  have hs := hs.fix 52 (.bool false) rfl (vb h24)
  have hsh := ite_f hc25 h24
  refine st_skip hs rfl rfl rfl rfl rfl fun a hs => ?_
  refine st_skip hs rfl rfl rfl rfl rfl fun a hs => ?_
  refine st_skip hs rfl rfl rfl rfl rfl fun a hs => ?_
  refine st_skip hs rfl rfl rfl rfl rfl fun a hs => ?_
  refine st_skip hs rfl rfl rfl rfl rfl fun a hs => ?_
  refine sv hs (y_pickF rfl rfl) rfl fun a hs => ?_
  refine wpList_nil ?_
  have hsh := oi hsh
  subst hsh
  refine then_normal ?_
  exact ⟨S0, (hs.wk rfl), (hw.ft [] [] (by decide) rfl rfl)⟩
 rintro a w ⟨Sv26, hs, hw⟩
 refine av hs rfl rfl fun a hs => ?_
 refine nl ?_
 have hsh := oi hsh
 subst hsh
 refine wp_ret ?_
 exact ret1 hs rfl (rv_tmp rfl) (hw.ret rfl)

abbrev ref03_code_rd (w0 : World) (X : List Nat) (r : Bool) : (Nat → Prop) → World → Value → Prop := fun S w v => v = .bool r
set_option maxHeartbeats 4000000 in
set_option maxRecDepth 100000 in
theorem ref03_code_ok {w0 : World} {S0 : Nat → Prop} {s1 : ByteArray} {lo2 : Int} {hi3 : Int} {r : Bool} (hsh : ref03_code s1 lo2 hi3 = some r) (hS : ∀ b, S0 b → b < w0.heap.size) : Calls Tryz.prog 106 #[.string s1, .int .i64 lo2, .int .i64 hi3] w0 (Ret ([]) w0 S0 (ref03_code_rd w0 ([]) r)) := by
 refine calls_of_wp Tryz.func106 rfl ?_
 have hs := Sl.enter #[.string s1, .int .i64 lo2, .int .i64 hi3] 47 [(0, .string s1), (1, .int .i64 lo2), (2, .int .i64 hi3)] rfl ⟨rfl, rfl, rfl, trivial⟩
 have hw := Wd.enter (E := []) hS (fun _ h => (by cases h))
 delta ref03_code at hsh
 refine sr ?_
 refine av hs rfl rfl fun a hs => ?_
 refine nl ?_
 refine wp_seq ?_
 refine sr ?_
 refine av hs rfl rfl fun a hs => ?_
 refine nl ?_
 refine wp_block ?_
 refine wp_while (fun sv111 a w => ∃ (Sv181 : Nat → Prop), Sl 47 [(0, .string s1), (1, .int .i64 lo2), (2, .int .i64 hi3), (7, .int .i64 sv111)] a ∧ Wd ⟨w0, S0, []⟩ Sv181 [] [] w) 0 hsh ⟨S0, (hs.wk rfl), (hw.ft [] [] (by decide) rfl rfl)⟩ ?_
 repeat clear hsh
 rintro sv111 a w tv217 ⟨Sv181, hs, hw⟩ hsh hd216
 delta ref03_code_l2 at hsh
 refine wp_seq ?_
 refine sr ?_
 refine mv hs rfl rfl fun a hs => ?_
 refine mv hs rfl rfl fun a hs => ?_
 refine sv hs (y_lenS Tryz.runUnderlying9 rfl) rfl fun a hs => ?_
 refine sv hs (y_lss rfl rfl) rfl fun a hs => ?_
 refine nl ?_
 refine wp_cond_split (hs.ev rfl) (fun h221 => ?_) (fun h221 => ?_)
 ·have hsh := ite_t hsh h221
  refine wp_skip ?_
  refine then_normal ?_
  refine wp_seq ?_
  refine wp_block ?_
  refine sr ?_
  refine mv hs rfl rfl fun a hs => ?_
  refine mv hs rfl rfl fun a hs => ?_
  obtain ⟨c254, h253, hsh⟩ := bind_t hsh
  refine sv hs (y_indexSM Tryz.runUnderlying9 rfl rfl h253) rfl fun a hs => ?_
  refine sv hs (y_geq rfl rfl) rfl fun a hs => ?_
  refine mv hs rfl rfl fun a hs => ?_
  obtain ⟨c258, hc258, hsh⟩ := bind_t hsh
  refine wpl_join 5 (fun a w => ∃ (Sv259 : Nat → Prop), Sl 47 [(0, .string s1), (1, .int .i64 lo2), (2, .int .i64 hi3), (7, .int .i64 sv111), (23, .bool c258)] a ∧ Wd ⟨w0, S0, []⟩ Sv259 [] [] w) ?_ ?_
  ·rcases Bool.eq_false_or_eq_true (decide (65 ≤ c254)) with h257 | h257
   ·have hs := hs.fix 18 (.bool true) rfl (vb h257)
    have hsh := ite_t hc258 h257
    refine st_val hs (y_move rfl) ⟨_, rfl, rfl⟩ rfl rfl fun a hs => ?_
    refine st_val hs (y_move rfl) ⟨_, rfl, rfl⟩ rfl rfl fun a hs => ?_
    obtain ⟨c261, h260, hsh⟩ := bind_t hsh
    refine st_val hs (y_indexSM Tryz.runUnderlying9 rfl rfl h260) ⟨_, rfl, rfl⟩ rfl rfl fun a hs => ?_
    refine st_val hs (y_leq rfl rfl) ⟨_, rfl, rfl⟩ rfl rfl fun a hs => ?_
    refine sv hs (y_pickT rfl rfl) rfl fun a hs => ?_
    refine wpList_nil ?_
    have hsh := oi hsh
    subst hsh
    refine then_normal ?_
    exact ⟨Sv181, (hs.wk rfl), (hw.ft [] [] (by decide) rfl rfl)⟩
   have hs := hs.fix 18 (.bool false) rfl (vb h257)
   have hsh := ite_f hc258 h257
   refine st_skip hs rfl rfl rfl rfl rfl fun a hs => ?_
   refine st_skip hs rfl rfl rfl rfl rfl fun a hs => ?_
   refine st_skip hs rfl rfl rfl rfl rfl fun a hs => ?_
   refine st_skip hs rfl rfl rfl rfl rfl fun a hs => ?_
   refine sv hs (y_pickF rfl rfl) rfl fun a hs => ?_
   refine wpList_nil ?_
   have hsh := oi hsh
   subst hsh
   refine then_normal ?_
   exact ⟨Sv181, (hs.wk rfl), (hw.ft [] [] (by decide) rfl rfl)⟩
  rintro a w ⟨Sv259, hs, hw⟩
  refine mv hs rfl rfl fun a hs => ?_
  obtain ⟨c272, hc272, hsh⟩ := bind_t hsh
  refine wpl_join 11 (fun a w => ∃ (Sv273 : Nat → Prop), Sl 47 [(0, .string s1), (1, .int .i64 lo2), (2, .int .i64 hi3), (7, .int .i64 sv111), (35, .bool c272)] a ∧ Wd ⟨w0, S0, []⟩ Sv273 [] [] w) ?_ ?_
  ·rcases Bool.eq_false_or_eq_true c258 with h271 | h271
   ·have hs := hs.fix 24 (.bool true) rfl (vb h271)
    have hsh := ite_t hc272 h271
    refine st_skip hs rfl rfl rfl rfl rfl fun a hs => ?_
    refine st_skip hs rfl rfl rfl rfl rfl fun a hs => ?_
    refine st_skip hs rfl rfl rfl rfl rfl fun a hs => ?_
    refine st_skip hs rfl rfl rfl rfl rfl fun a hs => ?_
    refine st_skip hs rfl rfl rfl rfl rfl fun a hs => ?_
    refine st_skipU hs rfl rfl rfl rfl rfl fun a hs => ?_
    refine st_skipU hs rfl rfl rfl rfl rfl fun a hs => ?_
    refine st_skipU hs rfl rfl rfl rfl rfl fun a hs => ?_
    refine st_skipU hs rfl rfl rfl rfl rfl fun a hs => ?_
    refine st_skip hs rfl rfl rfl rfl rfl fun a hs => ?_
    refine sv hs (y_pickT rfl rfl) rfl fun a hs => ?_
    refine wpList_nil ?_
    have hsh := oi hsh
    subst hsh
    refine then_normal ?_
    exact ⟨Sv259, (hs.wk rfl), (hw.ft [] [] (by decide) rfl rfl)⟩
   have hs := hs.fix 24 (.bool false) rfl (vb h271)
   have hsh := ite_f hc272 h271
   refine st_val hs (y_move rfl) ⟨_, rfl, rfl⟩ rfl rfl fun a hs => ?_
   refine st_val hs (y_move rfl) ⟨_, rfl, rfl⟩ rfl rfl fun a hs => ?_
   obtain ⟨c275, h274, hsh⟩ := bind_t hsh
   refine st_val hs (y_indexSM Tryz.runUnderlying9 rfl rfl h274) ⟨_, rfl, rfl⟩ rfl rfl fun a hs => ?_
   refine st_val hs (y_geq rfl rfl) ⟨_, rfl, rfl⟩ rfl rfl fun a hs => ?_
   refine st_val hs (y_move rfl) ⟨_, rfl, rfl⟩ rfl rfl fun a hs => ?_
   obtain ⟨c279, hc279, hsh⟩ := bind_t hsh
   refine wpl_join 5 (fun a w => ∃ (Sv280 : Nat → Prop), Sl 47 [(0, .string s1), (1, .int .i64 lo2), (2, .int .i64 hi3), (7, .int .i64 sv111), (24, .bool false), (25, .string s1), (26, .int .i64 sv111), (27, .int .u8 c275), (28, .bool (decide (48 ≤ c275))), (29, .bool c279.1), (34, .bool c279.2)] a ∧ Wd ⟨w0, S0, []⟩ Sv280 [] [] w) ?_ ?_
   ·rcases Bool.eq_false_or_eq_true (decide (48 ≤ c275)) with h278 | h278
    ·have hs := hs.fix 29 (.bool true) rfl (vb h278)
     have hsh := ite_t hc279 h278
     refine st_val hs (y_move rfl) ⟨_, rfl, rfl⟩ rfl rfl fun a hs => ?_
     refine st_val hs (y_move rfl) ⟨_, rfl, rfl⟩ rfl rfl fun a hs => ?_
     obtain ⟨c282, h281, hsh⟩ := bind_t hsh
     refine st_val hs (y_indexSM Tryz.runUnderlying9 rfl rfl h281) ⟨_, rfl, rfl⟩ rfl rfl fun a hs => ?_
     refine st_val hs (y_leq rfl rfl) ⟨_, rfl, rfl⟩ rfl rfl fun a hs => ?_
     refine st_val hs (y_pickT rfl rfl) ⟨_, rfl, rfl⟩ rfl rfl fun a hs => ?_
     refine wpList_nil ?_
     have hsh := oi hsh
     subst hsh
     refine then_normal ?_
     exact ⟨Sv259, (hs.wk rfl), (hw.ft [] [] (by decide) rfl rfl)⟩
    have hs := hs.fix 29 (.bool false) rfl (vb h278)
    have hsh := ite_f hc279 h278
    refine st_skip hs rfl rfl rfl rfl rfl fun a hs => ?_
    refine st_skip hs rfl rfl rfl rfl rfl fun a hs => ?_
    refine st_skip hs rfl rfl rfl rfl rfl fun a hs => ?_
    refine st_skip hs rfl rfl rfl rfl rfl fun a hs => ?_
    refine st_val hs (y_pickF rfl rfl) ⟨_, rfl, rfl⟩ rfl rfl fun a hs => ?_
    refine wpList_nil ?_
    have hsh := oi hsh
    subst hsh
    refine then_normal ?_
    exact ⟨Sv259, (hs.wk rfl), (hw.ft [] [] (by decide) rfl rfl)⟩
   rintro a w ⟨Sv280, hs, hw⟩
   refine sv hs (y_pickF rfl rfl) rfl fun a hs => ?_
   refine wpList_nil ?_
   have hsh := oi hsh
   subst hsh
   refine then_normal ?_
   exact ⟨Sv280, (hs.wk rfl), (hw.ft [] [] (by decide) rfl rfl)⟩
  rintro a w ⟨Sv273, hs, hw⟩
  refine sv hs (y_not rfl) rfl fun a hs => ?_
  refine nl ?_
  refine wp_cond_split (hs.ev rfl) (fun h284 => ?_) (fun h284 => ?_)
  ·have hsh := ite_t hsh h284
   refine sr ?_
   refine av hs rfl rfl fun a hs => ?_
   refine nl ?_
   have hsh := oi hsh
   subst hsh
   have h285 := hd216 _ rfl
   subst h285
   refine wp_ret ?_
   refine blk_ret ?_
   refine then_ret ?_
   refine then_ret ?_
   refine blk_ret ?_
   refine then_ret ?_
   exact ret1 hs rfl (rv_tmp rfl) (hw.ret rfl)
  have hsh := ite_f hsh h284
  refine wp_skip ?_
  refine blk_normal ?_
  refine then_normal ?_
  refine wp_region_lit ?_
  refine mv hs rfl rfl fun a hs => ?_
  refine sv hs (y_add rfl rfl) rfl fun a hs => ?_
  obtain ⟨i287, h286, hsh⟩ := bind_t hsh
  refine sv hs (y_assignI rfl h286) rfl fun a hs => ?_
  refine nl ?_
  exact ⟨_, (Option.some.inj hsh).symm, Sv273, (hs.wk rfl), (hw.ft [] [] (by decide) rfl rfl)⟩
 have hsh := ite_f hsh h221
 obtain ⟨rv290, hsh, h291⟩ := map_t hsh
 have h291 := (hd216 _ h291.symm).symm
 subst h291
 refine wp_exit ?_
 refine then_exit ?_
 refine then_exit ?_
 refine blk_exit ?_
 refine then_normal ?_
 refine sr ?_
 refine mv hs rfl rfl fun a hs => ?_
 refine sv hs (y_lenS Tryz.runUnderlying9 rfl) rfl fun a hs => ?_
 refine mv hs rfl rfl fun a hs => ?_
 refine sv hs (y_geq rfl rfl) rfl fun a hs => ?_
 refine mv hs rfl rfl fun a hs => ?_
 refine wpl_join 5 (fun a w1 => w = w1 ∧ Sl 47 [(46, .bool ((decide (lo2 ≤ (s1.size : Int))) && (decide ((s1.size : Int) ≤ hi3))))] a) ?_ ?_
 ·rcases Bool.eq_false_or_eq_true (decide (lo2 ≤ (s1.size : Int))) with h288 | h288
  ·have hs := hs.fix 41 (.bool true) rfl (vb h288)
   refine st_val hs (y_move rfl) ⟨_, rfl, rfl⟩ rfl rfl fun a hs => ?_
   refine st_val hs (y_lenS Tryz.runUnderlying9 rfl) ⟨_, rfl, rfl⟩ rfl rfl fun a hs => ?_
   refine st_val hs (y_move rfl) ⟨_, rfl, rfl⟩ rfl rfl fun a hs => ?_
   refine st_val hs (y_leq rfl rfl) ⟨_, rfl, rfl⟩ rfl rfl fun a hs => ?_
   refine sv hs (y_pickT rfl rfl) rfl fun a hs => ?_
   refine nl ?_
   exact ⟨rfl, (hs.fix 46 (.bool ((decide (lo2 ≤ (s1.size : Int))) && (decide ((s1.size : Int) ≤ hi3)))) rfl (and_t h288)).weaken _ ⟨rfl, trivial⟩⟩
  have hs := hs.fix 41 (.bool false) rfl (vb h288)
  refine st_skip hs rfl rfl rfl rfl rfl fun a hs => ?_
  refine st_skip hs rfl rfl rfl rfl rfl fun a hs => ?_
  refine st_skip hs rfl rfl rfl rfl rfl fun a hs => ?_
  refine st_skip hs rfl rfl rfl rfl rfl fun a hs => ?_
  refine sv hs (y_pickF rfl rfl) rfl fun a hs => ?_
  refine nl ?_
  exact ⟨rfl, (hs.fix 46 (.bool ((decide (lo2 ≤ (s1.size : Int))) && (decide ((s1.size : Int) ≤ hi3)))) rfl (and_f h288)).weaken _ ⟨rfl, trivial⟩⟩
 rintro a w1 ⟨h289, hs⟩
 subst h289
 refine av hs rfl rfl fun a hs => ?_
 refine nl ?_
 have hsh := oi hsh
 subst hsh
 refine wp_ret ?_
 exact ret1 hs rfl (rv_tmp rfl) (hw.ret rfl)

abbrev ref03_Valid_rd (w0 : World) (X : List Nat) (r : Bool) : (Nat → Prop) → World → Value → Prop := fun S w v => v = .bool r
set_option maxHeartbeats 4000000 in
set_option maxRecDepth 100000 in
theorem ref03_Valid_ok {w0 : World} {S0 : Nat → Prop} {s1 : SourceID} {r : Bool} (hsh : ref03_Valid s1 = some r) (hS : ∀ b, S0 b → b < w0.heap.size) : Calls Tryz.prog 76 #[.agg #[.string s1.Network, .string s1.Station, .string s1.Location, .string s1.Channel]] w0 (Ret ([]) w0 S0 (ref03_Valid_rd w0 ([]) r)) := by
 refine calls_of_wp Tryz.func76 rfl ?_
 have hs := Sl.enter #[.agg #[.string s1.Network, .string s1.Station, .string s1.Location, .string s1.Channel]] 26 [(0, .agg #[.string s1.Network, .string s1.Station, .string s1.Location, .string s1.Channel])] rfl ⟨rfl, trivial⟩
 have hw := Wd.enter (E := []) hS (fun _ h => (by cases h))
 delta ref03_Valid at hsh
 refine sr ?_
 refine w_box (cs := [.string s1.Network, .string s1.Station, .string s1.Location, .string s1.Channel]) hs hw rfl rfl rfl trivial ?_
 intro b2 a w hs hw
 refine av hs rfl rfl fun a hs => ?_
 refine nl ?_
 refine sr ?_
 refine sv hs (y_fieldAddr (o' := 0) Tryz.runUnderlying31 rfl Tryz.sizeOf9 rfl rfl rfl) rfl fun a hs => ?_
 refine sv hs (y_loadB1 (hw.ownAt 0 rfl) rfl Tryz.isAgg9 rfl) rfl fun a hs => ?_
 obtain ⟨rv4, h3, hsh⟩ := bind_t hsh
 refine st_callR hs (ref03_code_ok h3 hw.bdom) (do_call Tryz.call106 rfl) trivial rfl rfl ?_
 intro v8 Sv5 w a h6 h7 hs
 subst h7
 have hw := hw.callB h6
 refine mv hs rfl rfl fun a hs => ?_
 obtain ⟨c18, hc18, hsh⟩ := bind_t hsh
 refine wpl_join 4 (fun a w => ∃ (Sv19 : Nat → Prop), Sl 26 [(1, .pointer (some ⟨b2, 0, none⟩)), (10, .bool c18)] a ∧ Wd ⟨w0, S0, []⟩ Sv19 [.box b2 [.string s1.Network, .string s1.Station, .string s1.Location, .string s1.Channel] 31] [] w) ?_ ?_
 ·rcases Bool.eq_false_or_eq_true rv4 with h17 | h17
  ·have hs := hs.fix 6 (.bool true) rfl (vb h17)
   have hsh := ite_t hc18 h17
   refine st_val hs (y_fieldAddr (o' := 1) Tryz.runUnderlying31 rfl Tryz.sizeOf9 rfl rfl rfl) ⟨_, rfl, rfl⟩ rfl rfl fun a hs => ?_
   refine st_val hs (y_loadB1 (hw.ownAt 0 rfl) rfl Tryz.isAgg9 rfl) ⟨_, rfl, rfl⟩ rfl rfl fun a hs => ?_
   obtain ⟨rv21, h20, hsh⟩ := bind_t hsh
   refine st_callR hs (ref03_code_ok h20 hw.bdom) (do_call Tryz.call106 rfl) ⟨_, rfl, rfl⟩ rfl rfl ?_
   intro v25 Sv22 w a h23 h24 hs
   subst h24
   have hw := hw.callB h23
   refine sv hs (y_pickT rfl rfl) rfl fun a hs => ?_
   refine wpList_nil ?_
   have hsh := oi hsh
   subst hsh
   refine then_normal ?_
   exact ⟨S0, (hs.wk rfl), (hw.ft [0] [] (by decide) rfl rfl)⟩
  have hs := hs.fix 6 (.bool false) rfl (vb h17)
  have hsh := ite_f hc18 h17
  refine st_skip hs rfl rfl rfl rfl rfl fun a hs => ?_
  refine st_skip hs rfl rfl rfl rfl rfl fun a hs => ?_
  refine st_skip hs rfl rfl rfl rfl rfl fun a hs => ?_
  refine sv hs (y_pickF rfl rfl) rfl fun a hs => ?_
  refine wpList_nil ?_
  have hsh := oi hsh
  subst hsh
  refine then_normal ?_
  exact ⟨S0, (hs.wk rfl), (hw.ft [0] [] (by decide) rfl rfl)⟩
 rintro a w ⟨Sv19, hs, hw⟩
 refine mv hs rfl rfl fun a hs => ?_
 obtain ⟨c45, hc45, hsh⟩ := bind_t hsh
 refine wpl_join 9 (fun a w => ∃ (Sv46 : Nat → Prop), Sl 26 [(1, .pointer (some ⟨b2, 0, none⟩)), (20, .bool c45)] a ∧ Wd ⟨w0, S0, []⟩ Sv46 [.box b2 [.string s1.Network, .string s1.Station, .string s1.Location, .string s1.Channel] 31] [] w) ?_ ?_
 ·rcases Bool.eq_false_or_eq_true c18 with h44 | h44
  ·have hs := hs.fix 11 (.bool true) rfl (vb h44)
   have hsh := ite_t hc45 h44
   refine st_val hs (y_fieldAddr (o' := 2) Tryz.runUnderlying31 rfl Tryz.sizeOf9 rfl rfl rfl) ⟨_, rfl, rfl⟩ rfl rfl fun a hs => ?_
   refine st_val hs (y_loadB1 (hw.ownAt 0 rfl) rfl Tryz.isAgg9 rfl) ⟨_, rfl, rfl⟩ rfl rfl fun a hs => ?_
   refine st_val hs (y_eqlS rfl rfl) ⟨_, rfl, rfl⟩ rfl rfl fun a hs => ?_
   refine st_val hs (y_move rfl) ⟨_, rfl, rfl⟩ rfl rfl fun a hs => ?_
   obtain ⟨c55, hc55, hsh⟩ := bind_t hsh
   refine wpl_join 4 (fun a w => ∃ (Sv56 : Nat → Prop), Sl 26 [(1, .pointer (some ⟨b2, 0, none⟩)), (11, .bool true), (19, .bool c55)] a ∧ Wd ⟨w0, S0, []⟩ Sv56 [.box b2 [.string s1.Network, .string s1.Station, .string s1.Location, .string s1.Channel] 31] [] w) ?_ ?_
   ·rcases Bool.eq_false_or_eq_true (s1.Location.toList == (⟨#[]⟩ : ByteArray).toList) with h54 | h54
    ·have hs := hs.fix 15 (.bool true) rfl (vb h54)
     have hsh := ite_t hc55 h54
     refine st_skip hs rfl rfl rfl rfl rfl fun a hs => ?_
     refine st_skip hs rfl rfl rfl rfl rfl fun a hs => ?_
     refine st_skip hs rfl rfl rfl rfl rfl fun a hs => ?_
     refine st_val hs (y_pickT rfl rfl) ⟨_, rfl, rfl⟩ rfl rfl fun a hs => ?_
     refine wpList_nil ?_
     have hsh := oi hsh
     subst hsh
     refine then_normal ?_
     exact ⟨Sv19, (hs.wk rfl), (hw.ft [0] [] (by decide) rfl rfl)⟩
    have hs := hs.fix 15 (.bool false) rfl (vb h54)
    have hsh := ite_f hc55 h54
    refine st_val hs (y_fieldAddr (o' := 2) Tryz.runUnderlying31 rfl Tryz.sizeOf9 rfl rfl rfl) ⟨_, rfl, rfl⟩ rfl rfl fun a hs => ?_
    refine st_val hs (y_loadB1 (hw.ownAt 0 rfl) rfl Tryz.isAgg9 rfl) ⟨_, rfl, rfl⟩ rfl rfl fun a hs => ?_
    obtain ⟨rv58, h57, hsh⟩ := bind_t hsh
    refine st_callR hs (ref03_code_ok h57 hw.bdom) (do_call Tryz.call106 rfl) ⟨_, rfl, rfl⟩ rfl rfl ?_
    intro v62 Sv59 w a h60 h61 hs
    subst h61
    have hw := hw.callB h60
    refine st_val hs (y_pickF rfl rfl) ⟨_, rfl, rfl⟩ rfl rfl fun a hs => ?_
    refine wpList_nil ?_
    have hsh := oi hsh
    subst hsh
    refine then_normal ?_
    exact ⟨Sv19, (hs.wk rfl), (hw.ft [0] [] (by decide) rfl rfl)⟩
   rintro a w ⟨Sv56, hs, hw⟩
   refine sv hs (y_pickT rfl rfl) rfl fun a hs => ?_
   refine wpList_nil ?_
   have hsh := oi hsh
   subst hsh
   refine then_normal ?_
   exact ⟨Sv56, (hs.wk rfl), (hw.ft [0] [] (by decide) rfl rfl)⟩
  have hs := hs.fix 11 (.bool false) rfl (vb h44)
  have hsh := ite_f hc45 h44
  refine st_skip hs rfl rfl rfl rfl rfl fun a hs => ?_
  refine st_skip hs rfl rfl rfl rfl rfl fun a hs => ?_
  refine st_skip hs rfl rfl rfl rfl rfl fun a hs => ?_
  refine st_skip hs rfl rfl rfl rfl rfl fun a hs => ?_
  refine st_skipU hs rfl rfl rfl rfl rfl fun a hs => ?_
  refine st_skipU hs rfl rfl rfl rfl rfl fun a hs => ?_
  refine st_skipU hs rfl rfl rfl rfl rfl fun a hs => ?_
  refine st_skip hs rfl rfl rfl rfl rfl fun a hs => ?_
  refine sv hs (y_pickF rfl rfl) rfl fun a hs => ?_
  refine wpList_nil ?_
  have hsh := oi hsh
  subst hsh
  refine then_normal ?_
  exact ⟨Sv19, (hs.wk rfl), (hw.ft [0] [] (by decide) rfl rfl)⟩
 rintro a w ⟨Sv46, hs, hw⟩
 refine mv hs rfl rfl fun a hs => ?_
 obtain ⟨c72, hc72, hsh⟩ := bind_t hsh
 refine wpl_join 4 (fun a w => ∃ (Sv73 : Nat → Prop), Sl 26 [(25, .bool c72)] a ∧ Wd ⟨w0, S0, []⟩ Sv73 [] [] w) ?_ ?_
 ·rcases Bool.eq_false_or_eq_true c45 with h71 | h71
  ·have hs := hs.fix 21 (.bool true) rfl (vb h71)
   have hsh := ite_t hc72 h71
   refine st_val hs (y_fieldAddr (o' := 3) Tryz.runUnderlying31 rfl Tryz.sizeOf9 rfl rfl rfl) ⟨_, rfl, rfl⟩ rfl rfl fun a hs => ?_
   refine st_val hs (y_loadB1 (hw.ownAt 0 rfl) rfl Tryz.isAgg9 rfl) ⟨_, rfl, rfl⟩ rfl rfl fun a hs => ?_
   obtain ⟨rv75, h74, hsh⟩ := bind_t hsh
   refine st_callR hs (ref03_code_ok h74 hw.bdom) (do_call Tryz.call106 rfl) ⟨_, rfl, rfl⟩ rfl rfl ?_
   intro v79 Sv76 w a h77 h78 hs
   subst h78
   have hw := hw.callB h77
   refine sv hs (y_pickT rfl rfl) rfl fun a hs => ?_
   refine wpList_nil ?_
   have hsh := oi hsh
   subst hsh
   refine then_normal ?_
   exact ⟨Sv46, (hs.wk rfl), (hw.ft [] [] (by decide) rfl rfl)⟩
  have hs := hs.fix 21 (.bool false) rfl (vb h71)
  have hsh := ite_f hc72 h71
  refine st_skip hs rfl rfl rfl rfl rfl fun a hs => ?_
  refine st_skip hs rfl rfl rfl rfl rfl fun a hs => ?_
  refine st_skip hs rfl rfl rfl rfl rfl fun a hs => ?_
  refine sv hs (y_pickF rfl rfl) rfl fun a hs => ?_
  refine wpList_nil ?_
  have hsh := oi hsh
  subst hsh
  refine then_normal ?_
  exact ⟨Sv46, (hs.wk rfl), (hw.ft [] [] (by decide) rfl rfl)⟩
 rintro a w ⟨Sv73, hs, hw⟩
 refine av hs rfl rfl fun a hs => ?_
 refine nl ?_
 have hsh := oi hsh
 subst hsh
 refine wp_ret ?_
 exact ret1 hs rfl (rv_tmp rfl) (hw.ret rfl)

abbrev ref02_Valid_rd (w0 : World) (X : List Nat) (r : Bool) : (Nat → Prop) → World → Value → Prop := fun S w v => v = .bool r
set_option maxHeartbeats 4000000 in
set_option maxRecDepth 100000 in
theorem ref02_Valid_ok {w0 : World} {S0 : Nat → Prop} {r1 : Rate} {r : Bool} (hsh : ref02_Valid r1 = some r) (hS : ∀ b, S0 b → b < w0.heap.size) : Calls Tryz.prog 77 #[.agg #[.int .i64 r1.Num, .int .i64 r1.Den]] w0 (Ret ([]) w0 S0 (ref02_Valid_rd w0 ([]) r)) := by
 refine calls_of_wp Tryz.func77 rfl ?_
 have hs := Sl.enter #[.agg #[.int .i64 r1.Num, .int .i64 r1.Den]] 19 [(0, .agg #[.int .i64 r1.Num, .int .i64 r1.Den])] rfl ⟨rfl, trivial⟩
 have hw := Wd.enter (E := []) hS (fun _ h => (by cases h))
 delta ref02_Valid at hsh
 refine sr ?_
 refine w_box (cs := [.int .i64 r1.Num, .int .i64 r1.Den]) hs hw rfl rfl rfl trivial ?_
 intro b2 a w hs hw
 refine av hs rfl rfl fun a hs => ?_
 refine nl ?_
 refine sr ?_
 refine sv hs (y_fieldAddr (o' := 0) Tryz.runUnderlying33 rfl Tryz.sizeOf3 rfl rfl rfl) rfl fun a hs => ?_
 refine sv hs (y_loadB1 (hw.ownAt 0 rfl) rfl Tryz.isAgg3 rfl) rfl fun a hs => ?_
 obtain ⟨rv4, h3, hsh⟩ := bind_t hsh
 refine st_callR hs (ref01_In_ok h3 hw.bdom) (do_call Tryz.call55 rfl) trivial rfl rfl ?_
 intro v8 Sv5 w a h6 h7 hs
 subst h7
 have hw := hw.callB h6
 refine mv hs rfl rfl fun a hs => ?_
 obtain ⟨c18, hc18, hsh⟩ := bind_t hsh
 refine wpl_join 4 (fun a w => ∃ (Sv19 : Nat → Prop), Sl 19 [(1, .pointer (some ⟨b2, 0, none⟩)), (10, .bool c18)] a ∧ Wd ⟨w0, S0, []⟩ Sv19 [.box b2 [.int .i64 r1.Num, .int .i64 r1.Den] 33] [] w) ?_ ?_
 ·rcases Bool.eq_false_or_eq_true rv4 with h17 | h17
  ·have hs := hs.fix 6 (.bool true) rfl (vb h17)
   have hsh := ite_t hc18 h17
   refine st_val hs (y_fieldAddr (o' := 1) Tryz.runUnderlying33 rfl Tryz.sizeOf3 rfl rfl rfl) ⟨_, rfl, rfl⟩ rfl rfl fun a hs => ?_
   refine st_val hs (y_loadB1 (hw.ownAt 0 rfl) rfl Tryz.isAgg3 rfl) ⟨_, rfl, rfl⟩ rfl rfl fun a hs => ?_
   obtain ⟨rv21, h20, hsh⟩ := bind_t hsh
   refine st_callR hs (ref01_In_ok h20 hw.bdom) (do_call Tryz.call55 rfl) ⟨_, rfl, rfl⟩ rfl rfl ?_
   intro v25 Sv22 w a h23 h24 hs
   subst h24
   have hw := hw.callB h23
   refine sv hs (y_pickT rfl rfl) rfl fun a hs => ?_
   refine wpList_nil ?_
   have hsh := oi hsh
   subst hsh
   refine then_normal ?_
   exact ⟨S0, (hs.wk rfl), (hw.ft [0] [] (by decide) rfl rfl)⟩
  have hs := hs.fix 6 (.bool false) rfl (vb h17)
  have hsh := ite_f hc18 h17
  refine st_skip hs rfl rfl rfl rfl rfl fun a hs => ?_
  refine st_skip hs rfl rfl rfl rfl rfl fun a hs => ?_
  refine st_skip hs rfl rfl rfl rfl rfl fun a hs => ?_
  refine sv hs (y_pickF rfl rfl) rfl fun a hs => ?_
  refine wpList_nil ?_
  have hsh := oi hsh
  subst hsh
  refine then_normal ?_
  exact ⟨S0, (hs.wk rfl), (hw.ft [0] [] (by decide) rfl rfl)⟩
 rintro a w ⟨Sv19, hs, hw⟩
 refine mv hs rfl rfl fun a hs => ?_
 obtain ⟨c35, hc35, hsh⟩ := bind_t hsh
 refine wpl_join 7 (fun a w => ∃ (Sv36 : Nat → Prop), Sl 19 [(18, .bool c35)] a ∧ Wd ⟨w0, S0, []⟩ Sv36 [] [] w) ?_ ?_
 ·rcases Bool.eq_false_or_eq_true c18 with h34 | h34
  ·have hs := hs.fix 11 (.bool true) rfl (vb h34)
   have hsh := ite_t hc35 h34
   refine st_val hs (y_fieldAddr (o' := 0) Tryz.runUnderlying33 rfl Tryz.sizeOf3 rfl rfl rfl) ⟨_, rfl, rfl⟩ rfl rfl fun a hs => ?_
   refine st_val hs (y_loadB1 (hw.ownAt 0 rfl) rfl Tryz.isAgg3 rfl) ⟨_, rfl, rfl⟩ rfl rfl fun a hs => ?_
   refine st_val hs (y_fieldAddr (o' := 1) Tryz.runUnderlying33 rfl Tryz.sizeOf3 rfl rfl rfl) ⟨_, rfl, rfl⟩ rfl rfl fun a hs => ?_
   refine st_val hs (y_loadB1 (hw.ownAt 0 rfl) rfl Tryz.isAgg3 rfl) ⟨_, rfl, rfl⟩ rfl rfl fun a hs => ?_
   obtain ⟨rv38, h37, hsh⟩ := bind_t hsh
   refine st_callR hs (ref02_gcd_ok h37 hw.bdom) (do_call Tryz.call70 rfl) ⟨_, rfl, rfl⟩ rfl rfl ?_
   intro v42 Sv39 w a h40 h41 hs
   subst h41
   have hw := hw.callB h40
   refine st_val hs (y_eql rfl rfl) ⟨_, rfl, rfl⟩ rfl rfl fun a hs => ?_
   refine sv hs (y_pickT rfl rfl) rfl fun a hs => ?_
   refine wpList_nil ?_
   have hsh := oi hsh
   subst hsh
   refine then_normal ?_
   exact ⟨Sv19, (hs.wk rfl), (hw.ft [] [] (by decide) rfl rfl)⟩
  have hs := hs.fix 11 (.bool false) rfl (vb h34)
  have hsh := ite_f hc35 h34
  refine st_skip hs rfl rfl rfl rfl rfl fun a hs => ?_
  refine st_skip hs rfl rfl rfl rfl rfl fun a hs => ?_
  refine st_skip hs rfl rfl rfl rfl rfl fun a hs => ?_
  refine st_skip hs rfl rfl rfl rfl rfl fun a hs => ?_
  refine st_skip hs rfl rfl rfl rfl rfl fun a hs => ?_
  refine st_skip hs rfl rfl rfl rfl rfl fun a hs => ?_
  refine sv hs (y_pickF rfl rfl) rfl fun a hs => ?_
  refine wpList_nil ?_
  have hsh := oi hsh
  subst hsh
  refine then_normal ?_
  exact ⟨Sv19, (hs.wk rfl), (hw.ft [] [] (by decide) rfl rfl)⟩
 rintro a w ⟨Sv36, hs, hw⟩
 refine av hs rfl rfl fun a hs => ?_
 refine nl ?_
 have hsh := oi hsh
 subst hsh
 refine wp_ret ?_
 exact ret1 hs rfl (rv_tmp rfl) (hw.ret rfl)

abbrev ref05_Sample_rd (w0 : World) (X : List Nat) (r : Bool) : (Nat → Prop) → World → Value → Prop := fun S w v => v = .bool r
set_option maxHeartbeats 4000000 in
set_option maxRecDepth 100000 in
theorem ref05_Sample_ok {w0 : World} {S0 : Nat → Prop} {n1 : Int} {r : Bool} (hsh : ref05_Sample n1 = some r) (hS : ∀ b, S0 b → b < w0.heap.size) : Calls Tryz.prog 107 #[.int .i64 n1] w0 (Ret ([]) w0 S0 (ref05_Sample_rd w0 ([]) r)) := by
 refine calls_of_wp Tryz.func107 rfl ?_
 have hs := Sl.enter #[.int .i64 n1] 5 [(0, .int .i64 n1)] rfl ⟨rfl, trivial⟩
 have hw := Wd.enter (E := []) hS (fun _ h => (by cases h))
 delta ref05_Sample at hsh
 refine sr ?_
 refine av hs rfl rfl fun a hs => ?_
 refine nl ?_
 refine sr ?_
 refine mv hs rfl rfl fun a hs => ?_
 obtain ⟨rv3, h2, hsh⟩ := bind_t hsh
 refine st_callR hs (ref01_In_ok h2 hw.bdom) (do_call Tryz.call55 rfl) trivial rfl rfl ?_
 intro v7 Sv4 w a h5 h6 hs
 subst h6
 have hw := hw.callB h5
 refine av hs rfl rfl fun a hs => ?_
 refine nl ?_
 have hsh := oi hsh
 subst hsh
 refine wp_ret ?_
 exact ret1 hs rfl (rv_tmp rfl) (hw.ret rfl)

abbrev ref05_InRange_rd (w0 : World) (X : List Nat) (r : Bool) : (Nat → Prop) → World → Value → Prop := fun S w v => v = .bool r
set_option maxHeartbeats 4000000 in
set_option maxRecDepth 100000 in
theorem ref05_InRange_ok {w0 : World} {S0 : Nat → Prop} {p2 : Option Addr} {k3 : Nat} {l1 : (List Int)} {r : Bool} (hsh : ref05_InRange l1 = some r) (hS : ∀ b, S0 b → b < w0.heap.size) (h4 : (SlA p2 l1.length k3 l1).p S0 w0) : Calls Tryz.prog 78 #[.slice p2 l1.length k3] w0 (Ret ([]) w0 S0 (ref05_InRange_rd w0 ([]) r)) := by
 refine calls_of_wp Tryz.func78 rfl ?_
 have hs := Sl.enter #[.slice p2 l1.length k3] 16 [(0, .slice p2 l1.length k3)] rfl ⟨rfl, trivial⟩
 have hw := Wd.enter (E := []) hS (fun _ h => (by cases h))
 have hw := hw.addE h4
 delta ref05_InRange at hsh
 refine sr ?_
 refine av hs rfl rfl fun a hs => ?_
 refine nl ?_
 refine wp_seq ?_
 refine sr ?_
 refine av hs rfl rfl fun a hs => ?_
 refine nl ?_
 refine wp_block ?_
 refine wp_while (fun sv82 a w => ∃ (Sv132 : Nat → Prop), Sl 16 [(0, .slice p2 l1.length k3), (3, .int .i64 sv82)] a ∧ Wd ⟨w0, S0, []⟩ Sv132 [] [SlA p2 l1.length k3 l1] w) 0 hsh ⟨S0, (hs.wk rfl), (hw.ft [] [0] (by decide) rfl rfl)⟩ ?_
 repeat clear hsh
 rintro sv82 a w tv158 ⟨Sv132, hs, hw⟩ hsh hd157
 delta ref05_InRange_l2 at hsh
 refine wp_seq ?_
 refine sr ?_
 refine mv hs rfl rfl fun a hs => ?_
 refine mv hs rfl rfl fun a hs => ?_
 refine sv hs (y_len Tryz.runUnderlying22 rfl) rfl fun a hs => ?_
 refine sv hs (y_lss rfl rfl) rfl fun a hs => ?_
 refine nl ?_
 refine wp_cond_split (hs.ev rfl) (fun h162 => ?_) (fun h162 => ?_)
 ·have hsh := ite_t hsh h162
  refine wp_skip ?_
  refine then_normal ?_
  refine wp_seq ?_
  refine wp_block ?_
  refine sr ?_
  refine mv hs rfl rfl fun a hs => ?_
  refine mv hs rfl rfl fun a hs => ?_
  obtain ⟨x186, h184, hsh⟩ := bind_t hsh
  obtain ⟨b192, o193, q190, c191, h194, h187, h188, h189, h185⟩ := hw.elemV 0 rfl h184
  have hsv195 := hs
  have hwv196 := hw
  subst h194
  have hs := hsv195
  have hw := hwv196
  obtain ⟨_, rfl, rfl⟩ := h185
  have hw := hw.addE h189
  refine sv hs (y_indexAt Tryz.runUnderlying22 Tryz.sizeOf3 rfl rfl h187.1 h187.2 h188) rfl fun a hs => ?_
  refine sv hs (y_loadE1 (j := 0) (hw.ceAt 0 rfl) rfl Tryz.isAgg3 rfl) rfl fun a hs => ?_
  obtain ⟨rv198, h197, hsh⟩ := bind_t hsh
  refine st_callR hs (ref05_Sample_ok h197 hw.bdom) (do_call Tryz.call107 rfl) trivial rfl rfl ?_
  intro v202 Sv199 w a h200 h201 hs
  subst h201
  have hw := hw.callB h200
  refine sv hs (y_not rfl) rfl fun a hs => ?_
  refine nl ?_
  refine wp_cond_split (hs.ev rfl) (fun h205 => ?_) (fun h205 => ?_)
  ·have hsh := ite_t hsh h205
   refine sr ?_
   refine av hs rfl rfl fun a hs => ?_
   refine nl ?_
   have hsh := oi hsh
   subst hsh
   have h206 := hd157 _ rfl
   subst h206
   refine wp_ret ?_
   refine blk_ret ?_
   refine then_ret ?_
   refine then_ret ?_
   refine blk_ret ?_
   refine then_ret ?_
   exact ret1 hs rfl (rv_tmp rfl) (hw.ret rfl)
  have hsh := ite_f hsh h205
  refine wp_skip ?_
  refine blk_normal ?_
  refine then_normal ?_
  refine wp_region_lit ?_
  refine mv hs rfl rfl fun a hs => ?_
  refine sv hs (y_add rfl rfl) rfl fun a hs => ?_
  obtain ⟨i208, h207, hsh⟩ := bind_t hsh
  refine sv hs (y_assignI rfl h207) rfl fun a hs => ?_
  refine nl ?_
  exact ⟨_, (Option.some.inj hsh).symm, Sv132, (hs.wk rfl), (hw.ft [] [1] (by decide) rfl rfl)⟩
 have hsh := ite_f hsh h162
 obtain ⟨rv209, hsh, h210⟩ := map_t hsh
 have h210 := (hd157 _ h210.symm).symm
 subst h210
 refine wp_exit ?_
 refine then_exit ?_
 refine then_exit ?_
 refine blk_exit ?_
 refine then_normal ?_
 refine sr ?_
 refine av hs rfl rfl fun a hs => ?_
 refine nl ?_
 have hsh := oi hsh
 subst hsh
 refine wp_ret ?_
 exact ret1 hs rfl (rv_tmp rfl) (hw.ret rfl)

abbrev ref02_Time_rd (w0 : World) (X : List Nat) (r : (Int × Int)) : (Nat → Prop) → World → Value → Prop := fun S w v => v = .tuple #[.int .i64 r.1, .int .i64 r.2]
set_option maxHeartbeats 4000000 in
set_option maxRecDepth 100000 in
theorem ref02_Time_ok {w0 : World} {S0 : Nat → Prop} {start1 : Int} {r2 : Rate} {k3 : Int} {r : (Int × Int)} (hsh : ref02_Time start1 r2 k3 = some r) (hS : ∀ b, S0 b → b < w0.heap.size) : Calls Tryz.prog 79 #[.int .i64 start1, .agg #[.int .i64 r2.Num, .int .i64 r2.Den], .int .i64 k3] w0 (Ret ([]) w0 S0 (ref02_Time_rd w0 ([]) r)) := by
 refine calls_of_wp Tryz.func79 rfl ?_
 have hs := Sl.enter #[.int .i64 start1, .agg #[.int .i64 r2.Num, .int .i64 r2.Den], .int .i64 k3] 29 [(0, .int .i64 start1), (1, .agg #[.int .i64 r2.Num, .int .i64 r2.Den]), (2, .int .i64 k3)] rfl ⟨rfl, rfl, rfl, trivial⟩
 have hw := Wd.enter (E := []) hS (fun _ h => (by cases h))
 delta ref02_Time at hsh
 refine sr ?_
 refine w_box (cs := [.int .i64 r2.Num, .int .i64 r2.Den]) hs hw rfl rfl rfl trivial ?_
 intro b4 a w hs hw
 refine av hs rfl rfl fun a hs => ?_
 refine av hs rfl rfl fun a hs => ?_
 refine nl ?_
 refine wp_seq ?_
 refine sr ?_
 refine sv hs (y_loadBA (hw.ownAt 0 rfl) rfl Tryz.isAgg33 Tryz.sizeOf33 rfl rfl) rfl fun a hs => ?_
 obtain ⟨rv6, h5, hsh⟩ := bind_t hsh
 refine st_callR hs (ref02_Valid_ok h5 hw.bdom) (do_call Tryz.call77 rfl) trivial rfl rfl ?_
 intro v10 Sv7 w a h8 h9 hs
 subst h9
 have hw := hw.callB h8
 refine sv hs (y_not rfl) rfl fun a hs => ?_
 refine nl ?_
 refine wp_cond_split (hs.ev rfl) (fun h13 => ?_) (fun h13 => ?_)
 ·have hsh := ite_t hsh h13
  refine sr ?_
  refine av hs rfl rfl fun a hs => ?_
  refine av hs rfl rfl fun a hs => ?_
  refine nl ?_
  have hsh := oi hsh
  subst hsh
  refine wp_ret ?_
  refine then_ret ?_
  exact ret2 hs rfl (rv_tmp rfl) (rv_tmp rfl) (hw.ret rfl)
 have hsh := ite_f hsh h13
 refine wp_skip ?_
 refine then_normal ?_
 refine wp_seq ?_
 refine sr ?_
 refine mv hs rfl rfl fun a hs => ?_
 obtain ⟨rv15, h14, hsh⟩ := bind_t hsh
 refine st_callR hs (ref01_In_ok h14 hw.bdom) (do_call Tryz.call55 rfl) trivial rfl rfl ?_
 intro v19 Sv16 w a h17 h18 hs
 subst h18
 have hw := hw.callB h17
 refine sv hs (y_not rfl) rfl fun a hs => ?_
 refine mv hs rfl rfl fun a hs => ?_
 obtain ⟨c29, hc29, hsh⟩ := bind_t hsh
 refine wpl_join 4 (fun a w => ∃ (Sv30 : Nat → Prop), Sl 29 [(0, .int .i64 start1), (2, .int .i64 k3), (4, .pointer (some ⟨b4, 0, none⟩)), (18, .bool c29)] a ∧ Wd ⟨w0, S0, []⟩ Sv30 [.box b4 [.int .i64 r2.Num, .int .i64 r2.Den] 33] [] w) ?_ ?_
 ·rcases Bool.eq_false_or_eq_true (!rv15) with h28 | h28
  ·have hs := hs.fix 14 (.bool true) rfl (vb h28)
   have hsh := ite_t hc29 h28
   refine st_skip hs rfl rfl rfl rfl rfl fun a hs => ?_
   refine st_skip hs rfl rfl rfl rfl rfl fun a hs => ?_
   refine st_skip hs rfl rfl rfl rfl rfl fun a hs => ?_
   refine sv hs (y_pickT rfl rfl) rfl fun a hs => ?_
   refine wpList_nil ?_
   have hsh := oi hsh
   subst hsh
   refine then_normal ?_
   exact ⟨S0, (hs.wk rfl), (hw.ft [0] [] (by decide) rfl rfl)⟩
  have hs := hs.fix 14 (.bool false) rfl (vb h28)
  have hsh := ite_f hc29 h28
  refine st_val hs (y_move rfl) ⟨_, rfl, rfl⟩ rfl rfl fun a hs => ?_
  obtain ⟨rv32, h31, hsh⟩ := bind_t hsh
  refine st_callR hs (ref01_In_ok h31 hw.bdom) (do_call Tryz.call55 rfl) ⟨_, rfl, rfl⟩ rfl rfl ?_
  intro v36 Sv33 w a h34 h35 hs
  subst h35
  have hw := hw.callB h34
  refine st_val hs (y_not rfl) ⟨_, rfl, rfl⟩ rfl rfl fun a hs => ?_
  refine sv hs (y_pickF rfl rfl) rfl fun a hs => ?_
  refine wpList_nil ?_
  have hsh := oi hsh
  subst hsh
  refine then_normal ?_
  exact ⟨S0, (hs.wk rfl), (hw.ft [0] [] (by decide) rfl rfl)⟩
 rintro a w ⟨Sv30, hs, hw⟩
 refine nl ?_
 refine wp_cond_split (hs.ev rfl) (fun h39 => ?_) (fun h39 => ?_)
 ·have hsh := ite_t hsh h39
  refine sr ?_
  refine av hs rfl rfl fun a hs => ?_
  refine av hs rfl rfl fun a hs => ?_
  refine nl ?_
  have hsh := oi hsh
  subst hsh
  refine wp_ret ?_
  refine then_ret ?_
  exact ret2 hs rfl (rv_tmp rfl) (rv_tmp rfl) (hw.ret rfl)
 have hsh := ite_f hsh h39
 refine wp_skip ?_
 refine then_normal ?_
 refine sr ?_
 refine mv hs rfl rfl fun a hs => ?_
 refine mv hs rfl rfl fun a hs => ?_
 refine sv hs (y_fieldAddr (o' := 1) Tryz.runUnderlying33 rfl Tryz.sizeOf3 rfl rfl rfl) rfl fun a hs => ?_
 refine sv hs (y_loadB1 (hw.ownAt 0 rfl) rfl Tryz.isAgg3 rfl) rfl fun a hs => ?_
 refine sv hs (y_mul rfl rfl) rfl fun a hs => ?_
 refine sv hs (y_mul rfl rfl) rfl fun a hs => ?_
 refine sv hs (y_fieldAddr (o' := 0) Tryz.runUnderlying33 rfl Tryz.sizeOf3 rfl rfl rfl) rfl fun a hs => ?_
 refine sv hs (y_loadB1 (hw.ownAt 0 rfl) rfl Tryz.isAgg3 rfl) rfl fun a hs => ?_
 obtain ⟨quo41, h40, hsh⟩ := bind_t hsh
 refine sv hs (y_quoM rfl rfl h40) rfl fun a hs => ?_
 refine sv hs (y_add rfl rfl) rfl fun a hs => ?_
 obtain ⟨x43, h42, hsh⟩ := bind_t hsh
 refine sv hs (y_assignI rfl h42) rfl fun a hs => ?_
 refine av hs rfl rfl fun a hs => ?_
 refine nl ?_
 have hsh := oi hsh
 subst hsh
 refine wp_ret ?_
 exact ret2 hs rfl (rv_tmp rfl) (rv_tmp rfl) (hw.ret rfl)

abbrev ref14_Time_rd (w0 : World) (X : List Nat) (r : Int) : (Nat → Prop) → World → Value → Prop := fun S w v => v = .int .i64 r
set_option maxHeartbeats 4000000 in
set_option maxRecDepth 100000 in
theorem ref14_Time_ok {w0 : World} {S0 : Nat → Prop} {p2 : Option Addr} {k3 : Nat} {r1 : Record} {i5 : Int} {r : Int} (hsh : ref14_Time r1 i5 = some r) (hS : ∀ b, S0 b → b < w0.heap.size) (h4 : (SlA p2 r1.Samples.length k3 r1.Samples).p S0 w0) : Calls Tryz.prog 52 #[.agg #[.string r1.Source.Network, .string r1.Source.Station, .string r1.Source.Location, .string r1.Source.Channel, .int .i64 r1.Start, .int .i64 r1.First, .int .i64 r1.Rate.Num, .int .i64 r1.Rate.Den, .int .i64 r1.Error, .int .i64 r1.Run, .int .i64 r1.Seq, .slice p2 r1.Samples.length k3], .int .i64 i5] w0 (Ret ([]) w0 S0 (ref14_Time_rd w0 ([]) r)) := by
 refine calls_of_wp Tryz.func52 rfl ?_
 have hs := Sl.enter #[.agg #[.string r1.Source.Network, .string r1.Source.Station, .string r1.Source.Location, .string r1.Source.Channel, .int .i64 r1.Start, .int .i64 r1.First, .int .i64 r1.Rate.Num, .int .i64 r1.Rate.Den, .int .i64 r1.Error, .int .i64 r1.Run, .int .i64 r1.Seq, .slice p2 r1.Samples.length k3], .int .i64 i5] 20 [(0, .agg #[.string r1.Source.Network, .string r1.Source.Station, .string r1.Source.Location, .string r1.Source.Channel, .int .i64 r1.Start, .int .i64 r1.First, .int .i64 r1.Rate.Num, .int .i64 r1.Rate.Den, .int .i64 r1.Error, .int .i64 r1.Run, .int .i64 r1.Seq, .slice p2 r1.Samples.length k3]), (1, .int .i64 i5)] rfl ⟨rfl, rfl, trivial⟩
 have hw := Wd.enter (E := []) hS (fun _ h => (by cases h))
 have hw := hw.addE h4
 delta ref14_Time at hsh
 refine sr ?_
 refine w_box (cs := [.string r1.Source.Network, .string r1.Source.Station, .string r1.Source.Location, .string r1.Source.Channel, .int .i64 r1.Start, .int .i64 r1.First, .int .i64 r1.Rate.Num, .int .i64 r1.Rate.Den, .int .i64 r1.Error, .int .i64 r1.Run, .int .i64 r1.Seq, .slice p2 r1.Samples.length k3]) hs hw rfl rfl rfl trivial ?_
 intro b6 a w hs hw
 refine av hs rfl rfl fun a hs => ?_
 refine nl ?_
 refine sr ?_
 refine sv hs (y_fieldAddr (o' := 4) Tryz.runUnderlying35 rfl Tryz.sizeOf3 rfl rfl rfl) rfl fun a hs => ?_
 refine sv hs (y_loadB1 (hw.ownAt 0 rfl) rfl Tryz.isAgg3 rfl) rfl fun a hs => ?_
 refine sv hs (y_fieldAddr (o' := 6) Tryz.runUnderlying35 rfl Tryz.sizeOf33 rfl rfl rfl) rfl fun a hs => ?_
 refine sv hs (y_loadBA (hw.ownAt 0 rfl) rfl Tryz.isAgg33 Tryz.sizeOf33 rfl rfl) rfl fun a hs => ?_
 refine sv hs (y_fieldAddr (o' := 5) Tryz.runUnderlying35 rfl Tryz.sizeOf3 rfl rfl rfl) rfl fun a hs => ?_
 refine sv hs (y_loadB1 (hw.ownAt 0 rfl) rfl Tryz.isAgg3 rfl) rfl fun a hs => ?_
 refine mv hs rfl rfl fun a hs => ?_
 refine sv hs (y_add rfl rfl) rfl fun a hs => ?_
 obtain ⟨rv8, h7, hsh⟩ := bind_t hsh
 refine st_callR hs (ref02_Time_ok h7 hw.bdom) (do_call Tryz.call79 rfl) trivial rfl rfl ?_
 intro v12 Sv9 w a h10 h11 hs
 subst h11
 have hw := hw.callB h10
 refine mv hs rfl rfl fun a hs => ?_
 refine sv hs (y_extract rfl rfl) rfl fun a hs => ?_
 refine sv hs (y_extract rfl rfl) rfl fun a hs => ?_
 refine av hs rfl rfl fun a hs => ?_
 refine av hs rfl rfl fun a hs => ?_
 refine nl ?_
 refine sr ?_
 refine mv hs rfl rfl fun a hs => ?_
 refine av hs rfl rfl fun a hs => ?_
 refine nl ?_
 have hsh := oi hsh
 subst hsh
 refine wp_ret ?_
 exact ret1 hs rfl (rv_tmp rfl) (hw.ret rfl)

abbrev ref14_Valid_rd (w0 : World) (X : List Nat) (r : Bool) : (Nat → Prop) → World → Value → Prop := fun S w v => v = .bool r
set_option maxHeartbeats 4000000 in
set_option maxRecDepth 100000 in
theorem ref14_Valid_ok {w0 : World} {S0 : Nat → Prop} {p2 : Option Addr} {k3 : Nat} {r1 : Record} {r : Bool} (hsh : ref14_Valid r1 = some r) (hS : ∀ b, S0 b → b < w0.heap.size) (h4 : (SlA p2 r1.Samples.length k3 r1.Samples).p S0 w0) : Calls Tryz.prog 51 #[.agg #[.string r1.Source.Network, .string r1.Source.Station, .string r1.Source.Location, .string r1.Source.Channel, .int .i64 r1.Start, .int .i64 r1.First, .int .i64 r1.Rate.Num, .int .i64 r1.Rate.Den, .int .i64 r1.Error, .int .i64 r1.Run, .int .i64 r1.Seq, .slice p2 r1.Samples.length k3]] w0 (Ret ([]) w0 S0 (ref14_Valid_rd w0 ([]) r)) := by
 refine calls_of_wp Tryz.func51 rfl ?_
 have hs := Sl.enter #[.agg #[.string r1.Source.Network, .string r1.Source.Station, .string r1.Source.Location, .string r1.Source.Channel, .int .i64 r1.Start, .int .i64 r1.First, .int .i64 r1.Rate.Num, .int .i64 r1.Rate.Den, .int .i64 r1.Error, .int .i64 r1.Run, .int .i64 r1.Seq, .slice p2 r1.Samples.length k3]] 68 [(0, .agg #[.string r1.Source.Network, .string r1.Source.Station, .string r1.Source.Location, .string r1.Source.Channel, .int .i64 r1.Start, .int .i64 r1.First, .int .i64 r1.Rate.Num, .int .i64 r1.Rate.Den, .int .i64 r1.Error, .int .i64 r1.Run, .int .i64 r1.Seq, .slice p2 r1.Samples.length k3])] rfl ⟨rfl, trivial⟩
 have hw := Wd.enter (E := []) hS (fun _ h => (by cases h))
 have hw := hw.addE h4
 delta ref14_Valid at hsh
 refine sr ?_
 refine w_box (cs := [.string r1.Source.Network, .string r1.Source.Station, .string r1.Source.Location, .string r1.Source.Channel, .int .i64 r1.Start, .int .i64 r1.First, .int .i64 r1.Rate.Num, .int .i64 r1.Rate.Den, .int .i64 r1.Error, .int .i64 r1.Run, .int .i64 r1.Seq, .slice p2 r1.Samples.length k3]) hs hw rfl rfl rfl trivial ?_
 intro b5 a w hs hw
 refine av hs rfl rfl fun a hs => ?_
 refine nl ?_
 refine wp_seq ?_
 refine sr ?_
 refine sv hs (y_fieldAddr (o' := 0) Tryz.runUnderlying35 rfl Tryz.sizeOf31 rfl rfl rfl) rfl fun a hs => ?_
 refine sv hs (y_loadBA (hw.ownAt 0 rfl) rfl Tryz.isAgg31 Tryz.sizeOf31 rfl rfl) rfl fun a hs => ?_
 obtain ⟨rv7, h6, hsh⟩ := bind_t hsh
 refine st_callR hs (ref03_Valid_ok h6 hw.bdom) (do_call Tryz.call76 rfl) trivial rfl rfl ?_
 intro v11 Sv8 w a h9 h10 hs
 subst h10
 have hw := hw.callB h9
 refine sv hs (y_not rfl) rfl fun a hs => ?_
 refine mv hs rfl rfl fun a hs => ?_
 obtain ⟨c21, hc21, hsh⟩ := bind_t hsh
 refine wpl_join 5 (fun a w => ∃ (Sv22 : Nat → Prop), Sl 68 [(1, .pointer (some ⟨b5, 0, none⟩)), (12, .bool c21)] a ∧ Wd ⟨w0, S0, []⟩ Sv22 [.box b5 [.string r1.Source.Network, .string r1.Source.Station, .string r1.Source.Location, .string r1.Source.Channel, .int .i64 r1.Start, .int .i64 r1.First, .int .i64 r1.Rate.Num, .int .i64 r1.Rate.Den, .int .i64 r1.Error, .int .i64 r1.Run, .int .i64 r1.Seq, .slice p2 r1.Samples.length k3] 35] [SlA p2 r1.Samples.length k3 r1.Samples] w) ?_ ?_
 ·rcases Bool.eq_false_or_eq_true (!rv7) with h20 | h20
  ·have hs := hs.fix 7 (.bool true) rfl (vb h20)
   have hsh := ite_t hc21 h20
   refine st_skip hs rfl rfl rfl rfl rfl fun a hs => ?_
   refine st_skip hs rfl rfl rfl rfl rfl fun a hs => ?_
   refine st_skip hs rfl rfl rfl rfl rfl fun a hs => ?_
   refine st_skip hs rfl rfl rfl rfl rfl fun a hs => ?_
   refine sv hs (y_pickT rfl rfl) rfl fun a hs => ?_
   refine wpList_nil ?_
   have hsh := oi hsh
   subst hsh
   refine then_normal ?_
   exact ⟨S0, (hs.wk rfl), (hw.ft [0] [0] (by decide) rfl rfl)⟩
  have hs := hs.fix 7 (.bool false) rfl (vb h20)
  have hsh := ite_f hc21 h20
  refine st_val hs (y_fieldAddr (o' := 6) Tryz.runUnderlying35 rfl Tryz.sizeOf33 rfl rfl rfl) ⟨_, rfl, rfl⟩ rfl rfl fun a hs => ?_
  refine st_val hs (y_loadBA (hw.ownAt 0 rfl) rfl Tryz.isAgg33 Tryz.sizeOf33 rfl rfl) ⟨_, rfl, rfl⟩ rfl rfl fun a hs => ?_
  obtain ⟨rv24, h23, hsh⟩ := bind_t hsh
  refine st_callR hs (ref02_Valid_ok h23 hw.bdom) (do_call Tryz.call77 rfl) ⟨_, rfl, rfl⟩ rfl rfl ?_
  intro v28 Sv25 w a h26 h27 hs
  subst h27
  have hw := hw.callB h26
  refine st_val hs (y_not rfl) ⟨_, rfl, rfl⟩ rfl rfl fun a hs => ?_
  refine sv hs (y_pickF rfl rfl) rfl fun a hs => ?_
  refine wpList_nil ?_
  have hsh := oi hsh
  subst hsh
  refine then_normal ?_
  exact ⟨S0, (hs.wk rfl), (hw.ft [0] [0] (by decide) rfl rfl)⟩
 rintro a w ⟨Sv22, hs, hw⟩
 refine mv hs rfl rfl fun a hs => ?_
 obtain ⟨c38, hc38, hsh⟩ := bind_t hsh
 refine wpl_join 5 (fun a w => ∃ (Sv39 : Nat → Prop), Sl 68 [(1, .pointer (some ⟨b5, 0, none⟩)), (18, .bool c38)] a ∧ Wd ⟨w0, S0, []⟩ Sv39 [.box b5 [.string r1.Source.Network, .string r1.Source.Station, .string r1.Source.Location, .string r1.Source.Channel, .int .i64 r1.Start, .int .i64 r1.First, .int .i64 r1.Rate.Num, .int .i64 r1.Rate.Den, .int .i64 r1.Error, .int .i64 r1.Run, .int .i64 r1.Seq, .slice p2 r1.Samples.length k3] 35] [SlA p2 r1.Samples.length k3 r1.Samples] w) ?_ ?_
 ·rcases Bool.eq_false_or_eq_true c21 with h37 | h37
  ·have hs := hs.fix 13 (.bool true) rfl (vb h37)
   have hsh := ite_t hc38 h37
   refine st_skip hs rfl rfl rfl rfl rfl fun a hs => ?_
   refine st_skip hs rfl rfl rfl rfl rfl fun a hs => ?_
   refine st_skip hs rfl rfl rfl rfl rfl fun a hs => ?_
   refine st_skip hs rfl rfl rfl rfl rfl fun a hs => ?_
   refine sv hs (y_pickT rfl rfl) rfl fun a hs => ?_
   refine wpList_nil ?_
   have hsh := oi hsh
   subst hsh
   refine then_normal ?_
   exact ⟨Sv22, (hs.wk rfl), (hw.ft [0] [0] (by decide) rfl rfl)⟩
  have hs := hs.fix 13 (.bool false) rfl (vb h37)
  have hsh := ite_f hc38 h37
  refine st_val hs (y_fieldAddr (o' := 4) Tryz.runUnderlying35 rfl Tryz.sizeOf3 rfl rfl rfl) ⟨_, rfl, rfl⟩ rfl rfl fun a hs => ?_
  refine st_val hs (y_loadB1 (hw.ownAt 0 rfl) rfl Tryz.isAgg3 rfl) ⟨_, rfl, rfl⟩ rfl rfl fun a hs => ?_
  obtain ⟨rv41, h40, hsh⟩ := bind_t hsh
  refine st_callR hs (ref01_In_ok h40 hw.bdom) (do_call Tryz.call55 rfl) ⟨_, rfl, rfl⟩ rfl rfl ?_
  intro v45 Sv42 w a h43 h44 hs
  subst h44
  have hw := hw.callB h43
  refine st_val hs (y_not rfl) ⟨_, rfl, rfl⟩ rfl rfl fun a hs => ?_
  refine sv hs (y_pickF rfl rfl) rfl fun a hs => ?_
  refine wpList_nil ?_
  have hsh := oi hsh
  subst hsh
  refine then_normal ?_
  exact ⟨Sv22, (hs.wk rfl), (hw.ft [0] [0] (by decide) rfl rfl)⟩
 rintro a w ⟨Sv39, hs, hw⟩
 refine mv hs rfl rfl fun a hs => ?_
 obtain ⟨c55, hc55, hsh⟩ := bind_t hsh
 refine wpl_join 5 (fun a w => ∃ (Sv56 : Nat → Prop), Sl 68 [(1, .pointer (some ⟨b5, 0, none⟩)), (24, .bool c55)] a ∧ Wd ⟨w0, S0, []⟩ Sv56 [.box b5 [.string r1.Source.Network, .string r1.Source.Station, .string r1.Source.Location, .string r1.Source.Channel, .int .i64 r1.Start, .int .i64 r1.First, .int .i64 r1.Rate.Num, .int .i64 r1.Rate.Den, .int .i64 r1.Error, .int .i64 r1.Run, .int .i64 r1.Seq, .slice p2 r1.Samples.length k3] 35] [SlA p2 r1.Samples.length k3 r1.Samples] w) ?_ ?_
 ·rcases Bool.eq_false_or_eq_true c38 with h54 | h54
  ·have hs := hs.fix 19 (.bool true) rfl (vb h54)
   have hsh := ite_t hc55 h54
   refine st_skip hs rfl rfl rfl rfl rfl fun a hs => ?_
   refine st_skip hs rfl rfl rfl rfl rfl fun a hs => ?_
   refine st_skip hs rfl rfl rfl rfl rfl fun a hs => ?_
   refine st_skip hs rfl rfl rfl rfl rfl fun a hs => ?_
   refine sv hs (y_pickT rfl rfl) rfl fun a hs => ?_
   refine wpList_nil ?_
   have hsh := oi hsh
   subst hsh
   refine then_normal ?_
   exact ⟨Sv39, (hs.wk rfl), (hw.ft [0] [0] (by decide) rfl rfl)⟩
  have hs := hs.fix 19 (.bool false) rfl (vb h54)
  have hsh := ite_f hc55 h54
  refine st_val hs (y_fieldAddr (o' := 5) Tryz.runUnderlying35 rfl Tryz.sizeOf3 rfl rfl rfl) ⟨_, rfl, rfl⟩ rfl rfl fun a hs => ?_
  refine st_val hs (y_loadB1 (hw.ownAt 0 rfl) rfl Tryz.isAgg3 rfl) ⟨_, rfl, rfl⟩ rfl rfl fun a hs => ?_
  obtain ⟨rv58, h57, hsh⟩ := bind_t hsh
  refine st_callR hs (ref01_In_ok h57 hw.bdom) (do_call Tryz.call55 rfl) ⟨_, rfl, rfl⟩ rfl rfl ?_
  intro v62 Sv59 w a h60 h61 hs
  subst h61
  have hw := hw.callB h60
  refine st_val hs (y_not rfl) ⟨_, rfl, rfl⟩ rfl rfl fun a hs => ?_
  refine sv hs (y_pickF rfl rfl) rfl fun a hs => ?_
  refine wpList_nil ?_
  have hsh := oi hsh
  subst hsh
  refine then_normal ?_
  exact ⟨Sv39, (hs.wk rfl), (hw.ft [0] [0] (by decide) rfl rfl)⟩
 rintro a w ⟨Sv56, hs, hw⟩
 refine mv hs rfl rfl fun a hs => ?_
 obtain ⟨c72, hc72, hsh⟩ := bind_t hsh
 refine wpl_join 6 (fun a w => ∃ (Sv73 : Nat → Prop), Sl 68 [(1, .pointer (some ⟨b5, 0, none⟩)), (31, .bool c72)] a ∧ Wd ⟨w0, S0, []⟩ Sv73 [.box b5 [.string r1.Source.Network, .string r1.Source.Station, .string r1.Source.Location, .string r1.Source.Channel, .int .i64 r1.Start, .int .i64 r1.First, .int .i64 r1.Rate.Num, .int .i64 r1.Rate.Den, .int .i64 r1.Error, .int .i64 r1.Run, .int .i64 r1.Seq, .slice p2 r1.Samples.length k3] 35] [SlA p2 r1.Samples.length k3 r1.Samples] w) ?_ ?_
 ·rcases Bool.eq_false_or_eq_true c55 with h71 | h71
  ·have hs := hs.fix 25 (.bool true) rfl (vb h71)
   have hsh := ite_t hc72 h71
   refine st_skip hs rfl rfl rfl rfl rfl fun a hs => ?_
   refine st_skip hs rfl rfl rfl rfl rfl fun a hs => ?_
   refine st_skip hs rfl rfl rfl rfl rfl fun a hs => ?_
   refine st_skip hs rfl rfl rfl rfl rfl fun a hs => ?_
   refine st_skip hs rfl rfl rfl rfl rfl fun a hs => ?_
   refine sv hs (y_pickT rfl rfl) rfl fun a hs => ?_
   refine wpList_nil ?_
   have hsh := oi hsh
   subst hsh
   refine then_normal ?_
   exact ⟨Sv56, (hs.wk rfl), (hw.ft [0] [0] (by decide) rfl rfl)⟩
  have hs := hs.fix 25 (.bool false) rfl (vb h71)
  have hsh := ite_f hc72 h71
  refine st_val hs (y_fieldAddr (o' := 11) Tryz.runUnderlying35 rfl Tryz.sizeOf22 rfl rfl rfl) ⟨_, rfl, rfl⟩ rfl rfl fun a hs => ?_
  refine st_val hs (y_loadB1 (hw.ownAt 0 rfl) rfl Tryz.isAgg22 rfl) ⟨_, rfl, rfl⟩ rfl rfl fun a hs => ?_
  refine st_val hs (y_len Tryz.runUnderlying22 rfl) ⟨_, rfl, rfl⟩ rfl rfl fun a hs => ?_
  obtain ⟨rv75, h74, hsh⟩ := bind_t hsh
  refine st_callR hs (ref01_In_ok h74 hw.bdom) (do_call Tryz.call55 rfl) ⟨_, rfl, rfl⟩ rfl rfl ?_
  intro v79 Sv76 w a h77 h78 hs
  subst h78
  have hw := hw.callB h77
  refine st_val hs (y_not rfl) ⟨_, rfl, rfl⟩ rfl rfl fun a hs => ?_
  refine sv hs (y_pickF rfl rfl) rfl fun a hs => ?_
  refine wpList_nil ?_
  have hsh := oi hsh
  subst hsh
  refine then_normal ?_
  exact ⟨Sv56, (hs.wk rfl), (hw.ft [0] [0] (by decide) rfl rfl)⟩
 rintro a w ⟨Sv73, hs, hw⟩
 refine mv hs rfl rfl fun a hs => ?_
 refine wpl_join 8 (fun a w1 => w = w1 ∧ Sl 68 [(1, .pointer (some ⟨b5, 0, none⟩)), (40, .bool (c72 || (decide (16777216 < (w64 (r1.First + (r1.Samples.length : Int)))))))] a) ?_ ?_
 ·rcases Bool.eq_false_or_eq_true c72 with h81 | h81
  ·have hs := hs.fix 32 (.bool true) rfl (vb h81)
   refine st_skip hs rfl rfl rfl rfl rfl fun a hs => ?_
   refine st_skip hs rfl rfl rfl rfl rfl fun a hs => ?_
   refine st_skip hs rfl rfl rfl rfl rfl fun a hs => ?_
   refine st_skip hs rfl rfl rfl rfl rfl fun a hs => ?_
   refine st_skip hs rfl rfl rfl rfl rfl fun a hs => ?_
   refine st_skip hs rfl rfl rfl rfl rfl fun a hs => ?_
   refine st_skip hs rfl rfl rfl rfl rfl fun a hs => ?_
   refine sv hs (y_pickT rfl rfl) rfl fun a hs => ?_
   refine nl ?_
   exact ⟨rfl, (hs.fix 40 (.bool (c72 || (decide (16777216 < (w64 (r1.First + (r1.Samples.length : Int))))))) rfl (or_t h81)).weaken _ ⟨rfl, rfl, trivial⟩⟩
  have hs := hs.fix 32 (.bool false) rfl (vb h81)
  refine st_val hs (y_fieldAddr (o' := 5) Tryz.runUnderlying35 rfl Tryz.sizeOf3 rfl rfl rfl) ⟨_, rfl, rfl⟩ rfl rfl fun a hs => ?_
  refine st_val hs (y_loadB1 (hw.ownAt 0 rfl) rfl Tryz.isAgg3 rfl) ⟨_, rfl, rfl⟩ rfl rfl fun a hs => ?_
  refine st_val hs (y_fieldAddr (o' := 11) Tryz.runUnderlying35 rfl Tryz.sizeOf22 rfl rfl rfl) ⟨_, rfl, rfl⟩ rfl rfl fun a hs => ?_
  refine st_val hs (y_loadB1 (hw.ownAt 0 rfl) rfl Tryz.isAgg22 rfl) ⟨_, rfl, rfl⟩ rfl rfl fun a hs => ?_
  refine st_val hs (y_len Tryz.runUnderlying22 rfl) ⟨_, rfl, rfl⟩ rfl rfl fun a hs => ?_
  refine st_val hs (y_add rfl rfl) ⟨_, rfl, rfl⟩ rfl rfl fun a hs => ?_
  refine st_val hs (y_gtr rfl rfl) ⟨_, rfl, rfl⟩ rfl rfl fun a hs => ?_
  refine sv hs (y_pickF rfl rfl) rfl fun a hs => ?_
  refine nl ?_
  exact ⟨rfl, (hs.fix 40 (.bool (c72 || (decide (16777216 < (w64 (r1.First + (r1.Samples.length : Int))))))) rfl (or_f h81)).weaken _ ⟨rfl, rfl, trivial⟩⟩
 rintro a w1 ⟨h159, hs⟩
 subst h159
 refine mv hs rfl rfl fun a hs => ?_
 obtain ⟨c90, hc90, hsh⟩ := bind_t hsh
 refine wpl_join 5 (fun a w => ∃ (Sv91 : Nat → Prop), Sl 68 [(1, .pointer (some ⟨b5, 0, none⟩)), (46, .bool c90)] a ∧ Wd ⟨w0, S0, []⟩ Sv91 [.box b5 [.string r1.Source.Network, .string r1.Source.Station, .string r1.Source.Location, .string r1.Source.Channel, .int .i64 r1.Start, .int .i64 r1.First, .int .i64 r1.Rate.Num, .int .i64 r1.Rate.Den, .int .i64 r1.Error, .int .i64 r1.Run, .int .i64 r1.Seq, .slice p2 r1.Samples.length k3] 35] [SlA p2 r1.Samples.length k3 r1.Samples] w) ?_ ?_
 ·rcases Bool.eq_false_or_eq_true (c72 || (decide (16777216 < (w64 (r1.First + (r1.Samples.length : Int)))))) with h89 | h89
  ·have hs := hs.fix 41 (.bool true) rfl (vb h89)
   have hsh := ite_t hc90 h89
   refine st_skip hs rfl rfl rfl rfl rfl fun a hs => ?_
   refine st_skip hs rfl rfl rfl rfl rfl fun a hs => ?_
   refine st_skip hs rfl rfl rfl rfl rfl fun a hs => ?_
   refine st_skip hs rfl rfl rfl rfl rfl fun a hs => ?_
   refine sv hs (y_pickT rfl rfl) rfl fun a hs => ?_
   refine wpList_nil ?_
   have hsh := oi hsh
   subst hsh
   refine then_normal ?_
   exact ⟨Sv73, (hs.wk rfl), (hw.ft [0] [0] (by decide) rfl rfl)⟩
  have hs := hs.fix 41 (.bool false) rfl (vb h89)
  have hsh := ite_f hc90 h89
  refine st_val hs (y_fieldAddr (o' := 11) Tryz.runUnderlying35 rfl Tryz.sizeOf22 rfl rfl rfl) ⟨_, rfl, rfl⟩ rfl rfl fun a hs => ?_
  refine st_val hs (y_loadB1 (hw.ownAt 0 rfl) rfl Tryz.isAgg22 rfl) ⟨_, rfl, rfl⟩ rfl rfl fun a hs => ?_
  obtain ⟨rv93, h92, hsh⟩ := bind_t hsh
  refine st_callR hs (ref05_InRange_ok h92 hw.bdom (hw.bE 0 rfl)) (do_call Tryz.call78 rfl) ⟨_, rfl, rfl⟩ rfl rfl ?_
  intro v97 Sv94 w a h95 h96 hs
  subst h96
  have hw := hw.callB h95
  refine st_val hs (y_not rfl) ⟨_, rfl, rfl⟩ rfl rfl fun a hs => ?_
  refine sv hs (y_pickF rfl rfl) rfl fun a hs => ?_
  refine wpList_nil ?_
  have hsh := oi hsh
  subst hsh
  refine then_normal ?_
  exact ⟨Sv73, (hs.wk rfl), (hw.ft [0] [0] (by decide) rfl rfl)⟩
 rintro a w ⟨Sv91, hs, hw⟩
 refine nl ?_
 refine wp_cond_split (hs.ev rfl) (fun h100 => ?_) (fun h100 => ?_)
 ·have hsh := ite_t hsh h100
  refine sr ?_
  refine av hs rfl rfl fun a hs => ?_
  refine nl ?_
  have hsh := oi hsh
  subst hsh
  refine wp_ret ?_
  refine then_ret ?_
  exact ret1 hs rfl (rv_tmp rfl) (hw.ret rfl)
 have hsh := ite_f hsh h100
 refine wp_skip ?_
 refine then_normal ?_
 refine sr ?_
 refine sv hs (y_fieldAddr (o' := 8) Tryz.runUnderlying35 rfl Tryz.sizeOf3 rfl rfl rfl) rfl fun a hs => ?_
 refine sv hs (y_loadB1 (hw.ownAt 0 rfl) rfl Tryz.isAgg3 rfl) rfl fun a hs => ?_
 obtain ⟨rv102, h101, hsh⟩ := bind_t hsh
 refine st_callR hs (ref01_In_ok h101 hw.bdom) (do_call Tryz.call55 rfl) trivial rfl rfl ?_
 intro v106 Sv103 w a h104 h105 hs
 subst h105
 have hw := hw.callB h104
 refine mv hs rfl rfl fun a hs => ?_
 obtain ⟨c116, hc116, hsh⟩ := bind_t hsh
 refine wpl_join 4 (fun a w => ∃ (Sv117 : Nat → Prop), Sl 68 [(1, .pointer (some ⟨b5, 0, none⟩)), (54, .bool c116)] a ∧ Wd ⟨w0, S0, []⟩ Sv117 [.box b5 [.string r1.Source.Network, .string r1.Source.Station, .string r1.Source.Location, .string r1.Source.Channel, .int .i64 r1.Start, .int .i64 r1.First, .int .i64 r1.Rate.Num, .int .i64 r1.Rate.Den, .int .i64 r1.Error, .int .i64 r1.Run, .int .i64 r1.Seq, .slice p2 r1.Samples.length k3] 35] [SlA p2 r1.Samples.length k3 r1.Samples] w) ?_ ?_
 ·rcases Bool.eq_false_or_eq_true rv102 with h115 | h115
  ·have hs := hs.fix 50 (.bool true) rfl (vb h115)
   have hsh := ite_t hc116 h115
   refine st_val hs (y_fieldAddr (o' := 9) Tryz.runUnderlying35 rfl Tryz.sizeOf3 rfl rfl rfl) ⟨_, rfl, rfl⟩ rfl rfl fun a hs => ?_
   refine st_val hs (y_loadB1 (hw.ownAt 0 rfl) rfl Tryz.isAgg3 rfl) ⟨_, rfl, rfl⟩ rfl rfl fun a hs => ?_
   obtain ⟨rv119, h118, hsh⟩ := bind_t hsh
   refine st_callR hs (ref01_In_ok h118 hw.bdom) (do_call Tryz.call55 rfl) ⟨_, rfl, rfl⟩ rfl rfl ?_
   intro v123 Sv120 w a h121 h122 hs
   subst h122
   have hw := hw.callB h121
   refine sv hs (y_pickT rfl rfl) rfl fun a hs => ?_
   refine wpList_nil ?_
   have hsh := oi hsh
   subst hsh
   refine then_normal ?_
   exact ⟨Sv91, (hs.wk rfl), (hw.ft [0] [0] (by decide) rfl rfl)⟩
  have hs := hs.fix 50 (.bool false) rfl (vb h115)
  have hsh := ite_f hc116 h115
  refine st_skip hs rfl rfl rfl rfl rfl fun a hs => ?_
  refine st_skip hs rfl rfl rfl rfl rfl fun a hs => ?_
  refine st_skip hs rfl rfl rfl rfl rfl fun a hs => ?_
  refine sv hs (y_pickF rfl rfl) rfl fun a hs => ?_
  refine wpList_nil ?_
  have hsh := oi hsh
  subst hsh
  refine then_normal ?_
  exact ⟨Sv91, (hs.wk rfl), (hw.ft [0] [0] (by decide) rfl rfl)⟩
 rintro a w ⟨Sv117, hs, hw⟩
 refine mv hs rfl rfl fun a hs => ?_
 obtain ⟨c133, hc133, hsh⟩ := bind_t hsh
 refine wpl_join 4 (fun a w => ∃ (Sv134 : Nat → Prop), Sl 68 [(1, .pointer (some ⟨b5, 0, none⟩)), (59, .bool c133)] a ∧ Wd ⟨w0, S0, []⟩ Sv134 [.box b5 [.string r1.Source.Network, .string r1.Source.Station, .string r1.Source.Location, .string r1.Source.Channel, .int .i64 r1.Start, .int .i64 r1.First, .int .i64 r1.Rate.Num, .int .i64 r1.Rate.Den, .int .i64 r1.Error, .int .i64 r1.Run, .int .i64 r1.Seq, .slice p2 r1.Samples.length k3] 35] [SlA p2 r1.Samples.length k3 r1.Samples] w) ?_ ?_
 ·rcases Bool.eq_false_or_eq_true c116 with h132 | h132
  ·have hs := hs.fix 55 (.bool true) rfl (vb h132)
   have hsh := ite_t hc133 h132
   refine st_val hs (y_fieldAddr (o' := 10) Tryz.runUnderlying35 rfl Tryz.sizeOf3 rfl rfl rfl) ⟨_, rfl, rfl⟩ rfl rfl fun a hs => ?_
   refine st_val hs (y_loadB1 (hw.ownAt 0 rfl) rfl Tryz.isAgg3 rfl) ⟨_, rfl, rfl⟩ rfl rfl fun a hs => ?_
   obtain ⟨rv136, h135, hsh⟩ := bind_t hsh
   refine st_callR hs (ref01_In_ok h135 hw.bdom) (do_call Tryz.call55 rfl) ⟨_, rfl, rfl⟩ rfl rfl ?_
   intro v140 Sv137 w a h138 h139 hs
   subst h139
   have hw := hw.callB h138
   refine sv hs (y_pickT rfl rfl) rfl fun a hs => ?_
   refine wpList_nil ?_
   have hsh := oi hsh
   subst hsh
   refine then_normal ?_
   exact ⟨Sv117, (hs.wk rfl), (hw.ft [0] [0] (by decide) rfl rfl)⟩
  have hs := hs.fix 55 (.bool false) rfl (vb h132)
  have hsh := ite_f hc133 h132
  refine st_skip hs rfl rfl rfl rfl rfl fun a hs => ?_
  refine st_skip hs rfl rfl rfl rfl rfl fun a hs => ?_
  refine st_skip hs rfl rfl rfl rfl rfl fun a hs => ?_
  refine sv hs (y_pickF rfl rfl) rfl fun a hs => ?_
  refine wpList_nil ?_
  have hsh := oi hsh
  subst hsh
  refine then_normal ?_
  exact ⟨Sv117, (hs.wk rfl), (hw.ft [0] [0] (by decide) rfl rfl)⟩
 rintro a w ⟨Sv134, hs, hw⟩
 refine mv hs rfl rfl fun a hs => ?_
 obtain ⟨c150, hc150, hsh⟩ := bind_t hsh
 refine wpl_join 7 (fun a w => ∃ (Sv151 : Nat → Prop), Sl 68 [(67, .bool c150)] a ∧ Wd ⟨w0, S0, []⟩ Sv151 [] [] w) ?_ ?_
 ·rcases Bool.eq_false_or_eq_true c133 with h149 | h149
  ·have hs := hs.fix 60 (.bool true) rfl (vb h149)
   have hsh := ite_t hc150 h149
   refine st_val hs (y_loadBA (hw.ownAt 0 rfl) rfl Tryz.isAgg35 Tryz.sizeOf35 rfl rfl) ⟨_, rfl, rfl⟩ rfl rfl fun a hs => ?_
   refine st_val hs (y_fieldAddr (o' := 11) Tryz.runUnderlying35 rfl Tryz.sizeOf22 rfl rfl rfl) ⟨_, rfl, rfl⟩ rfl rfl fun a hs => ?_
   refine st_val hs (y_loadB1 (hw.ownAt 0 rfl) rfl Tryz.isAgg22 rfl) ⟨_, rfl, rfl⟩ rfl rfl fun a hs => ?_
   refine st_val hs (y_len Tryz.runUnderlying22 rfl) ⟨_, rfl, rfl⟩ rfl rfl fun a hs => ?_
   obtain ⟨rv153, h152, hsh⟩ := bind_t hsh
   refine st_callR hs (ref14_Time_ok h152 hw.bdom (hw.bE 0 rfl)) (do_call Tryz.call52 rfl) ⟨_, rfl, rfl⟩ rfl rfl ?_
   intro v157 Sv154 w a h155 h156 hs
   subst h156
   have hw := hw.callB h155
   refine st_val hs (y_leq rfl rfl) ⟨_, rfl, rfl⟩ rfl rfl fun a hs => ?_
   refine sv hs (y_pickT rfl rfl) rfl fun a hs => ?_
   refine wpList_nil ?_
   have hsh := oi hsh
   subst hsh
   refine then_normal ?_
   exact ⟨Sv134, (hs.wk rfl), (hw.ft [] [] (by decide) rfl rfl)⟩
  have hs := hs.fix 60 (.bool false) rfl (vb h149)
  have hsh := ite_f hc150 h149
  refine st_skip hs rfl rfl rfl rfl rfl fun a hs => ?_
  refine st_skip hs rfl rfl rfl rfl rfl fun a hs => ?_
  refine st_skip hs rfl rfl rfl rfl rfl fun a hs => ?_
  refine st_skip hs rfl rfl rfl rfl rfl fun a hs => ?_
  refine st_skip hs rfl rfl rfl rfl rfl fun a hs => ?_
  refine st_skip hs rfl rfl rfl rfl rfl fun a hs => ?_
  refine sv hs (y_pickF rfl rfl) rfl fun a hs => ?_
  refine wpList_nil ?_
  have hsh := oi hsh
  subst hsh
  refine then_normal ?_
  exact ⟨Sv134, (hs.wk rfl), (hw.ft [] [] (by decide) rfl rfl)⟩
 rintro a w ⟨Sv151, hs, hw⟩
 refine av hs rfl rfl fun a hs => ?_
 refine nl ?_
 have hsh := oi hsh
 subst hsh
 refine wp_ret ?_
 exact ret1 hs rfl (rv_tmp rfl) (hw.ret rfl)

abbrev ref03_compare_rd (w0 : World) (X : List Nat) (r : Int) : (Nat → Prop) → World → Value → Prop := fun S w v => v = .int .i64 r
set_option maxHeartbeats 4000000 in
set_option maxRecDepth 100000 in
theorem ref03_compare_ok {w0 : World} {S0 : Nat → Prop} {a1 : ByteArray} {b2 : ByteArray} {r : Int} (hsh : ref03_compare a1 b2 = some r) (hS : ∀ b, S0 b → b < w0.heap.size) : Calls Tryz.prog 80 #[.string a1, .string b2] w0 (Ret ([]) w0 S0 (ref03_compare_rd w0 ([]) r)) := by
 refine calls_of_wp Tryz.func80 rfl ?_
 have hs := Sl.enter #[.string a1, .string b2] 13 [(0, .string a1), (1, .string b2)] rfl ⟨rfl, rfl, trivial⟩
 have hw := Wd.enter (E := []) hS (fun _ h => (by cases h))
 delta ref03_compare at hsh
 refine sr ?_
 refine av hs rfl rfl fun a hs => ?_
 refine nl ?_
 refine wp_seq ?_
 refine wp_block ?_
 refine sr ?_
 refine mv hs rfl rfl fun a hs => ?_
 refine mv hs rfl rfl fun a hs => ?_
 refine sv hs (y_lssS rfl rfl) rfl fun a hs => ?_
 refine av hs rfl rfl fun a hs => ?_
 refine nl ?_
 refine wp_cond_split (hs.ev rfl) (fun h7 => ?_) (fun h7 => ?_)
 ·have hsh := ite_t hsh h7
  refine sr ?_
  refine av hs rfl rfl fun a hs => ?_
  refine nl ?_
  have hsh := oi hsh
  subst hsh
  refine wp_ret ?_
  refine blk_ret ?_
  refine then_ret ?_
  exact ret1 hs rfl (rv_tmp rfl) (hw.ret rfl)
 have hsh := ite_f hsh h7
 refine sr ?_
 refine mv hs rfl rfl fun a hs => ?_
 refine mv hs rfl rfl fun a hs => ?_
 refine sv hs (y_gtrS rfl rfl) rfl fun a hs => ?_
 refine av hs rfl rfl fun a hs => ?_
 refine nl ?_
 refine wp_cond_split (hs.ev rfl) (fun h9 => ?_) (fun h9 => ?_)
 ·have hsh := ite_t hsh h9
  refine sr ?_
  refine av hs rfl rfl fun a hs => ?_
  refine nl ?_
  have hsh := oi hsh
  subst hsh
  refine wp_ret ?_
  refine blk_ret ?_
  refine then_ret ?_
  exact ret1 hs rfl (rv_tmp rfl) (hw.ret rfl)
 have hsh := ite_f hsh h9
 refine wp_skip ?_
 refine blk_normal ?_
 refine then_normal ?_
 refine sr ?_
 refine av hs rfl rfl fun a hs => ?_
 refine nl ?_
 have hsh := oi hsh
 subst hsh
 refine wp_ret ?_
 exact ret1 hs rfl (rv_tmp rfl) (hw.ret rfl)

abbrev ref03_Compare_rd (w0 : World) (X : List Nat) (r : Int) : (Nat → Prop) → World → Value → Prop := fun S w v => v = .int .i64 r
set_option maxHeartbeats 4000000 in
set_option maxRecDepth 100000 in
theorem ref03_Compare_ok {w0 : World} {S0 : Nat → Prop} {a1 : SourceID} {b2 : SourceID} {r : Int} (hsh : ref03_Compare a1 b2 = some r) (hS : ∀ b, S0 b → b < w0.heap.size) : Calls Tryz.prog 53 #[.agg #[.string a1.Network, .string a1.Station, .string a1.Location, .string a1.Channel], .agg #[.string b2.Network, .string b2.Station, .string b2.Location, .string b2.Channel]] w0 (Ret ([]) w0 S0 (ref03_Compare_rd w0 ([]) r)) := by
 refine calls_of_wp Tryz.func53 rfl ?_
 have hs := Sl.enter #[.agg #[.string a1.Network, .string a1.Station, .string a1.Location, .string a1.Channel], .agg #[.string b2.Network, .string b2.Station, .string b2.Location, .string b2.Channel]] 35 [(0, .agg #[.string a1.Network, .string a1.Station, .string a1.Location, .string a1.Channel]), (1, .agg #[.string b2.Network, .string b2.Station, .string b2.Location, .string b2.Channel])] rfl ⟨rfl, rfl, trivial⟩
 have hw := Wd.enter (E := []) hS (fun _ h => (by cases h))
 delta ref03_Compare at hsh
 refine sr ?_
 refine w_box (cs := [.string a1.Network, .string a1.Station, .string a1.Location, .string a1.Channel]) hs hw rfl rfl rfl trivial ?_
 intro b3 a w hs hw
 refine w_box (cs := [.string b2.Network, .string b2.Station, .string b2.Location, .string b2.Channel]) hs hw rfl rfl rfl trivial ?_
 intro b4 a w hs hw
 refine av hs rfl rfl fun a hs => ?_
 refine nl ?_
 refine wp_seq ?_
 refine wp_seq ?_
 obtain ⟨rv6, h5, hsh⟩ := bind_t hsh
 obtain ⟨rv8, h7, hsh⟩ := bind_t hsh
 obtain ⟨rv10, h9, hsh⟩ := bind_t hsh
 obtain ⟨rv12, h11, hsh⟩ := bind_t hsh
 refine wp_only (fun a w => ∃ (Sv13 : Nat → Prop), Sl 35 [(27, .agg #[.int .i64 rv6, .int .i64 rv8, .int .i64 rv10, .int .i64 rv12]), (28, .int .i64 0)] a ∧ Wd ⟨w0, S0, []⟩ Sv13 [] [] w) ?_ ?_
 ·refine h_b (C := Cls [.box b4 [.string b2.Network, .string b2.Station, .string b2.Location, .string b2.Channel] 31, .box b3 [.string a1.Network, .string a1.Station, .string a1.Location, .string a1.Channel] 31] []) (by kernel_rfl) rfl (hw.drew.cs [0, 1] [] rfl rfl) fun hC => ?_
  have hw := hw.drew
  refine gv hs 0 rfl rfl hC (fun w hC => y_fieldAddr (o' := 0) Tryz.runUnderlying31 rfl Tryz.sizeOf9 rfl rfl rfl) fun a hs => ?_
  refine gv hs 1 rfl rfl hC (fun w hC => y_loadB1 (hC.ownAt 1 rfl) rfl Tryz.isAgg9 rfl) fun a hs => ?_
  refine gv hs 2 rfl rfl hC (fun w hC => y_fieldAddr (o' := 0) Tryz.runUnderlying31 rfl Tryz.sizeOf9 rfl rfl rfl) fun a hs => ?_
  refine gv hs 3 rfl rfl hC (fun w hC => y_loadB1 (hC.ownAt 0 rfl) rfl Tryz.isAgg9 rfl) fun a hs => ?_
  refine gv hs 5 rfl rfl hC (fun w hC => y_fieldAddr (o' := 1) Tryz.runUnderlying31 rfl Tryz.sizeOf9 rfl rfl rfl) fun a hs => ?_
  refine gv hs 6 rfl rfl hC (fun w hC => y_loadB1 (hC.ownAt 1 rfl) rfl Tryz.isAgg9 rfl) fun a hs => ?_
  refine gv hs 7 rfl rfl hC (fun w hC => y_fieldAddr (o' := 1) Tryz.runUnderlying31 rfl Tryz.sizeOf9 rfl rfl rfl) fun a hs => ?_
  refine gv hs 8 rfl rfl hC (fun w hC => y_loadB1 (hC.ownAt 0 rfl) rfl Tryz.isAgg9 rfl) fun a hs => ?_
  refine gv hs 10 rfl rfl hC (fun w hC => y_fieldAddr (o' := 2) Tryz.runUnderlying31 rfl Tryz.sizeOf9 rfl rfl rfl) fun a hs => ?_
  refine gv hs 11 rfl rfl hC (fun w hC => y_loadB1 (hC.ownAt 1 rfl) rfl Tryz.isAgg9 rfl) fun a hs => ?_
  refine gv hs 12 rfl rfl hC (fun w hC => y_fieldAddr (o' := 2) Tryz.runUnderlying31 rfl Tryz.sizeOf9 rfl rfl rfl) fun a hs => ?_
  refine gv hs 13 rfl rfl hC (fun w hC => y_loadB1 (hC.ownAt 0 rfl) rfl Tryz.isAgg9 rfl) fun a hs => ?_
  refine gv hs 15 rfl rfl hC (fun w hC => y_fieldAddr (o' := 3) Tryz.runUnderlying31 rfl Tryz.sizeOf9 rfl rfl rfl) fun a hs => ?_
  refine gv hs 16 rfl rfl hC (fun w hC => y_loadB1 (hC.ownAt 1 rfl) rfl Tryz.isAgg9 rfl) fun a hs => ?_
  refine gv hs 17 rfl rfl hC (fun w hC => y_fieldAddr (o' := 3) Tryz.runUnderlying31 rfl Tryz.sizeOf9 rfl rfl rfl) fun a hs => ?_
  refine gv hs 18 rfl rfl hC (fun w hC => y_loadB1 (hC.ownAt 0 rfl) rfl Tryz.isAgg9 rfl) fun a hs => ?_
  refine gm hs 21 rfl rfl rfl hC fun a hs => ?_
  refine ho 4 rfl ?_
  refine st_callR hs (ref03_compare_ok h5 hw.bdom) (do_call Tryz.call80 rfl) trivial rfl rfl ?_
  intro v17 Sv14 w a h15 h16 hs
  subst h16
  have hw := hw.callB h15
  refine h_nx (hw.cs [0, 1] [] rfl rfl) fun hC => ?_
  refine ho 9 rfl ?_
  refine st_callR hs (ref03_compare_ok h7 hw.bdom) (do_call Tryz.call80 rfl) trivial rfl rfl ?_
  intro v22 Sv19 w a h20 h21 hs
  subst h21
  have hw := hw.callB h20
  refine h_nx (hw.cs [0, 1] [] rfl rfl) fun hC => ?_
  refine ho 14 rfl ?_
  refine st_callR hs (ref03_compare_ok h9 hw.bdom) (do_call Tryz.call80 rfl) trivial rfl rfl ?_
  intro v27 Sv24 w a h25 h26 hs
  subst h26
  have hw := hw.callB h25
  refine h_nx (hw.cs [0, 1] [] rfl rfl) fun hC => ?_
  refine ho 19 rfl ?_
  refine st_callR hs (ref03_compare_ok h11 hw.bdom) (do_call Tryz.call80 rfl) trivial rfl rfl ?_
  intro v32 Sv29 w a h30 h31 hs
  subst h31
  have hw := hw.callB h30
  refine h_nx (hw.cs [0, 1] [] rfl rfl) fun hC => ?_
  refine gv hs 20 rfl rfl hC (fun w hC => y_build (vs := [(0, .int .i64 rv6), (1, .int .i64 rv8), (2, .int .i64 rv10), (3, .int .i64 rv12)]) Bld108 rfl rfl) fun a hs => ?_
  refine h_done (by kernel_rfl) ?_
  exact ⟨S0, (hs.wk rfl), (hw.ft [] [] (by decide) rfl rfl)⟩
 rintro a w ⟨Sv13, hs, hw⟩
 refine then_normal ?_
 refine wp_block ?_
 refine wp_while (fun sv51 a w => ∃ (Sv61 : Nat → Prop), Sl 35 [(27, .agg #[.int .i64 rv6, .int .i64 rv8, .int .i64 rv10, .int .i64 rv12]), (28, .int .i64 sv51)] a ∧ Wd ⟨w0, S0, []⟩ Sv61 [] [] w) 0 hsh ⟨Sv13, (hs.wk rfl), (hw.ft [] [] (by decide) rfl rfl)⟩ ?_
 repeat clear hsh
 rintro sv51 a w tv67 ⟨Sv61, hs, hw⟩ hsh hd66
 delta ref03_Compare_l2 at hsh
 refine sr ?_
 refine sv hs (y_lss rfl rfl) rfl fun a hs => ?_
 refine nl ?_
 refine wp_seq ?_
 refine wp_cond_split (hs.ev rfl) (fun h71 => ?_) (fun h71 => ?_)
 ·have hsh := ite_t hsh h71
  refine wp_skip ?_
  refine then_normal ?_
  refine wp_seq ?_
  refine wp_block ?_
  refine sr ?_
  obtain ⟨x76, h75, hsh⟩ := bind_t hsh
  refine sv hs (y_idxA (α := Int) (xs := [rv6, rv8, rv10, rv12]) (cs := [.int .i64 rv6, .int .i64 rv8, .int .i64 rv10, .int .i64 rv12]) (es := [.int .i64 x76]) (v := .int .i64 x76) Tryz.runUnderlying108 Tryz.sizeOf3 (.inl ⟨Tryz.isAgg3, rfl⟩) rfl rfl rfl (fun _ _ => ⟨⟨_, rfl, rfl⟩, ⟨⟨_, rfl, rfl⟩, ⟨⟨_, rfl, rfl⟩, ⟨⟨_, rfl, rfl⟩, rfl⟩⟩⟩⟩) h75 (fun _ _ _ he => by obtain ⟨_, rfl, rfl⟩ := he; rfl)) rfl fun a hs => ?_
  refine av hs rfl rfl fun a hs => ?_
  refine nl ?_
  refine sr ?_
  refine mv hs rfl rfl fun a hs => ?_
  refine sv hs (y_neq rfl rfl) rfl fun a hs => ?_
  refine nl ?_
  refine wp_cond_split (hs.ev rfl) (fun h78 => ?_) (fun h78 => ?_)
  ·have hsh := ite_t hsh h78
   refine sr ?_
   refine mv hs rfl rfl fun a hs => ?_
   refine av hs rfl rfl fun a hs => ?_
   refine nl ?_
   have hsh := oi hsh
   subst hsh
   have h79 := hd66 _ rfl
   subst h79
   refine wp_ret ?_
   refine blk_ret ?_
   refine then_ret ?_
   refine then_ret ?_
   refine blk_ret ?_
   refine then_ret ?_
   exact ret1 hs rfl (rv_tmp rfl) (hw.ret rfl)
  have hsh := ite_f hsh h78
  refine wp_skip ?_
  refine blk_normal ?_
  refine then_normal ?_
  refine wp_region_lit ?_
  refine sv hs (y_add rfl rfl) rfl fun a hs => ?_
  refine mv hs rfl rfl fun a hs => ?_
  refine nl ?_
  exact ⟨_, (Option.some.inj hsh).symm, Sv61, (hs.wk rfl), (hw.ft [] [] (by decide) rfl rfl)⟩
 have hsh := ite_f hsh h71
 obtain ⟨rv80, hsh, h81⟩ := map_t hsh
 have h81 := (hd66 _ h81.symm).symm
 subst h81
 refine wp_exit ?_
 refine then_exit ?_
 refine then_exit ?_
 refine blk_exit ?_
 refine then_normal ?_
 refine sr ?_
 refine av hs rfl rfl fun a hs => ?_
 refine nl ?_
 have hsh := oi hsh
 subst hsh
 refine wp_ret ?_
 exact ret1 hs rfl (rv_tmp rfl) (hw.ret rfl)

abbrev ref14_number_rd (w0 : World) (X : List Nat) (r : Int) : (Nat → Prop) → World → Value → Prop := fun S w v => v = .int .i64 r
set_option maxHeartbeats 4000000 in
set_option maxRecDepth 100000 in
theorem ref14_number_ok {w0 : World} {S0 : Nat → Prop} {a1 : Int} {b2 : Int} {r : Int} (hsh : ref14_number a1 b2 = some r) (hS : ∀ b, S0 b → b < w0.heap.size) : Calls Tryz.prog 54 #[.int .i64 a1, .int .i64 b2] w0 (Ret ([]) w0 S0 (ref14_number_rd w0 ([]) r)) := by
 refine calls_of_wp Tryz.func54 rfl ?_
 have hs := Sl.enter #[.int .i64 a1, .int .i64 b2] 13 [(0, .int .i64 a1), (1, .int .i64 b2)] rfl ⟨rfl, rfl, trivial⟩
 have hw := Wd.enter (E := []) hS (fun _ h => (by cases h))
 delta ref14_number at hsh
 refine sr ?_
 refine av hs rfl rfl fun a hs => ?_
 refine nl ?_
 refine wp_seq ?_
 refine wp_block ?_
 refine sr ?_
 refine mv hs rfl rfl fun a hs => ?_
 refine mv hs rfl rfl fun a hs => ?_
 refine sv hs (y_lss rfl rfl) rfl fun a hs => ?_
 refine av hs rfl rfl fun a hs => ?_
 refine nl ?_
 refine wp_cond_split (hs.ev rfl) (fun h7 => ?_) (fun h7 => ?_)
 ·have hsh := ite_t hsh h7
  refine sr ?_
  refine av hs rfl rfl fun a hs => ?_
  refine nl ?_
  have hsh := oi hsh
  subst hsh
  refine wp_ret ?_
  refine blk_ret ?_
  refine then_ret ?_
  exact ret1 hs rfl (rv_tmp rfl) (hw.ret rfl)
 have hsh := ite_f hsh h7
 refine sr ?_
 refine mv hs rfl rfl fun a hs => ?_
 refine mv hs rfl rfl fun a hs => ?_
 refine sv hs (y_gtr rfl rfl) rfl fun a hs => ?_
 refine av hs rfl rfl fun a hs => ?_
 refine nl ?_
 refine wp_cond_split (hs.ev rfl) (fun h9 => ?_) (fun h9 => ?_)
 ·have hsh := ite_t hsh h9
  refine sr ?_
  refine av hs rfl rfl fun a hs => ?_
  refine nl ?_
  have hsh := oi hsh
  subst hsh
  refine wp_ret ?_
  refine blk_ret ?_
  refine then_ret ?_
  exact ret1 hs rfl (rv_tmp rfl) (hw.ret rfl)
 have hsh := ite_f hsh h9
 refine wp_skip ?_
 refine blk_normal ?_
 refine then_normal ?_
 refine sr ?_
 refine av hs rfl rfl fun a hs => ?_
 refine nl ?_
 have hsh := oi hsh
 subst hsh
 refine wp_ret ?_
 exact ret1 hs rfl (rv_tmp rfl) (hw.ret rfl)

abbrev ref14_Compare_rd (w0 : World) (X : List Nat) (r : Int) : (Nat → Prop) → World → Value → Prop := fun S w v => v = .int .i64 r
set_option maxHeartbeats 4000000 in
set_option maxRecDepth 100000 in
theorem ref14_Compare_ok {w0 : World} {S0 : Nat → Prop} {p2 : Option Addr} {k3 : Nat} {p6 : Option Addr} {k7 : Nat} {a1 : Record} {b5 : Record} {r : Int} (hsh : ref14_Compare a1 b5 = some r) (hS : ∀ b, S0 b → b < w0.heap.size) (h4 : (SlA p2 a1.Samples.length k3 a1.Samples).p S0 w0) (h8 : (SlA p6 b5.Samples.length k7 b5.Samples).p S0 w0) : Calls Tryz.prog 21 #[.agg #[.string a1.Source.Network, .string a1.Source.Station, .string a1.Source.Location, .string a1.Source.Channel, .int .i64 a1.Start, .int .i64 a1.First, .int .i64 a1.Rate.Num, .int .i64 a1.Rate.Den, .int .i64 a1.Error, .int .i64 a1.Run, .int .i64 a1.Seq, .slice p2 a1.Samples.length k3], .agg #[.string b5.Source.Network, .string b5.Source.Station, .string b5.Source.Location, .string b5.Source.Channel, .int .i64 b5.Start, .int .i64 b5.First, .int .i64 b5.Rate.Num, .int .i64 b5.Rate.Den, .int .i64 b5.Error, .int .i64 b5.Run, .int .i64 b5.Seq, .slice p6 b5.Samples.length k7]] w0 (Ret ([]) w0 S0 (ref14_Compare_rd w0 ([]) r)) := by
 refine calls_of_wp Tryz.func21 rfl ?_
 have hs := Sl.enter #[.agg #[.string a1.Source.Network, .string a1.Source.Station, .string a1.Source.Location, .string a1.Source.Channel, .int .i64 a1.Start, .int .i64 a1.First, .int .i64 a1.Rate.Num, .int .i64 a1.Rate.Den, .int .i64 a1.Error, .int .i64 a1.Run, .int .i64 a1.Seq, .slice p2 a1.Samples.length k3], .agg #[.string b5.Source.Network, .string b5.Source.Station, .string b5.Source.Location, .string b5.Source.Channel, .int .i64 b5.Start, .int .i64 b5.First, .int .i64 b5.Rate.Num, .int .i64 b5.Rate.Den, .int .i64 b5.Error, .int .i64 b5.Run, .int .i64 b5.Seq, .slice p6 b5.Samples.length k7]] 102 [(0, .agg #[.string a1.Source.Network, .string a1.Source.Station, .string a1.Source.Location, .string a1.Source.Channel, .int .i64 a1.Start, .int .i64 a1.First, .int .i64 a1.Rate.Num, .int .i64 a1.Rate.Den, .int .i64 a1.Error, .int .i64 a1.Run, .int .i64 a1.Seq, .slice p2 a1.Samples.length k3]), (1, .agg #[.string b5.Source.Network, .string b5.Source.Station, .string b5.Source.Location, .string b5.Source.Channel, .int .i64 b5.Start, .int .i64 b5.First, .int .i64 b5.Rate.Num, .int .i64 b5.Rate.Den, .int .i64 b5.Error, .int .i64 b5.Run, .int .i64 b5.Seq, .slice p6 b5.Samples.length k7])] rfl ⟨rfl, rfl, trivial⟩
 have hw := Wd.enter (E := []) hS (fun _ h => (by cases h))
 have hw := hw.addE h4
 have hw := hw.addE h8
 delta ref14_Compare at hsh
 refine sr ?_
 refine w_box (cs := [.string a1.Source.Network, .string a1.Source.Station, .string a1.Source.Location, .string a1.Source.Channel, .int .i64 a1.Start, .int .i64 a1.First, .int .i64 a1.Rate.Num, .int .i64 a1.Rate.Den, .int .i64 a1.Error, .int .i64 a1.Run, .int .i64 a1.Seq, .slice p2 a1.Samples.length k3]) hs hw rfl rfl rfl trivial ?_
 intro b9 a w hs hw
 refine w_box (cs := [.string b5.Source.Network, .string b5.Source.Station, .string b5.Source.Location, .string b5.Source.Channel, .int .i64 b5.Start, .int .i64 b5.First, .int .i64 b5.Rate.Num, .int .i64 b5.Rate.Den, .int .i64 b5.Error, .int .i64 b5.Run, .int .i64 b5.Seq, .slice p6 b5.Samples.length k7]) hs hw rfl rfl rfl trivial ?_
 intro b10 a w hs hw
 refine av hs rfl rfl fun a hs => ?_
 refine nl ?_
 refine sr ?_
 refine av hs rfl rfl fun a hs => ?_
 refine av hs rfl rfl fun a hs => ?_
 refine nl ?_
 refine wp_seq ?_
 refine sr ?_
 refine sv hs (y_loadBA (hw.ownAt 1 rfl) rfl Tryz.isAgg35 Tryz.sizeOf35 rfl rfl) rfl fun a hs => ?_
 obtain ⟨rv12, h11, hsh⟩ := bind_t hsh
 refine st_callR hs (ref14_Valid_ok h11 hw.bdom (hw.bE 1 rfl)) (do_call Tryz.call51 rfl) trivial rfl rfl ?_
 intro v16 Sv13 w a h14 h15 hs
 subst h15
 have hw := hw.callB h14
 refine nl ?_
 refine wp_join (fun a w => ∃ (x27 : Int) (Sv26 : Nat → Prop), ref14_Compare_j1 a1 b5 x27 = some r ∧ Sl 102 [(2, .pointer (some ⟨b9, 0, none⟩)), (3, .pointer (some ⟨b10, 0, none⟩)), (5, .int .i64 x27), (6, .int .i64 0)] a ∧ Wd ⟨w0, S0, []⟩ Sv26 [.box b9 [.string a1.Source.Network, .string a1.Source.Station, .string a1.Source.Location, .string a1.Source.Channel, .int .i64 a1.Start, .int .i64 a1.First, .int .i64 a1.Rate.Num, .int .i64 a1.Rate.Den, .int .i64 a1.Error, .int .i64 a1.Run, .int .i64 a1.Seq, .slice p2 a1.Samples.length k3] 35, .box b10 [.string b5.Source.Network, .string b5.Source.Station, .string b5.Source.Location, .string b5.Source.Channel, .int .i64 b5.Start, .int .i64 b5.First, .int .i64 b5.Rate.Num, .int .i64 b5.Rate.Den, .int .i64 b5.Error, .int .i64 b5.Run, .int .i64 b5.Seq, .slice p6 b5.Samples.length k7] 35] [SlA p2 a1.Samples.length k3 a1.Samples, SlA p6 b5.Samples.length k7 b5.Samples] w) ?_ ?_
 ·refine wp_cond_split (hs.ev rfl) (fun h455 => ?_) (fun h455 => ?_)
  ·have hsh := ite_t hsh h455
   refine wp_region_lit ?_
   refine sv hs (y_loadBA (hw.ownAt 1 rfl) rfl Tryz.isAgg35 Tryz.sizeOf35 rfl rfl) rfl fun a hs => ?_
   obtain ⟨rv457, h456, hsh⟩ := bind_t hsh
   refine st_callR hs (ref14_Time_ok h456 hw.bdom (hw.bE 1 rfl)) (do_call Tryz.call52 rfl) trivial rfl rfl ?_
   intro v461 Sv458 w a h459 h460 hs
   subst h460
   have hw := hw.callB h459
   refine av hs rfl rfl fun a hs => ?_
   refine nl ?_
   exact ⟨rv457, S0, hsh, (hs.wk rfl), (hw.ft [1, 0] [1, 0] (by decide) rfl rfl)⟩
  have hsh := ite_f hsh h455
  refine wp_skip ?_
  refine then_normal ?_
  exact ⟨0, S0, hsh, (hs.wk rfl), (hw.ft [1, 0] [1, 0] (by decide) rfl rfl)⟩
 rintro a w ⟨x27, Sv26, hsh, hs, hw⟩
 delta ref14_Compare_j1 at hsh
 refine then_normal ?_
 refine wp_seq ?_
 refine sr ?_
 refine sv hs (y_loadBA (hw.ownAt 1 rfl) rfl Tryz.isAgg35 Tryz.sizeOf35 rfl rfl) rfl fun a hs => ?_
 obtain ⟨rv29, h28, hsh⟩ := bind_t hsh
 refine st_callR hs (ref14_Valid_ok h28 hw.bdom (hw.bE 1 rfl)) (do_call Tryz.call51 rfl) trivial rfl rfl ?_
 intro v33 Sv30 w a h31 h32 hs
 subst h32
 have hw := hw.callB h31
 refine nl ?_
 refine wp_join (fun a w => ∃ (y44 : Int) (Sv43 : Nat → Prop), ref14_Compare_j2 a1 b5 x27 y44 = some r ∧ Sl 102 [(2, .pointer (some ⟨b9, 0, none⟩)), (3, .pointer (some ⟨b10, 0, none⟩)), (5, .int .i64 x27), (6, .int .i64 y44)] a ∧ Wd ⟨w0, S0, []⟩ Sv43 [.box b9 [.string a1.Source.Network, .string a1.Source.Station, .string a1.Source.Location, .string a1.Source.Channel, .int .i64 a1.Start, .int .i64 a1.First, .int .i64 a1.Rate.Num, .int .i64 a1.Rate.Den, .int .i64 a1.Error, .int .i64 a1.Run, .int .i64 a1.Seq, .slice p2 a1.Samples.length k3] 35, .box b10 [.string b5.Source.Network, .string b5.Source.Station, .string b5.Source.Location, .string b5.Source.Channel, .int .i64 b5.Start, .int .i64 b5.First, .int .i64 b5.Rate.Num, .int .i64 b5.Rate.Den, .int .i64 b5.Error, .int .i64 b5.Run, .int .i64 b5.Seq, .slice p6 b5.Samples.length k7] 35] [SlA p2 a1.Samples.length k3 a1.Samples, SlA p6 b5.Samples.length k7 b5.Samples] w) ?_ ?_
 ·refine wp_cond_split (hs.ev rfl) (fun h447 => ?_) (fun h447 => ?_)
  ·have hsh := ite_t hsh h447
   refine wp_region_lit ?_
   refine sv hs (y_loadBA (hw.ownAt 1 rfl) rfl Tryz.isAgg35 Tryz.sizeOf35 rfl rfl) rfl fun a hs => ?_
   obtain ⟨rv449, h448, hsh⟩ := bind_t hsh
   refine st_callR hs (ref14_Time_ok h448 hw.bdom (hw.bE 1 rfl)) (do_call Tryz.call52 rfl) trivial rfl rfl ?_
   intro v453 Sv450 w a h451 h452 hs
   subst h452
   have hw := hw.callB h451
   refine av hs rfl rfl fun a hs => ?_
   refine nl ?_
   exact ⟨rv449, Sv26, hsh, (hs.wk rfl), (hw.ft [0, 1] [0, 1] (by decide) rfl rfl)⟩
  have hsh := ite_f hsh h447
  refine wp_skip ?_
  refine then_normal ?_
  exact ⟨0, Sv26, hsh, (hs.wk rfl), (hw.ft [0, 1] [0, 1] (by decide) rfl rfl)⟩
 rintro a w ⟨y44, Sv43, hsh, hs, hw⟩
 delta ref14_Compare_j2 at hsh
 refine then_normal ?_
 refine wp_seq ?_
 refine wp_seq ?_
 obtain ⟨rv46, h45, hsh⟩ := bind_t hsh
 obtain ⟨rv48, h47, hsh⟩ := bind_t hsh
 obtain ⟨rv50, h49, hsh⟩ := bind_t hsh
 obtain ⟨rv52, h51, hsh⟩ := bind_t hsh
 obtain ⟨rv54, h53, hsh⟩ := bind_t hsh
 obtain ⟨rv56, h55, hsh⟩ := bind_t hsh
 obtain ⟨rv58, h57, hsh⟩ := bind_t hsh
 obtain ⟨rv60, h59, hsh⟩ := bind_t hsh
 obtain ⟨rv62, h61, hsh⟩ := bind_t hsh
 obtain ⟨rv64, h63, hsh⟩ := bind_t hsh
 refine wp_only (fun a w => ∃ (Sv65 : Nat → Prop), Sl 102 [(2, .pointer (some ⟨b9, 0, none⟩)), (3, .pointer (some ⟨b10, 0, none⟩)), (73, .agg #[.int .i64 rv46, .int .i64 rv48, .int .i64 rv50, .int .i64 rv52, .int .i64 rv54, .int .i64 rv56, .int .i64 rv58, .int .i64 rv60, .int .i64 rv62, .int .i64 rv64]), (74, .int .i64 0)] a ∧ Wd ⟨w0, S0, []⟩ Sv65 [.box b9 [.string a1.Source.Network, .string a1.Source.Station, .string a1.Source.Location, .string a1.Source.Channel, .int .i64 a1.Start, .int .i64 a1.First, .int .i64 a1.Rate.Num, .int .i64 a1.Rate.Den, .int .i64 a1.Error, .int .i64 a1.Run, .int .i64 a1.Seq, .slice p2 a1.Samples.length k3] 35, .box b10 [.string b5.Source.Network, .string b5.Source.Station, .string b5.Source.Location, .string b5.Source.Channel, .int .i64 b5.Start, .int .i64 b5.First, .int .i64 b5.Rate.Num, .int .i64 b5.Rate.Den, .int .i64 b5.Error, .int .i64 b5.Run, .int .i64 b5.Seq, .slice p6 b5.Samples.length k7] 35] [SlA p2 a1.Samples.length k3 a1.Samples, SlA p6 b5.Samples.length k7 b5.Samples] w) ?_ ?_
 ·refine h_b (C := Cls [.box b9 [.string a1.Source.Network, .string a1.Source.Station, .string a1.Source.Location, .string a1.Source.Channel, .int .i64 a1.Start, .int .i64 a1.First, .int .i64 a1.Rate.Num, .int .i64 a1.Rate.Den, .int .i64 a1.Error, .int .i64 a1.Run, .int .i64 a1.Seq, .slice p2 a1.Samples.length k3] 35, .box b10 [.string b5.Source.Network, .string b5.Source.Station, .string b5.Source.Location, .string b5.Source.Channel, .int .i64 b5.Start, .int .i64 b5.First, .int .i64 b5.Rate.Num, .int .i64 b5.Rate.Den, .int .i64 b5.Error, .int .i64 b5.Run, .int .i64 b5.Seq, .slice p6 b5.Samples.length k7] 35] []) (by kernel_rfl) rfl (hw.drew.cs [0, 1] [] rfl rfl) fun hC => ?_
  have hw := hw.drew
  refine gv hs 0 rfl rfl hC (fun w hC => y_fieldAddr (o' := 0) Tryz.runUnderlying35 rfl Tryz.sizeOf31 rfl rfl rfl) fun a hs => ?_
  refine gv hs 1 rfl rfl hC (fun w hC => y_loadBA (hC.ownAt 0 rfl) rfl Tryz.isAgg31 Tryz.sizeOf31 rfl rfl) fun a hs => ?_
  refine gv hs 2 rfl rfl hC (fun w hC => y_fieldAddr (o' := 0) Tryz.runUnderlying35 rfl Tryz.sizeOf31 rfl rfl rfl) fun a hs => ?_
  refine gv hs 3 rfl rfl hC (fun w hC => y_loadBA (hC.ownAt 1 rfl) rfl Tryz.isAgg31 Tryz.sizeOf31 rfl rfl) fun a hs => ?_
  refine gm hs 5 rfl rfl rfl hC fun a hs => ?_
  refine gm hs 6 rfl rfl rfl hC fun a hs => ?_
  refine gv hs 8 rfl rfl hC (fun w hC => y_fieldAddr (o' := 4) Tryz.runUnderlying35 rfl Tryz.sizeOf3 rfl rfl rfl) fun a hs => ?_
  refine gv hs 9 rfl rfl hC (fun w hC => y_loadB1 (hC.ownAt 0 rfl) rfl Tryz.isAgg3 rfl) fun a hs => ?_
  refine gv hs 10 rfl rfl hC (fun w hC => y_fieldAddr (o' := 4) Tryz.runUnderlying35 rfl Tryz.sizeOf3 rfl rfl rfl) fun a hs => ?_
  refine gv hs 11 rfl rfl hC (fun w hC => y_loadB1 (hC.ownAt 1 rfl) rfl Tryz.isAgg3 rfl) fun a hs => ?_
  refine gv hs 13 rfl rfl hC (fun w hC => y_fieldAddr (o' := 5) Tryz.runUnderlying35 rfl Tryz.sizeOf3 rfl rfl rfl) fun a hs => ?_
  refine gv hs 14 rfl rfl hC (fun w hC => y_loadB1 (hC.ownAt 0 rfl) rfl Tryz.isAgg3 rfl) fun a hs => ?_
  refine gv hs 15 rfl rfl hC (fun w hC => y_fieldAddr (o' := 5) Tryz.runUnderlying35 rfl Tryz.sizeOf3 rfl rfl rfl) fun a hs => ?_
  refine gv hs 16 rfl rfl hC (fun w hC => y_loadB1 (hC.ownAt 1 rfl) rfl Tryz.isAgg3 rfl) fun a hs => ?_
  refine gv hs 18 rfl rfl hC (fun w hC => y_fieldAddr (o' := 6) Tryz.runUnderlying35 rfl Tryz.sizeOf33 rfl rfl rfl) fun a hs => ?_
  refine gv hs 19 rfl rfl hC (fun w hC => y_fieldAddr (o' := 6) Tryz.runUnderlying33 rfl Tryz.sizeOf3 rfl rfl rfl) fun a hs => ?_
  refine gv hs 20 rfl rfl hC (fun w hC => y_loadB1 (hC.ownAt 0 rfl) rfl Tryz.isAgg3 rfl) fun a hs => ?_
  refine gv hs 21 rfl rfl hC (fun w hC => y_fieldAddr (o' := 6) Tryz.runUnderlying35 rfl Tryz.sizeOf33 rfl rfl rfl) fun a hs => ?_
  refine gv hs 22 rfl rfl hC (fun w hC => y_fieldAddr (o' := 6) Tryz.runUnderlying33 rfl Tryz.sizeOf3 rfl rfl rfl) fun a hs => ?_
  refine gv hs 23 rfl rfl hC (fun w hC => y_loadB1 (hC.ownAt 1 rfl) rfl Tryz.isAgg3 rfl) fun a hs => ?_
  refine gv hs 25 rfl rfl hC (fun w hC => y_fieldAddr (o' := 6) Tryz.runUnderlying35 rfl Tryz.sizeOf33 rfl rfl rfl) fun a hs => ?_
  refine gv hs 26 rfl rfl hC (fun w hC => y_fieldAddr (o' := 7) Tryz.runUnderlying33 rfl Tryz.sizeOf3 rfl rfl rfl) fun a hs => ?_
  refine gv hs 27 rfl rfl hC (fun w hC => y_loadB1 (hC.ownAt 0 rfl) rfl Tryz.isAgg3 rfl) fun a hs => ?_
  refine gv hs 28 rfl rfl hC (fun w hC => y_fieldAddr (o' := 6) Tryz.runUnderlying35 rfl Tryz.sizeOf33 rfl rfl rfl) fun a hs => ?_
  refine gv hs 29 rfl rfl hC (fun w hC => y_fieldAddr (o' := 7) Tryz.runUnderlying33 rfl Tryz.sizeOf3 rfl rfl rfl) fun a hs => ?_
  refine gv hs 30 rfl rfl hC (fun w hC => y_loadB1 (hC.ownAt 1 rfl) rfl Tryz.isAgg3 rfl) fun a hs => ?_
  refine gv hs 32 rfl rfl hC (fun w hC => y_fieldAddr (o' := 8) Tryz.runUnderlying35 rfl Tryz.sizeOf3 rfl rfl rfl) fun a hs => ?_
  refine gv hs 33 rfl rfl hC (fun w hC => y_loadB1 (hC.ownAt 0 rfl) rfl Tryz.isAgg3 rfl) fun a hs => ?_
  refine gv hs 34 rfl rfl hC (fun w hC => y_fieldAddr (o' := 8) Tryz.runUnderlying35 rfl Tryz.sizeOf3 rfl rfl rfl) fun a hs => ?_
  refine gv hs 35 rfl rfl hC (fun w hC => y_loadB1 (hC.ownAt 1 rfl) rfl Tryz.isAgg3 rfl) fun a hs => ?_
  refine gv hs 37 rfl rfl hC (fun w hC => y_fieldAddr (o' := 9) Tryz.runUnderlying35 rfl Tryz.sizeOf3 rfl rfl rfl) fun a hs => ?_
  refine gv hs 38 rfl rfl hC (fun w hC => y_loadB1 (hC.ownAt 0 rfl) rfl Tryz.isAgg3 rfl) fun a hs => ?_
  refine gv hs 39 rfl rfl hC (fun w hC => y_fieldAddr (o' := 9) Tryz.runUnderlying35 rfl Tryz.sizeOf3 rfl rfl rfl) fun a hs => ?_
  refine gv hs 40 rfl rfl hC (fun w hC => y_loadB1 (hC.ownAt 1 rfl) rfl Tryz.isAgg3 rfl) fun a hs => ?_
  refine gv hs 42 rfl rfl hC (fun w hC => y_fieldAddr (o' := 10) Tryz.runUnderlying35 rfl Tryz.sizeOf3 rfl rfl rfl) fun a hs => ?_
  refine gv hs 43 rfl rfl hC (fun w hC => y_loadB1 (hC.ownAt 0 rfl) rfl Tryz.isAgg3 rfl) fun a hs => ?_
  refine gv hs 44 rfl rfl hC (fun w hC => y_fieldAddr (o' := 10) Tryz.runUnderlying35 rfl Tryz.sizeOf3 rfl rfl rfl) fun a hs => ?_
  refine gv hs 45 rfl rfl hC (fun w hC => y_loadB1 (hC.ownAt 1 rfl) rfl Tryz.isAgg3 rfl) fun a hs => ?_
  refine gv hs 47 rfl rfl hC (fun w hC => y_fieldAddr (o' := 11) Tryz.runUnderlying35 rfl Tryz.sizeOf22 rfl rfl rfl) fun a hs => ?_
  refine gv hs 48 rfl rfl hC (fun w hC => y_loadB1 (hC.ownAt 0 rfl) rfl Tryz.isAgg22 rfl) fun a hs => ?_
  refine gv hs 49 rfl rfl hC (fun w hC => y_len Tryz.runUnderlying22 rfl) fun a hs => ?_
  refine gv hs 50 rfl rfl hC (fun w hC => y_fieldAddr (o' := 11) Tryz.runUnderlying35 rfl Tryz.sizeOf22 rfl rfl rfl) fun a hs => ?_
  refine gv hs 51 rfl rfl hC (fun w hC => y_loadB1 (hC.ownAt 1 rfl) rfl Tryz.isAgg22 rfl) fun a hs => ?_
  refine gv hs 52 rfl rfl hC (fun w hC => y_len Tryz.runUnderlying22 rfl) fun a hs => ?_
  refine gm hs 55 rfl rfl rfl hC fun a hs => ?_
  refine ho 4 rfl ?_
  refine st_callR hs (ref03_Compare_ok h45 hw.bdom) (do_call Tryz.call53 rfl) trivial rfl rfl ?_
  intro v69 Sv66 w a h67 h68 hs
  subst h68
  have hw := hw.callB h67
  refine h_nx (hw.cs [0, 1] [] rfl rfl) fun hC => ?_
  refine ho 7 rfl ?_
  refine st_callR hs (ref14_number_ok h47 hw.bdom) (do_call Tryz.call54 rfl) trivial rfl rfl ?_
  intro v74 Sv71 w a h72 h73 hs
  subst h73
  have hw := hw.callB h72
  refine h_nx (hw.cs [0, 1] [] rfl rfl) fun hC => ?_
  refine ho 12 rfl ?_
  refine st_callR hs (ref14_number_ok h49 hw.bdom) (do_call Tryz.call54 rfl) trivial rfl rfl ?_
  intro v79 Sv76 w a h77 h78 hs
  subst h78
  have hw := hw.callB h77
  refine h_nx (hw.cs [0, 1] [] rfl rfl) fun hC => ?_
  refine ho 17 rfl ?_
  refine st_callR hs (ref14_number_ok h51 hw.bdom) (do_call Tryz.call54 rfl) trivial rfl rfl ?_
  intro v84 Sv81 w a h82 h83 hs
  subst h83
  have hw := hw.callB h82
  refine h_nx (hw.cs [0, 1] [] rfl rfl) fun hC => ?_
  refine ho 24 rfl ?_
  refine st_callR hs (ref14_number_ok h53 hw.bdom) (do_call Tryz.call54 rfl) trivial rfl rfl ?_
  intro v89 Sv86 w a h87 h88 hs
  subst h88
  have hw := hw.callB h87
  refine h_nx (hw.cs [0, 1] [] rfl rfl) fun hC => ?_
  refine ho 31 rfl ?_
  refine st_callR hs (ref14_number_ok h55 hw.bdom) (do_call Tryz.call54 rfl) trivial rfl rfl ?_
  intro v94 Sv91 w a h92 h93 hs
  subst h93
  have hw := hw.callB h92
  refine h_nx (hw.cs [0, 1] [] rfl rfl) fun hC => ?_
  refine ho 36 rfl ?_
  refine st_callR hs (ref14_number_ok h57 hw.bdom) (do_call Tryz.call54 rfl) trivial rfl rfl ?_
  intro v99 Sv96 w a h97 h98 hs
  subst h98
  have hw := hw.callB h97
  refine h_nx (hw.cs [0, 1] [] rfl rfl) fun hC => ?_
  refine ho 41 rfl ?_
  refine st_callR hs (ref14_number_ok h59 hw.bdom) (do_call Tryz.call54 rfl) trivial rfl rfl ?_
  intro v104 Sv101 w a h102 h103 hs
  subst h103
  have hw := hw.callB h102
  refine h_nx (hw.cs [0, 1] [] rfl rfl) fun hC => ?_
  refine ho 46 rfl ?_
  refine st_callR hs (ref14_number_ok h61 hw.bdom) (do_call Tryz.call54 rfl) trivial rfl rfl ?_
  intro v109 Sv106 w a h107 h108 hs
  subst h108
  have hw := hw.callB h107
  refine h_nx (hw.cs [0, 1] [] rfl rfl) fun hC => ?_
  refine ho 53 rfl ?_
  refine st_callR hs (ref14_number_ok h63 hw.bdom) (do_call Tryz.call54 rfl) trivial rfl rfl ?_
  intro v114 Sv111 w a h112 h113 hs
  subst h113
  have hw := hw.callB h112
  refine h_nx (hw.cs [0, 1] [] rfl rfl) fun hC => ?_
  refine gv hs 54 rfl rfl hC (fun w hC => y_build (cells := [.int .i64 rv46, .int .i64 rv48, .int .i64 rv50, .int .i64 rv52, .int .i64 rv54, .int .i64 rv56, .int .i64 rv58, .int .i64 rv60, .int .i64 rv62, .int .i64 rv64]) (vs := [(0, .int .i64 rv46), (1, .int .i64 rv48), (2, .int .i64 rv50), (3, .int .i64 rv52), (4, .int .i64 rv54), (5, .int .i64 rv56), (6, .int .i64 rv58), (7, .int .i64 rv60), (8, .int .i64 rv62), (9, .int .i64 rv64)]) Bld86 rfl (by kernel_rfl)) fun a hs => ?_
  refine h_done (by kernel_rfl) ?_
  exact ⟨Sv43, (hs.wk rfl), (hw.ft [0, 1] [0, 1] (by decide) rfl rfl)⟩
 rintro a w ⟨Sv65, hs, hw⟩
 refine then_normal ?_
 refine wp_block ?_
 refine wp_while (fun sv133 a w => ∃ (Sv143 : Nat → Prop), Sl 102 [(2, .pointer (some ⟨b9, 0, none⟩)), (3, .pointer (some ⟨b10, 0, none⟩)), (73, .agg #[.int .i64 rv46, .int .i64 rv48, .int .i64 rv50, .int .i64 rv52, .int .i64 rv54, .int .i64 rv56, .int .i64 rv58, .int .i64 rv60, .int .i64 rv62, .int .i64 rv64]), (74, .int .i64 sv133)] a ∧ Wd ⟨w0, S0, []⟩ Sv143 [.box b9 [.string a1.Source.Network, .string a1.Source.Station, .string a1.Source.Location, .string a1.Source.Channel, .int .i64 a1.Start, .int .i64 a1.First, .int .i64 a1.Rate.Num, .int .i64 a1.Rate.Den, .int .i64 a1.Error, .int .i64 a1.Run, .int .i64 a1.Seq, .slice p2 a1.Samples.length k3] 35, .box b10 [.string b5.Source.Network, .string b5.Source.Station, .string b5.Source.Location, .string b5.Source.Channel, .int .i64 b5.Start, .int .i64 b5.First, .int .i64 b5.Rate.Num, .int .i64 b5.Rate.Den, .int .i64 b5.Error, .int .i64 b5.Run, .int .i64 b5.Seq, .slice p6 b5.Samples.length k7] 35] [SlA p2 a1.Samples.length k3 a1.Samples, SlA p6 b5.Samples.length k7 b5.Samples] w) 0 hsh ⟨Sv65, (hs.wk rfl), (hw.ft [0, 1] [0, 1] (by decide) rfl rfl)⟩ ?_
 repeat clear hsh
 rintro sv133 a w tv149 ⟨Sv143, hs, hw⟩ hsh hd148
 delta ref14_Compare_l2 at hsh
 refine sr ?_
 refine sv hs (y_lss rfl rfl) rfl fun a hs => ?_
 refine nl ?_
 refine wp_seq ?_
 refine wp_cond_split (hs.ev rfl) (fun h153 => ?_) (fun h153 => ?_)
 ·have hsh := ite_t hsh h153
  refine wp_skip ?_
  refine then_normal ?_
  refine wp_seq ?_
  refine wp_block ?_
  refine sr ?_
  obtain ⟨x158, h157, hsh⟩ := bind_t hsh
  refine sv hs (y_idxA (α := Int) (xs := [rv46, rv48, rv50, rv52, rv54, rv56, rv58, rv60, rv62, rv64]) (cs := [.int .i64 rv46, .int .i64 rv48, .int .i64 rv50, .int .i64 rv52, .int .i64 rv54, .int .i64 rv56, .int .i64 rv58, .int .i64 rv60, .int .i64 rv62, .int .i64 rv64]) (es := [.int .i64 x158]) (v := .int .i64 x158) Tryz.runUnderlying86 Tryz.sizeOf3 (.inl ⟨Tryz.isAgg3, rfl⟩) rfl rfl rfl (fun _ _ => ⟨⟨_, rfl, rfl⟩, ⟨⟨_, rfl, rfl⟩, ⟨⟨_, rfl, rfl⟩, ⟨⟨_, rfl, rfl⟩, ⟨⟨_, rfl, rfl⟩, ⟨⟨_, rfl, rfl⟩, ⟨⟨_, rfl, rfl⟩, ⟨⟨_, rfl, rfl⟩, ⟨⟨_, rfl, rfl⟩, ⟨⟨_, rfl, rfl⟩, rfl⟩⟩⟩⟩⟩⟩⟩⟩⟩⟩) h157 (fun _ _ _ he => by obtain ⟨_, rfl, rfl⟩ := he; rfl)) rfl fun a hs => ?_
  refine av hs rfl rfl fun a hs => ?_
  refine nl ?_
  refine sr ?_
  refine mv hs rfl rfl fun a hs => ?_
  refine sv hs (y_neq rfl rfl) rfl fun a hs => ?_
  refine nl ?_
  refine wp_cond_split (hs.ev rfl) (fun h160 => ?_) (fun h160 => ?_)
  ·have hsh := ite_t hsh h160
   refine sr ?_
   refine mv hs rfl rfl fun a hs => ?_
   refine av hs rfl rfl fun a hs => ?_
   refine nl ?_
   have hsh := oi hsh
   subst hsh
   have h161 := hd148 _ rfl
   subst h161
   refine wp_ret ?_
   refine blk_ret ?_
   refine then_ret ?_
   refine then_ret ?_
   refine blk_ret ?_
   refine then_ret ?_
   exact ret1 hs rfl (rv_tmp rfl) (hw.ret rfl)
  have hsh := ite_f hsh h160
  refine wp_skip ?_
  refine blk_normal ?_
  refine then_normal ?_
  refine wp_region_lit ?_
  refine sv hs (y_add rfl rfl) rfl fun a hs => ?_
  refine mv hs rfl rfl fun a hs => ?_
  refine nl ?_
  exact ⟨_, (Option.some.inj hsh).symm, Sv143, (hs.wk rfl), (hw.ft [0, 1] [0, 1] (by decide) rfl rfl)⟩
 have hsh := ite_f hsh h153
 obtain ⟨rv445, hsh, h446⟩ := map_t hsh
 have h446 := (hd148 _ h446.symm).symm
 subst h446
 refine wp_exit ?_
 refine then_exit ?_
 refine then_exit ?_
 refine blk_exit ?_
 refine then_normal ?_
 refine wp_seq ?_
 refine sr ?_
 refine av hs rfl rfl fun a hs => ?_
 refine nl ?_
 refine wp_block ?_
 refine wp_while (fun sv266 a w => ∃ (Sv334 : Nat → Prop), Sl 102 [(2, .pointer (some ⟨b9, 0, none⟩)), (3, .pointer (some ⟨b10, 0, none⟩)), (9, .int .i64 sv266)] a ∧ Wd ⟨w0, S0, []⟩ Sv334 [.box b9 [.string a1.Source.Network, .string a1.Source.Station, .string a1.Source.Location, .string a1.Source.Channel, .int .i64 a1.Start, .int .i64 a1.First, .int .i64 a1.Rate.Num, .int .i64 a1.Rate.Den, .int .i64 a1.Error, .int .i64 a1.Run, .int .i64 a1.Seq, .slice p2 a1.Samples.length k3] 35, .box b10 [.string b5.Source.Network, .string b5.Source.Station, .string b5.Source.Location, .string b5.Source.Channel, .int .i64 b5.Start, .int .i64 b5.First, .int .i64 b5.Rate.Num, .int .i64 b5.Rate.Den, .int .i64 b5.Error, .int .i64 b5.Run, .int .i64 b5.Seq, .slice p6 b5.Samples.length k7] 35] [SlA p2 a1.Samples.length k3 a1.Samples, SlA p6 b5.Samples.length k7 b5.Samples] w) 0 hsh ⟨Sv143, (hs.wk rfl), (hw.ft [0, 1] [0, 1] (by decide) rfl rfl)⟩ ?_
 repeat clear hsh
 rintro sv266 a w tv369 ⟨Sv334, hs, hw⟩ hsh hd368
 delta ref14_Compare_l4 at hsh
 refine wp_seq ?_
 refine sr ?_
 refine mv hs rfl rfl fun a hs => ?_
 refine sv hs (y_fieldAddr (o' := 11) Tryz.runUnderlying35 rfl Tryz.sizeOf22 rfl rfl rfl) rfl fun a hs => ?_
 refine sv hs (y_loadB1 (hw.ownAt 0 rfl) rfl Tryz.isAgg22 rfl) rfl fun a hs => ?_
 refine sv hs (y_len Tryz.runUnderlying22 rfl) rfl fun a hs => ?_
 refine sv hs (y_lss rfl rfl) rfl fun a hs => ?_
 refine nl ?_
 refine wp_cond_split (hs.ev rfl) (fun h373 => ?_) (fun h373 => ?_)
 ·have hsh := ite_t hsh h373
  refine wp_skip ?_
  refine then_normal ?_
  refine wp_seq ?_
  refine wp_block ?_
  refine wp_seq ?_
  obtain ⟨x406, h404, hsh⟩ := bind_t hsh
  obtain ⟨b412, o413, q410, c411, h414, h407, h408, h409, h405⟩ := hw.elemV 0 rfl h404
  have hsv415 := hs
  have hwv416 := hw
  subst h414
  have hs := hsv415
  have hw := hwv416
  obtain ⟨_, rfl, rfl⟩ := h405
  have hw := hw.addE h409
  obtain ⟨x419, h417, hsh⟩ := bind_t hsh
  obtain ⟨b425, o426, q423, c424, h427, h420, h421, h422, h418⟩ := hw.elemV 2 rfl h417
  have hsv428 := hs
  have hwv429 := hw
  subst h427
  have hs := hsv428
  have hw := hwv429
  obtain ⟨_, rfl, rfl⟩ := h418
  have hw := hw.addE h422
  obtain ⟨rv431, h430, hsh⟩ := bind_t hsh
  refine wp_only (fun a w => ∃ (Sv432 : Nat → Prop), Sl 102 [(2, .pointer (some ⟨b9, 0, none⟩)), (3, .pointer (some ⟨b10, 0, none⟩)), (9, .int .i64 sv266), (10, .int .i64 rv431)] a ∧ Wd ⟨w0, S0, []⟩ Sv432 [.box b9 [.string a1.Source.Network, .string a1.Source.Station, .string a1.Source.Location, .string a1.Source.Channel, .int .i64 a1.Start, .int .i64 a1.First, .int .i64 a1.Rate.Num, .int .i64 a1.Rate.Den, .int .i64 a1.Error, .int .i64 a1.Run, .int .i64 a1.Seq, .slice (some ⟨b412, o413, none⟩) a1.Samples.length k3] 35, .box b10 [.string b5.Source.Network, .string b5.Source.Station, .string b5.Source.Location, .string b5.Source.Channel, .int .i64 b5.Start, .int .i64 b5.First, .int .i64 b5.Rate.Num, .int .i64 b5.Rate.Den, .int .i64 b5.Error, .int .i64 b5.Run, .int .i64 b5.Seq, .slice (some ⟨b425, o426, none⟩) b5.Samples.length k7] 35] [SlA (some ⟨b412, o413, none⟩) a1.Samples.length k3 a1.Samples, SlA (some ⟨b425, o426, none⟩) b5.Samples.length k7 b5.Samples] w) ?_ ?_
  ·refine h_b (C := Cls [.box b9 [.string a1.Source.Network, .string a1.Source.Station, .string a1.Source.Location, .string a1.Source.Channel, .int .i64 a1.Start, .int .i64 a1.First, .int .i64 a1.Rate.Num, .int .i64 a1.Rate.Den, .int .i64 a1.Error, .int .i64 a1.Run, .int .i64 a1.Seq, .slice (some ⟨b412, o413, none⟩) a1.Samples.length k3] 35, .box b10 [.string b5.Source.Network, .string b5.Source.Station, .string b5.Source.Location, .string b5.Source.Channel, .int .i64 b5.Start, .int .i64 b5.First, .int .i64 b5.Rate.Num, .int .i64 b5.Rate.Den, .int .i64 b5.Error, .int .i64 b5.Run, .int .i64 b5.Seq, .slice (some ⟨b425, o426, none⟩) b5.Samples.length k7] 35] [CeA b425 q423 [.int .i64 x419], CeA b412 q410 [.int .i64 x406]]) (by kernel_rfl) rfl (hw.drew.cs [0, 1] [0, 1] rfl rfl) fun hC => ?_
   have hw := hw.drew
   refine gv hs 0 rfl rfl hC (fun w hC => y_fieldAddr (o' := 11) Tryz.runUnderlying35 rfl Tryz.sizeOf22 rfl rfl rfl) fun a hs => ?_
   refine gv hs 1 rfl rfl hC (fun w hC => y_loadB1 (hC.ownAt 0 rfl) rfl Tryz.isAgg22 rfl) fun a hs => ?_
   refine gm hs 2 rfl rfl rfl hC fun a hs => ?_
   refine gv hs 3 rfl rfl hC (fun w hC => y_indexAt Tryz.runUnderlying22 Tryz.sizeOf3 rfl rfl h407.1 h407.2 h408) fun a hs => ?_
   refine gv hs 4 rfl rfl hC (fun w hC => y_loadE1 (j := 0) (hC.ceAt 1 rfl) rfl Tryz.isAgg3 rfl) fun a hs => ?_
   refine gv hs 5 rfl rfl hC (fun w hC => y_fieldAddr (o' := 11) Tryz.runUnderlying35 rfl Tryz.sizeOf22 rfl rfl rfl) fun a hs => ?_
   refine gv hs 6 rfl rfl hC (fun w hC => y_loadB1 (hC.ownAt 1 rfl) rfl Tryz.isAgg22 rfl) fun a hs => ?_
   refine gm hs 7 rfl rfl rfl hC fun a hs => ?_
   refine gv hs 8 rfl rfl hC (fun w hC => y_indexAt Tryz.runUnderlying22 Tryz.sizeOf3 rfl rfl h420.1 h420.2 h421) fun a hs => ?_
   refine gv hs 9 rfl rfl hC (fun w hC => y_loadE1 (j := 0) (hC.ceAt 0 rfl) rfl Tryz.isAgg3 rfl) fun a hs => ?_
   refine ho 10 rfl ?_
   refine st_callR hs (ref14_number_ok h430 hw.bdom) (do_call Tryz.call54 rfl) trivial rfl rfl ?_
   intro v436 Sv433 w a h434 h435 hs
   subst h435
   have hw := hw.callB h434
   refine h_nx (hw.cs [0, 1] [0, 1] rfl rfl) fun hC => ?_
   refine gv hs 11 rfl rfl hC (fun w hC => y_assign rfl) fun a hs => ?_
   refine h_done (by kernel_rfl) ?_
   exact ⟨Sv334, (hs.wk rfl), (hw.ft [0, 1] [2, 3] (by decide) rfl rfl)⟩
  rintro a w ⟨Sv432, hs, hw⟩
  refine then_normal ?_
  refine sr ?_
  refine mv hs rfl rfl fun a hs => ?_
  refine sv hs (y_neq rfl rfl) rfl fun a hs => ?_
  refine nl ?_
  refine wp_cond_split (hs.ev rfl) (fun h439 => ?_) (fun h439 => ?_)
  ·have hsh := ite_t hsh h439
   refine sr ?_
   refine mv hs rfl rfl fun a hs => ?_
   refine av hs rfl rfl fun a hs => ?_
   refine nl ?_
   have hsh := oi hsh
   subst hsh
   have h440 := hd368 _ rfl
   subst h440
   refine wp_ret ?_
   refine blk_ret ?_
   refine then_ret ?_
   refine then_ret ?_
   refine blk_ret ?_
   refine then_ret ?_
   exact ret1 hs rfl (rv_tmp rfl) (hw.ret rfl)
  have hsh := ite_f hsh h439
  refine wp_skip ?_
  refine blk_normal ?_
  refine then_normal ?_
  refine wp_region_lit ?_
  refine mv hs rfl rfl fun a hs => ?_
  refine sv hs (y_add rfl rfl) rfl fun a hs => ?_
  obtain ⟨i442, h441, hsh⟩ := bind_t hsh
  refine sv hs (y_assignI rfl h441) rfl fun a hs => ?_
  refine nl ?_
  exact ⟨_, (Option.some.inj hsh).symm, Sv432, (hs.wk rfl), (hw.ft [0, 1] [0, 1] (by decide) rfl rfl)⟩
 have hsh := ite_f hsh h373
 obtain ⟨rv443, hsh, h444⟩ := map_t hsh
 have h444 := (hd368 _ h444.symm).symm
 subst h444
 refine wp_exit ?_
 refine then_exit ?_
 refine then_exit ?_
 refine blk_exit ?_
 refine then_normal ?_
 refine sr ?_
 refine av hs rfl rfl fun a hs => ?_
 refine nl ?_
 have hsh := oi hsh
 subst hsh
 refine wp_ret ?_
 exact ret1 hs rfl (rv_tmp rfl) (hw.ret rfl)

abbrev ref14_Span_rd (w0 : World) (X : List Nat) (r : (Span × Int)) : (Nat → Prop) → World → Value → Prop := fun S w v => v = .tuple #[.agg #[.int .i64 r.1.From, .int .i64 r.1.To], .int .i64 r.2]
set_option maxHeartbeats 4000000 in
set_option maxRecDepth 100000 in
theorem ref14_Span_ok {w0 : World} {S0 : Nat → Prop} {p2 : Option Addr} {k3 : Nat} {r1 : Record} {r : (Span × Int)} (hsh : ref14_Span r1 = some r) (hS : ∀ b, S0 b → b < w0.heap.size) (h4 : (SlA p2 r1.Samples.length k3 r1.Samples).p S0 w0) : Calls Tryz.prog 22 #[.agg #[.string r1.Source.Network, .string r1.Source.Station, .string r1.Source.Location, .string r1.Source.Channel, .int .i64 r1.Start, .int .i64 r1.First, .int .i64 r1.Rate.Num, .int .i64 r1.Rate.Den, .int .i64 r1.Error, .int .i64 r1.Run, .int .i64 r1.Seq, .slice p2 r1.Samples.length k3]] w0 (Ret ([]) w0 S0 (ref14_Span_rd w0 ([]) r)) := by
 refine calls_of_wp Tryz.func22 rfl ?_
 have hs := Sl.enter #[.agg #[.string r1.Source.Network, .string r1.Source.Station, .string r1.Source.Location, .string r1.Source.Channel, .int .i64 r1.Start, .int .i64 r1.First, .int .i64 r1.Rate.Num, .int .i64 r1.Rate.Den, .int .i64 r1.Error, .int .i64 r1.Run, .int .i64 r1.Seq, .slice p2 r1.Samples.length k3]] 16 [(0, .agg #[.string r1.Source.Network, .string r1.Source.Station, .string r1.Source.Location, .string r1.Source.Channel, .int .i64 r1.Start, .int .i64 r1.First, .int .i64 r1.Rate.Num, .int .i64 r1.Rate.Den, .int .i64 r1.Error, .int .i64 r1.Run, .int .i64 r1.Seq, .slice p2 r1.Samples.length k3])] rfl ⟨rfl, trivial⟩
 have hw := Wd.enter (E := []) hS (fun _ h => (by cases h))
 have hw := hw.addE h4
 delta ref14_Span at hsh
 refine sr ?_
 refine w_box (cs := [.string r1.Source.Network, .string r1.Source.Station, .string r1.Source.Location, .string r1.Source.Channel, .int .i64 r1.Start, .int .i64 r1.First, .int .i64 r1.Rate.Num, .int .i64 r1.Rate.Den, .int .i64 r1.Error, .int .i64 r1.Run, .int .i64 r1.Seq, .slice p2 r1.Samples.length k3]) hs hw rfl rfl rfl trivial ?_
 intro b5 a w hs hw
 refine w_alloc (cs := [.int .i64 0, .int .i64 0]) hs hw Tryz.zeroValue45 rfl rfl trivial ?_
 intro b6 a w hs hw
 refine av hs rfl rfl fun a hs => ?_
 refine nl ?_
 refine wp_seq ?_
 refine sr ?_
 refine sv hs (y_loadBA (hw.ownAt 1 rfl) rfl Tryz.isAgg35 Tryz.sizeOf35 rfl rfl) rfl fun a hs => ?_
 obtain ⟨rv8, h7, hsh⟩ := bind_t hsh
 refine st_callR hs (ref14_Valid_ok h7 hw.bdom (hw.bE 0 rfl)) (do_call Tryz.call51 rfl) trivial rfl rfl ?_
 intro v12 Sv9 w a h10 h11 hs
 subst h11
 have hw := hw.callB h10
 refine sv hs (y_not rfl) rfl fun a hs => ?_
 refine nl ?_
 refine wp_cond_split (hs.ev rfl) (fun h15 => ?_) (fun h15 => ?_)
 ·have hsh := ite_t hsh h15
  refine sr ?_
  refine sv hs (y_build (vs := []) Bld45 rfl rfl) rfl fun a hs => ?_
  refine w_store (m := 2) (cs' := [.int .i64 0, .int .i64 0]) hs hw 0 rfl rfl rfl Tryz.sizeOf45 rfl rfl rfl rfl trivial ?_
  intro a w hs hw
  refine av hs rfl rfl fun a hs => ?_
  refine nl ?_
  have hsh := oi hsh
  subst hsh
  refine wp_ret ?_
  refine then_ret ?_
  exact ret2 hs rfl (rv_cell hw 0 rfl rfl Tryz.isAgg45 Tryz.sizeOf45 rfl) (rv_tmp rfl) (hw.ret rfl)
 have hsh := ite_f hsh h15
 refine wp_skip ?_
 refine then_normal ?_
 refine wp_seq ?_
 obtain ⟨rv17, h16, hsh⟩ := bind_t hsh
 obtain ⟨rv19, h18, hsh⟩ := bind_t hsh
 refine wp_only (fun a w => ∃ (Sv20 : Nat → Prop), Sl 16 [(2, .pointer (some ⟨b6, 0, none⟩)), (3, .int .i64 0)] a ∧ Wd ⟨w0, S0, []⟩ Sv20 [.box b6 [.int .i64 rv17, .int .i64 rv19] 45] [] w) ?_ ?_
 ·refine h_b (C := Cls [.box b5 [.string r1.Source.Network, .string r1.Source.Station, .string r1.Source.Location, .string r1.Source.Channel, .int .i64 r1.Start, .int .i64 r1.First, .int .i64 r1.Rate.Num, .int .i64 r1.Rate.Den, .int .i64 r1.Error, .int .i64 r1.Run, .int .i64 r1.Seq, .slice p2 r1.Samples.length k3] 35] []) (by kernel_rfl) rfl (hw.drew.cs [1] [] rfl rfl) fun hC => ?_
  have hw := hw.drew
  refine gv hs 0 rfl rfl hC (fun w hC => y_loadBA (hC.ownAt 0 rfl) rfl Tryz.isAgg35 Tryz.sizeOf35 rfl rfl) fun a hs => ?_
  refine gv hs 2 rfl rfl hC (fun w hC => y_loadBA (hC.ownAt 0 rfl) rfl Tryz.isAgg35 Tryz.sizeOf35 rfl rfl) fun a hs => ?_
  refine gv hs 3 rfl rfl hC (fun w hC => y_fieldAddr (o' := 11) Tryz.runUnderlying35 rfl Tryz.sizeOf22 rfl rfl rfl) fun a hs => ?_
  refine gv hs 4 rfl rfl hC (fun w hC => y_loadB1 (hC.ownAt 0 rfl) rfl Tryz.isAgg22 rfl) fun a hs => ?_
  refine gv hs 5 rfl rfl hC (fun w hC => y_len Tryz.runUnderlying22 rfl) fun a hs => ?_
  refine ho 1 rfl ?_
  refine st_callR hs (ref14_Time_ok h16 hw.bdom (hw.bE 0 rfl)) (do_call Tryz.call52 rfl) trivial rfl rfl ?_
  intro v24 Sv21 w a h22 h23 hs
  subst h23
  have hw := hw.callB h22
  refine h_nx (hw.cs [1] [] rfl rfl) fun hC => ?_
  refine ho 6 rfl ?_
  refine st_callR hs (ref14_Time_ok h18 hw.bdom (hw.bE 0 rfl)) (do_call Tryz.call52 rfl) trivial rfl rfl ?_
  intro v29 Sv26 w a h27 h28 hs
  subst h28
  have hw := hw.callB h27
  refine h_nx (hw.cs [1] [] rfl rfl) fun hC => ?_
  refine gv hs 7 rfl rfl hC (fun w hC => y_build (vs := [(0, .int .i64 rv17), (1, .int .i64 rv19)]) Bld45 rfl rfl) fun a hs => ?_
  refine ho 8 rfl ?_
  refine w_store (m := 2) (cs' := [.int .i64 rv17, .int .i64 rv19]) hs hw 0 rfl rfl rfl Tryz.sizeOf45 rfl rfl rfl rfl trivial ?_
  intro a w hs hw
  refine h_nx (hw.cs [1] [] rfl rfl) fun hC => ?_
  refine gv hs 9 rfl rfl hC (fun w hC => y_assign rfl) fun a hs => ?_
  refine h_done (by kernel_rfl) ?_
  exact ⟨S0, (hs.wk rfl), (hw.ft [0] [] (by decide) rfl rfl)⟩
 rintro a w ⟨Sv20, hs, hw⟩
 refine then_normal ?_
 have hsh := oi hsh
 subst hsh
 refine wp_ret ?_
 exact ret2 hs rfl (rv_cell hw 0 rfl rfl Tryz.isAgg45 Tryz.sizeOf45 rfl) (rv_tmp rfl) (hw.ret rfl)

abbrev ref14_At_rd (w0 : World) (X : List Nat) (r : (Int × Int)) : (Nat → Prop) → World → Value → Prop := fun S w v => v = .tuple #[.int .i64 r.1, .int .i64 r.2]
set_option maxHeartbeats 4000000 in
set_option maxRecDepth 100000 in
theorem ref14_At_ok {w0 : World} {S0 : Nat → Prop} {p2 : Option Addr} {k3 : Nat} {r1 : Record} {i5 : Int} {r : (Int × Int)} (hsh : ref14_At r1 i5 = some r) (hS : ∀ b, S0 b → b < w0.heap.size) (h4 : (SlA p2 r1.Samples.length k3 r1.Samples).p S0 w0) : Calls Tryz.prog 23 #[.agg #[.string r1.Source.Network, .string r1.Source.Station, .string r1.Source.Location, .string r1.Source.Channel, .int .i64 r1.Start, .int .i64 r1.First, .int .i64 r1.Rate.Num, .int .i64 r1.Rate.Den, .int .i64 r1.Error, .int .i64 r1.Run, .int .i64 r1.Seq, .slice p2 r1.Samples.length k3], .int .i64 i5] w0 (Ret ([]) w0 S0 (ref14_At_rd w0 ([]) r)) := by
 refine calls_of_wp Tryz.func23 rfl ?_
 have hs := Sl.enter #[.agg #[.string r1.Source.Network, .string r1.Source.Station, .string r1.Source.Location, .string r1.Source.Channel, .int .i64 r1.Start, .int .i64 r1.First, .int .i64 r1.Rate.Num, .int .i64 r1.Rate.Den, .int .i64 r1.Error, .int .i64 r1.Run, .int .i64 r1.Seq, .slice p2 r1.Samples.length k3], .int .i64 i5] 18 [(0, .agg #[.string r1.Source.Network, .string r1.Source.Station, .string r1.Source.Location, .string r1.Source.Channel, .int .i64 r1.Start, .int .i64 r1.First, .int .i64 r1.Rate.Num, .int .i64 r1.Rate.Den, .int .i64 r1.Error, .int .i64 r1.Run, .int .i64 r1.Seq, .slice p2 r1.Samples.length k3]), (1, .int .i64 i5)] rfl ⟨rfl, rfl, trivial⟩
 have hw := Wd.enter (E := []) hS (fun _ h => (by cases h))
 have hw := hw.addE h4
 delta ref14_At at hsh
 refine sr ?_
 refine w_box (cs := [.string r1.Source.Network, .string r1.Source.Station, .string r1.Source.Location, .string r1.Source.Channel, .int .i64 r1.Start, .int .i64 r1.First, .int .i64 r1.Rate.Num, .int .i64 r1.Rate.Den, .int .i64 r1.Error, .int .i64 r1.Run, .int .i64 r1.Seq, .slice p2 r1.Samples.length k3]) hs hw rfl rfl rfl trivial ?_
 intro b6 a w hs hw
 refine av hs rfl rfl fun a hs => ?_
 refine av hs rfl rfl fun a hs => ?_
 refine nl ?_
 refine wp_seq ?_
 refine sr ?_
 refine sv hs (y_loadBA (hw.ownAt 0 rfl) rfl Tryz.isAgg35 Tryz.sizeOf35 rfl rfl) rfl fun a hs => ?_
 obtain ⟨rv8, h7, hsh⟩ := bind_t hsh
 refine st_callR hs (ref14_Valid_ok h7 hw.bdom (hw.bE 0 rfl)) (do_call Tryz.call51 rfl) trivial rfl rfl ?_
 intro v12 Sv9 w a h10 h11 hs
 subst h11
 have hw := hw.callB h10
 refine sv hs (y_not rfl) rfl fun a hs => ?_
 refine nl ?_
 refine wp_cond_split (hs.ev rfl) (fun h15 => ?_) (fun h15 => ?_)
 ·have hsh := ite_t hsh h15
  refine sr ?_
  refine av hs rfl rfl fun a hs => ?_
  refine av hs rfl rfl fun a hs => ?_
  refine nl ?_
  have hsh := oi hsh
  subst hsh
  refine wp_ret ?_
  refine then_ret ?_
  exact ret2 hs rfl (rv_tmp rfl) (rv_tmp rfl) (hw.ret rfl)
 have hsh := ite_f hsh h15
 refine wp_skip ?_
 refine then_normal ?_
 refine wp_seq ?_
 refine sr ?_
 refine mv hs rfl rfl fun a hs => ?_
 refine sv hs (y_fieldAddr (o' := 11) Tryz.runUnderlying35 rfl Tryz.sizeOf22 rfl rfl rfl) rfl fun a hs => ?_
 refine sv hs (y_loadB1 (hw.ownAt 0 rfl) rfl Tryz.isAgg22 rfl) rfl fun a hs => ?_
 refine sv hs (y_len Tryz.runUnderlying22 rfl) rfl fun a hs => ?_
 obtain ⟨rv17, h16, hsh⟩ := bind_t hsh
 refine st_callR hs (ref01_In_ok h16 hw.bdom) (do_call Tryz.call55 rfl) trivial rfl rfl ?_
 intro v21 Sv18 w a h19 h20 hs
 subst h20
 have hw := hw.callB h19
 refine sv hs (y_not rfl) rfl fun a hs => ?_
 refine nl ?_
 refine wp_cond_split (hs.ev rfl) (fun h24 => ?_) (fun h24 => ?_)
 ·have hsh := ite_t hsh h24
  refine sr ?_
  refine av hs rfl rfl fun a hs => ?_
  refine av hs rfl rfl fun a hs => ?_
  refine nl ?_
  have hsh := oi hsh
  subst hsh
  refine wp_ret ?_
  refine then_ret ?_
  exact ret2 hs rfl (rv_tmp rfl) (rv_tmp rfl) (hw.ret rfl)
 have hsh := ite_f hsh h24
 refine wp_skip ?_
 refine then_normal ?_
 refine sr ?_
 refine sv hs (y_loadBA (hw.ownAt 0 rfl) rfl Tryz.isAgg35 Tryz.sizeOf35 rfl rfl) rfl fun a hs => ?_
 refine mv hs rfl rfl fun a hs => ?_
 obtain ⟨rv26, h25, hsh⟩ := bind_t hsh
 refine st_callR hs (ref14_Time_ok h25 hw.bdom (hw.bE 0 rfl)) (do_call Tryz.call52 rfl) trivial rfl rfl ?_
 intro v30 Sv27 w a h28 h29 hs
 subst h29
 have hw := hw.callB h28
 refine av hs rfl rfl fun a hs => ?_
 refine av hs rfl rfl fun a hs => ?_
 refine nl ?_
 have hsh := oi hsh
 subst hsh
 refine wp_ret ?_
 exact ret2 hs rfl (rv_tmp rfl) (rv_tmp rfl) (hw.ret rfl)

abbrev ref08_Normal_rd (w0 : World) (X : List Nat) (r : (List Span)) : (Nat → Prop) → World → Value → Prop := fun S w v => ∃ (p0_0 : Option Addr) (k0_0 : Nat) (c0_0 : List Value), v = .slice p0_0 r.length k0_0 ∧ Outs X w0 S w [.row p0_0 r.length k0_0 c0_0 45 2] ∧ (RowA c0_0 r).p S w
set_option maxHeartbeats 4000000 in
set_option maxRecDepth 100000 in
theorem ref08_Normal_ok {w0 : World} {S0 : Nat → Prop} {p2 : Option Addr} {k3 : Nat} {l1 : (List Span)} {r : (List Span)} (hsh : ref08_Normal l1 = some r) (hS : ∀ b, S0 b → b < w0.heap.size) (h4 : (SlA p2 l1.length k3 l1).p S0 w0) : Calls Tryz.prog 58 #[.slice p2 l1.length k3] w0 (Ret ([]) w0 S0 (ref08_Normal_rd w0 ([]) r)) := by
 refine calls_of_wp Tryz.func58 rfl ?_
 have hs := Sl.enter #[.slice p2 l1.length k3] 117 [(0, .slice p2 l1.length k3)] rfl ⟨rfl, trivial⟩
 have hw := Wd.enter (E := []) hS (fun _ h => (by cases h))
 have hw := hw.addE h4
 delta ref08_Normal at hsh
 refine sr ?_
 refine av hs rfl rfl fun a hs => ?_
 refine nl ?_
 refine sr ?_
 refine av hs rfl rfl fun a hs => ?_
 refine nl ?_
 refine wp_seq ?_
 refine sr ?_
 refine av hs rfl rfl fun a hs => ?_
 refine nl ?_
 obtain ⟨e539, h1541, hsh⟩ := bind_t hsh
 refine wp_join (fun a w => ∃ (c540 : List Value) (p541 : Option Addr) (k542 : Nat) (Sv543 : Nat → Prop), Sl 117 [(3, .slice p541 e539.length k542)] a ∧ Wd ⟨w0, S0, []⟩ Sv543 [.row p541 e539.length k542 c540 45 2] [RowA c540 e539] w) ?_ ?_
 ·refine wp_block ?_
  have hw := hw.nilRow Span 45
  refine wp_while (fun sv5 a w => ∃ (c358 : List Value) (p359 : Option Addr) (k360 : Nat) (Sv361 : Nat → Prop), Sl 117 [(0, .slice p2 l1.length k3), (3, .slice p359 sv5.1.length k360), (4, .int .i64 sv5.2)] a ∧ Wd ⟨w0, S0, []⟩ Sv361 [.row p359 sv5.1.length k360 c358 45 2] [SlA p2 l1.length k3 l1, RowA c358 sv5.1] w) (([] : List Span), 0) h1541 ⟨[], none, 0, S0, (hs.wk rfl), (hw.ft [0] [1, 0] (by decide) rfl rfl)⟩ ?_
  clear h1541
  repeat clear hsh
  rintro sv5 a w tv537 ⟨c358, p359, k360, Sv361, hs, hw⟩ hsh hd536
  delta ref08_Normal_l3 at hsh
  refine wp_seq ?_
  refine sr ?_
  refine mv hs rfl rfl fun a hs => ?_
  refine mv hs rfl rfl fun a hs => ?_
  refine sv hs (y_len Tryz.runUnderlying52 rfl) rfl fun a hs => ?_
  refine sv hs (y_lss rfl rfl) rfl fun a hs => ?_
  refine nl ?_
  refine wp_cond_split (hs.ev rfl) (fun h545 => ?_) (fun h545 => ?_)
  ·have hsh := ite_t hsh h545
   refine wp_skip ?_
   refine then_normal ?_
   refine wp_seq ?_
   refine wp_join (fun a w => ∃ (sorted716 : (List Span)) (c712 : List Value) (p713 : Option Addr) (k714 : Nat) (Sv715 : Nat → Prop), ref08_Normal_j1 sv5 sorted716 = some tv537 ∧ Sl 117 [(0, .slice p2 l1.length k3), (3, .slice p713 sorted716.length k714), (4, .int .i64 sv5.2)] a ∧ Wd ⟨w0, S0, []⟩ Sv715 [.row p713 sorted716.length k714 c712 45 2] [SlA p2 l1.length k3 l1, RowA c712 sorted716] w) ?_ ?_
   ·refine wp_block ?_
    refine wp_seq ?_
    refine wp_seq ?_
    obtain ⟨x721, h719, hsh⟩ := bind_t hsh
    obtain ⟨b727, o728, q725, c726, h729, h722, h723, h724, h720⟩ := hw.elemV 0 rfl h719
    have hsv730 := hs
    have hwv731 := hw
    subst h729
    have hs := hsv730
    have hw := hwv731
    obtain ⟨_, _, rfl, rfl, rfl⟩ := h720
    have hw := hw.addE h724
    obtain ⟨x734, h732, hsh⟩ := bind_t hsh
    obtain ⟨q738, c739, h735, h736, h737, h733⟩ := hw.elemK 1 rfl h732
    obtain ⟨_, _, rfl, rfl, rfl⟩ := h733
    have hw := hw.addE h737
    refine wp_only (fun a w => ∃ (Sv740 : Nat → Prop), Sl 117 [(0, .slice (some ⟨b727, o728, none⟩) l1.length k3), (3, .slice p359 sv5.1.length k360), (4, .int .i64 sv5.2), (25, .bool (decide (x734.To ≤ x721.From)))] a ∧ Wd ⟨w0, S0, []⟩ Sv740 [.row p359 sv5.1.length k360 c358 45 2] [SlA (some ⟨b727, o728, none⟩) l1.length k3 l1, RowA c358 sv5.1] w) ?_ ?_
    ·refine h_b (C := Cls [.row p359 sv5.1.length k360 c358 45 2] [CeA b727 q738 [.int .i64 x734.From, .int .i64 x734.To], CeA b727 q725 [.int .i64 x721.From, .int .i64 x721.To]]) (by kernel_rfl) rfl (hw.drew.cs [0] [0, 1] rfl rfl) fun hC => ?_
     have hw := hw.drew
     refine gm hs 0 rfl rfl rfl hC fun a hs => ?_
     refine gm hs 1 rfl rfl rfl hC fun a hs => ?_
     refine gv hs 2 rfl rfl hC (fun w hC => y_indexAt Tryz.runUnderlying52 Tryz.sizeOf45 rfl rfl h722.1 h722.2 h723) fun a hs => ?_
     refine gv hs 3 rfl rfl hC (fun w hC => y_fieldAddr (o' := q725 + 0) Tryz.runUnderlying45 rfl Tryz.sizeOf3 rfl rfl rfl) fun a hs => ?_
     refine gv hs 4 rfl rfl hC (fun w hC => y_loadE1 (j := 0) (hC.ceAt 1 rfl) rfl Tryz.isAgg3 rfl) fun a hs => ?_
     refine gm hs 5 rfl rfl rfl hC fun a hs => ?_
     refine gm hs 6 rfl rfl rfl hC fun a hs => ?_
     refine gv hs 7 rfl rfl hC (fun w hC => y_indexAt Tryz.runUnderlying52 Tryz.sizeOf45 rfl rfl h735.1 h735.2 h736) fun a hs => ?_
     refine gv hs 8 rfl rfl hC (fun w hC => y_fieldAddr (o' := q738 + 1) Tryz.runUnderlying45 rfl Tryz.sizeOf3 rfl rfl rfl) fun a hs => ?_
     refine gv hs 9 rfl rfl hC (fun w hC => y_loadE1 (j := 1) (hC.ceAt 0 rfl) rfl Tryz.isAgg3 rfl) fun a hs => ?_
     refine gv hs 10 rfl rfl hC (fun w hC => y_geq rfl rfl) fun a hs => ?_
     refine h_done (by kernel_rfl) ?_
     exact ⟨Sv361, (hs.wk rfl), (hw.ft [0] [2, 3] (by decide) rfl rfl)⟩
    rintro a w ⟨Sv740, hs, hw⟩
    refine then_normal ?_
    refine wp_cond_split (hs.ev rfl) (fun h742 => ?_) (fun h742 => ?_)
    ·have hsh := ite_t hsh h742
     refine wp_exit ?_
     refine then_exit ?_
     refine blk_exit ?_
     refine then_normal ?_
     exact ⟨sv5.1, c358, p359, k360, Sv740, hsh, (hs.wk rfl), (hw.ft [0] [0, 1] (by decide) rfl rfl)⟩
    have hsh := ite_f hsh h742
    refine wp_skip ?_
    refine then_normal ?_
    refine sr ?_
    refine mv hs rfl rfl fun a hs => ?_
    refine sv hs (y_len Tryz.runUnderlying52 rfl) rfl fun a hs => ?_
    obtain ⟨k744, h743, hsh⟩ := bind_t hsh
    refine sv hs (y_assignI rfl h743) rfl fun a hs => ?_
    refine nl ?_
    refine wp_seq ?_
    obtain ⟨e829, h943, hsh⟩ := bind_t hsh
    refine wp_join (fun a w => ∃ (Sv830 : Nat → Prop), Sl 117 [(0, .slice (some ⟨b727, o728, none⟩) l1.length k3), (3, .slice p359 sv5.1.length k360), (4, .int .i64 sv5.2), (5, .int .i64 e829)] a ∧ Wd ⟨w0, S0, []⟩ Sv830 [.row p359 sv5.1.length k360 c358 45 2] [SlA (some ⟨b727, o728, none⟩) l1.length k3 l1, RowA c358 sv5.1] w) ?_ ?_
    ·refine wp_block ?_
     refine wp_while (fun sv745 a w => ∃ (Sv799 : Nat → Prop), Sl 117 [(0, .slice (some ⟨b727, o728, none⟩) l1.length k3), (3, .slice p359 sv5.1.length k360), (4, .int .i64 sv5.2), (5, .int .i64 sv745)] a ∧ Wd ⟨w0, S0, []⟩ Sv799 [.row p359 sv5.1.length k360 c358 45 2] [SlA (some ⟨b727, o728, none⟩) l1.length k3 l1, RowA c358 sv5.1] w) k744 h943 ⟨Sv740, (hs.wk rfl), (hw.ft [0] [0, 1] (by decide) rfl rfl)⟩ ?_
     clear h943
     repeat clear hsh
     rintro sv745 a w tv827 ⟨Sv799, hs, hw⟩ hsh hd826
     delta ref08_Normal_l6 at hsh
     refine wp_seq ?_
     refine wp_seq ?_
     obtain ⟨c852, hc852, hsh⟩ := bind_t hsh
     refine wp_only (fun a w => ∃ (Sv853 : Nat → Prop), Sl 117 [(0, .slice (some ⟨b727, o728, none⟩) l1.length k3), (3, .slice p359 sv5.1.length k360), (4, .int .i64 sv5.2), (5, .int .i64 sv745), (43, .bool c852)] a ∧ Wd ⟨w0, S0, []⟩ Sv853 [.row p359 sv5.1.length k360 c358 45 2] [SlA (some ⟨b727, o728, none⟩) l1.length k3 l1, RowA c358 sv5.1] w) ?_ ?_
     ·rcases Bool.eq_false_or_eq_true (decide (0 < sv745)) with h854 | h854
      ·have h855 := ite_t hc852 h854
       obtain ⟨x858, h856, h855⟩ := bind_t h855
       obtain ⟨b865, q862, c863, h866, h859, h860, h864, h857⟩ := hw.elemRV (α := Span) 0 rfl 1 rfl h856
       have hsv867 := hs
       have hwv868 := hw
       subst h866
       have hs := hsv867
       have hw := hwv868
       obtain ⟨_, _, rfl, rfl, rfl⟩ := h857
       obtain ⟨x871, h869, h855⟩ := bind_t h855
       obtain ⟨q875, c876, h872, h873, h874, h870⟩ := hw.elemK 0 rfl h869
       obtain ⟨_, _, rfl, rfl, rfl⟩ := h870
       have hw := hw.addE h874
       refine h_b (C := Cls [.row (some ⟨b865, 0, none⟩) sv5.1.length k360 c358 45 2] [CeA b727 q875 [.int .i64 x871.From, .int .i64 x871.To]]) (by kernel_rfl) rfl (hw.drew.cs [0] [0] rfl rfl) fun hC => ?_
       have hw := hw.drew
       refine gm hs 0 rfl rfl rfl hC fun a hs => ?_
       refine gv hs 1 rfl rfl hC (fun w hC => y_gtr rfl rfl) fun a hs => ?_
       refine gm hs 2 rfl rfl rfl hC fun a hs => ?_
       have hs := hs.fix 30 (.bool true) rfl (vb h854)
       refine gt hs 3 rfl ⟨_, rfl, rfl⟩ rfl hC (fun w hC => y_move rfl) fun a hs => ?_
       refine gt hs 4 rfl ⟨_, rfl, rfl⟩ rfl hC (fun w hC => y_move rfl) fun a hs => ?_
       refine gt hs 5 rfl ⟨_, rfl, rfl⟩ rfl hC (fun w hC => y_sub rfl rfl) fun a hs => ?_
       refine gt hs 6 rfl ⟨_, rfl, rfl⟩ rfl hC (fun w hC => y_indexAt Tryz.runUnderlying52 Tryz.sizeOf45 rfl rfl h859.1 h859.2 h860) fun a hs => ?_
       refine gt hs 7 rfl ⟨_, rfl, rfl⟩ rfl hC (fun w hC => y_fieldAddr (o' := q862 + 0) Tryz.runUnderlying45 rfl Tryz.sizeOf3 rfl rfl rfl) fun a hs => ?_
       refine gt hs 8 rfl ⟨_, rfl, rfl⟩ rfl hC (fun w hC => y_loadQ1 (j := 0) (hC.ownAt 0 rfl) rfl Tryz.isAgg3 h864 rfl) fun a hs => ?_
       refine gt hs 9 rfl ⟨_, rfl, rfl⟩ rfl hC (fun w hC => y_move rfl) fun a hs => ?_
       refine gt hs 10 rfl ⟨_, rfl, rfl⟩ rfl hC (fun w hC => y_move rfl) fun a hs => ?_
       refine gt hs 11 rfl ⟨_, rfl, rfl⟩ rfl hC (fun w hC => y_indexAt Tryz.runUnderlying52 Tryz.sizeOf45 rfl rfl h872.1 h872.2 h873) fun a hs => ?_
       refine gt hs 12 rfl ⟨_, rfl, rfl⟩ rfl hC (fun w hC => y_fieldAddr (o' := q875 + 0) Tryz.runUnderlying45 rfl Tryz.sizeOf3 rfl rfl rfl) fun a hs => ?_
       refine gt hs 13 rfl ⟨_, rfl, rfl⟩ rfl hC (fun w hC => y_loadE1 (j := 0) (hC.ceAt 0 rfl) rfl Tryz.isAgg3 rfl) fun a hs => ?_
       refine gt hs 14 rfl ⟨_, rfl, rfl⟩ rfl hC (fun w hC => y_gtr rfl rfl) fun a hs => ?_
       refine gv hs 15 rfl rfl hC (fun w hC => y_pickTE (v := .bool c852) rfl rfl (vbs h855)) fun a hs => ?_
       refine h_done (by kernel_rfl) ?_
       exact ⟨Sv799, (hs.wk rfl), (hw.ft [0] [1, 2] (by decide) rfl rfl)⟩
      have h877 := ite_f hc852 h854
      refine h_b (C := Cls [.row p359 sv5.1.length k360 c358 45 2] []) (by kernel_rfl) rfl (hw.drew.cs [0] [] rfl rfl) fun hC => ?_
      have hw := hw.drew
      refine gm hs 0 rfl rfl rfl hC fun a hs => ?_
      refine gv hs 1 rfl rfl hC (fun w hC => y_gtr rfl rfl) fun a hs => ?_
      refine gm hs 2 rfl rfl rfl hC fun a hs => ?_
      have hs := hs.fix 30 (.bool false) rfl (vb h854)
      refine gs hs 3 rfl rfl rfl rfl hC fun a hs => ?_
      refine gs hs 4 rfl rfl rfl rfl hC fun a hs => ?_
      refine gs hs 5 rfl rfl rfl rfl hC fun a hs => ?_
      refine gs hs 6 rfl rfl rfl rfl hC fun a hs => ?_
      refine gs hs 7 rfl rfl rfl rfl hC fun a hs => ?_
      refine gs hs 8 rfl rfl rfl rfl hC fun a hs => ?_
      refine gs hs 9 rfl rfl rfl rfl hC fun a hs => ?_
      refine gs hs 10 rfl rfl rfl rfl hC fun a hs => ?_
      refine gs hs 11 rfl rfl rfl rfl hC fun a hs => ?_
      refine gs hs 12 rfl rfl rfl rfl hC fun a hs => ?_
      refine gs hs 13 rfl rfl rfl rfl hC fun a hs => ?_
      refine gs hs 14 rfl rfl rfl rfl hC fun a hs => ?_
      refine gv hs 15 rfl rfl hC (fun w hC => y_pickFE (v := .bool c852) rfl rfl (vbs h877)) fun a hs => ?_
      refine h_done (by kernel_rfl) ?_
      exact ⟨Sv799, (hs.wk rfl), (hw.ft [0] [0, 1] (by decide) rfl rfl)⟩
     rintro a w ⟨Sv853, hs, hw⟩
     refine then_normal ?_
     refine wp_cond_split (hs.ev rfl) (fun h879 => ?_) (fun h879 => ?_)
     ·have hsh := ite_t hsh h879
      refine wp_skip ?_
      refine then_normal ?_
      refine wp_block ?_
      refine wp_region_lit ?_
      refine mv hs rfl rfl fun a hs => ?_
      refine sv hs (y_sub rfl rfl) rfl fun a hs => ?_
      obtain ⟨k883, h882, hsh⟩ := bind_t hsh
      refine sv hs (y_assignI rfl h882) rfl fun a hs => ?_
      refine wpList_nil ?_
      refine blk_normal ?_
      refine then_normal ?_
      exact ⟨_, (Option.some.inj hsh).symm, Sv853, (hs.wk rfl), (hw.ft [0] [0, 1] (by decide) rfl rfl)⟩
     have hsh := ite_f hsh h879
     refine wp_exit ?_
     refine then_exit ?_
     refine then_exit ?_
     refine blk_exit ?_
     have hsh := oi hsh
     subst hsh
     have h884 := hd826 _ rfl
     subst h884
     refine then_normal ?_
     exact ⟨Sv853, (hs.wk rfl), (hw.ft [0] [0, 1] (by decide) rfl rfl)⟩
    rintro a w ⟨Sv830, hs, hw⟩
    refine then_normal ?_
    refine sr ?_
    refine mv hs rfl rfl fun a hs => ?_
    refine mv hs rfl rfl fun a hs => ?_
    refine mv hs rfl rfl fun a hs => ?_
    obtain ⟨x887, h885, hsh⟩ := bind_t hsh
    obtain ⟨q891, c892, h888, h889, h890, h886⟩ := hw.elemK 0 rfl h885
    obtain ⟨_, _, rfl, rfl, rfl⟩ := h886
    have hw := hw.addE h890
    refine sv hs (y_indexAt Tryz.runUnderlying52 Tryz.sizeOf45 rfl rfl h888.1 h888.2 h889) rfl fun a hs => ?_
    refine sv hs (y_loadEA (j := 0) (hw.ceAt 0 rfl) rfl Tryz.isAgg45 Tryz.sizeOf45 rfl rfl) rfl fun a hs => ?_
    refine w_litSlice (α := Span) (vs := [.agg #[.int .i64 x887.From, .int .i64 x887.To]]) (cs := [.int .i64 x887.From, .int .i64 x887.To]) (xs := ([x887] : List Span)) hs hw El52 rfl rfl rfl rfl rfl rfl ⟨⟨_, _, rfl, rfl, rfl⟩, rfl⟩ rfl trivial rfl fun b894 a w hs hw => ?_
    obtain ⟨l896, h895, hsh⟩ := bind_t hsh
    refine w_appendR (α := Span) hs hw El52 1 rfl rfl rfl 3 rfl 0 rfl 0 rfl h895 rfl trivial ?_
    intro p897 k898 c899 a w hs hw
    refine av hs rfl rfl fun a hs => ?_
    refine nl ?_
    refine wp_seq ?_
    obtain ⟨l904, h900, hsh⟩ := bind_t hsh
    obtain ⟨p902, k903, h901⟩ := row_sub (α := Span) hw 1 rfl h900
    obtain ⟨l909, h905, hsh⟩ := bind_t hsh
    obtain ⟨p907, k908, h906⟩ := row_sub (α := Span) hw 1 rfl h905
    obtain ⟨l910, h911, hsh⟩ := bind_t hsh
    refine wp_only (fun a w => ∃ (Sv914 : Nat → Prop) (c912 : List Value), Sl 117 [(0, .slice (some ⟨b727, o728, none⟩) l1.length k3), (3, .slice p897 l910.length k898), (4, .int .i64 sv5.2), (5, .int .i64 e829)] a ∧ Wd ⟨w0, S0, []⟩ Sv914 [.row p897 l910.length k898 c912 45 2] [SlA (some ⟨b727, o728, none⟩) l1.length k3 l1, RowA c912 l910] w) ?_ ?_
    ·refine h_b (C := Cls [.row (some ⟨b894, 0, none⟩) ([x887] : List Span).length ([x887] : List Span).length [.int .i64 x887.From, .int .i64 x887.To] 45 2] [CeA b727 q891 [.int .i64 x887.From, .int .i64 x887.To]]) (by kernel_rfl) rfl (hw.drew.cs [0] [2] rfl rfl) fun hC => ?_
     have hw := hw.drew
     refine gm hs 0 rfl rfl rfl hC fun a hs => ?_
     refine gm hs 1 rfl rfl rfl hC fun a hs => ?_
     refine gv hs 2 rfl rfl hC (fun w hC => y_add rfl rfl) fun a hs => ?_
     refine gv hs 3 rfl rfl hC (fun w hC => y_slc Tryz.runUnderlying52 Tryz.sizeOf45 rfl ⟨_, rfl⟩ (by exact rfl) h901) fun a hs => ?_
     refine gm hs 4 rfl rfl rfl hC fun a hs => ?_
     refine gm hs 5 rfl rfl rfl hC fun a hs => ?_
     refine gv hs 6 rfl rfl hC (fun w hC => y_slc Tryz.runUnderlying52 Tryz.sizeOf45 rfl ⟨_, rfl⟩ (by exact rfl) h906) fun a hs => ?_
     refine ho 7 rfl ?_
     obtain ⟨ds_, h917⟩ := src_vw (hw.ownAt 1 rfl) (hw.envAt 0 rfl) h905 h906
     refine w_copyC (α := Span) hs hw 1 rfl 0 rfl Tryz.runUnderlying52 Tryz.runUnderlying52 Tryz.sizeOf45 (by decide) h900 h901 rfl rfl rfl h917.1 h917.2.1 h917.2.2 rfl trivial ?_
     intro c912 a w hs hw
     rw [Option.some.inj h911] at hw
     have h913 := (copy_lenS h900 h911)
     try have hs := hs.fl 3 rfl h913
     try have hs := hs.fl 53 rfl h913
     try have hs := hs.fl 57 rfl h913
     refine h_nx (hw.cs [0] [3] rfl rfl) fun hC => ?_
     refine h_done (by kernel_rfl) ?_
     exact ⟨Sv830, c912, (hs.wk rfl), (hw.ft [1] [4, 0] (by decide) rfl rfl)⟩
    rintro a w ⟨Sv914, c912, hs, hw⟩
    refine then_normal ?_
    refine wp_region_lit ?_
    refine mv hs rfl rfl fun a hs => ?_
    refine mv hs rfl rfl fun a hs => ?_
    refine mv hs rfl rfl fun a hs => ?_
    refine mv hs rfl rfl fun a hs => ?_
    obtain ⟨x920, h918, hsh⟩ := bind_t hsh
    obtain ⟨q924, c925, h921, h922, h923, h919⟩ := hw.elemK 0 rfl h918
    obtain ⟨_, _, rfl, rfl, rfl⟩ := h919
    have hw := hw.addE h923
    refine sv hs (y_indexAt Tryz.runUnderlying52 Tryz.sizeOf45 rfl rfl h921.1 h921.2 h922) rfl fun a hs => ?_
    refine sv hs (y_loadEA (j := 0) (hw.ceAt 0 rfl) rfl Tryz.isAgg45 Tryz.sizeOf45 rfl rfl) rfl fun a hs => ?_
    obtain ⟨x928, h926, hsh⟩ := bind_t hsh
    obtain ⟨b935, q932, c933, h936, h929, h930, h934, h927⟩ := hw.elemRV (α := Span) 0 rfl 2 rfl h926
    have hsv937 := hs
    have hwv938 := hw
    subst h936
    have hs := hsv937
    have hw := hwv938
    obtain ⟨_, _, rfl, rfl, rfl⟩ := h927
    refine sv hs (y_indexAt Tryz.runUnderlying52 Tryz.sizeOf45 rfl rfl h929.1 h929.2 h930) rfl fun a hs => ?_
    obtain ⟨l940, h939, hsh⟩ := bind_t hsh
    refine w_storeF (α := Span) hs hw 0 rfl 2 rfl h930 rfl rfl Tryz.sizeOf45 rfl h939 ⟨_, _, rfl, rfl, rfl⟩ trivial ?_
    intro c941 a w hs hw
    have h942 := setM_len h939
    try have hs := hs.fl 3 rfl h942
    try have hs := hs.fl 61 rfl h942
    refine wpList_nil ?_
    refine blk_normal ?_
    refine then_normal ?_
    exact ⟨l940, c941, (some ⟨b935, 0, none⟩), k898, Sv914, hsh, (hs.wk rfl), (hw.ft [0] [2, 0] (by decide) rfl rfl)⟩
   rintro a w ⟨sorted716, c712, p713, k714, Sv715, hsh, hs, hw⟩
   delta ref08_Normal_j1 at hsh
   refine then_normal ?_
   refine wp_region_lit ?_
   refine mv hs rfl rfl fun a hs => ?_
   refine sv hs (y_add rfl rfl) rfl fun a hs => ?_
   obtain ⟨i718, h717, hsh⟩ := bind_t hsh
   refine sv hs (y_assignI rfl h717) rfl fun a hs => ?_
   refine nl ?_
   exact ⟨_, (Option.some.inj hsh).symm, c712, p713, k714, Sv715, (hs.wk rfl), (hw.ft [0] [0, 1] (by decide) rfl rfl)⟩
  have hsh := ite_f hsh h545
  refine wp_exit ?_
  refine then_exit ?_
  refine then_exit ?_
  refine blk_exit ?_
  have hsh := oi hsh
  subst hsh
  have h944 := hd536 _ rfl
  subst h944
  refine then_normal ?_
  exact ⟨c358, p359, k360, Sv361, (hs.wk rfl), (hw.ft [0] [1] (by decide) rfl rfl)⟩
 rintro a w ⟨c540, p541, k542, Sv543, hs, hw⟩
 refine then_normal ?_
 refine sr ?_
 refine av hs rfl rfl fun a hs => ?_
 refine nl ?_
 refine wp_seq ?_
 refine sr ?_
 refine av hs rfl rfl fun a hs => ?_
 refine nl ?_
 obtain ⟨e1248, h1540, hsh⟩ := bind_t hsh
 refine wp_join (fun a w => ∃ (c1249 : List Value) (p1250 : Option Addr) (k1251 : Nat) (Sv1252 : Nat → Prop), Sl 117 [(6, .slice p1250 e1248.length k1251)] a ∧ Wd ⟨w0, S0, []⟩ Sv1252 [.row p1250 e1248.length k1251 c1249 45 2] [RowA c1249 e1248] w) ?_ ?_
 ·refine wp_block ?_
  have hw := hw.nilRow Span 45
  refine wp_while (fun sv945 a w => ∃ (c1142 : List Value) (p1143 : Option Addr) (k1144 : Nat) (Sv1145 : Nat → Prop), Sl 117 [(3, .slice p541 e539.length k542), (6, .slice p1143 sv945.1.length k1144), (7, .int .i64 sv945.2)] a ∧ Wd ⟨w0, S0, []⟩ Sv1145 [.row p541 e539.length k542 c540 45 2, .row p1143 sv945.1.length k1144 c1142 45 2] [RowA c540 e539, RowA c1142 sv945.1] w) (([] : List Span), 0) h1540 ⟨[], none, 0, Sv543, (hs.wk rfl), (hw.ft [1, 0] [1, 0] (by decide) rfl rfl)⟩ ?_
  clear h1540
  repeat clear hsh
  rintro sv945 a w tv1246 ⟨c1142, p1143, k1144, Sv1145, hs, hw⟩ hsh hd1245
  delta ref08_Normal_l7 at hsh
  refine wp_seq ?_
  refine sr ?_
  refine mv hs rfl rfl fun a hs => ?_
  refine mv hs rfl rfl fun a hs => ?_
  refine sv hs (y_len Tryz.runUnderlying52 rfl) rfl fun a hs => ?_
  refine sv hs (y_lss rfl rfl) rfl fun a hs => ?_
  refine nl ?_
  refine wp_cond_split (hs.ev rfl) (fun h1254 => ?_) (fun h1254 => ?_)
  ·have hsh := ite_t hsh h1254
   refine wp_skip ?_
   refine then_normal ?_
   refine wp_seq ?_
   refine wp_block ?_
   refine sr ?_
   refine mv hs rfl rfl fun a hs => ?_
   refine sv hs (y_len Tryz.runUnderlying52 rfl) rfl fun a hs => ?_
   obtain ⟨n1352, h1351, hsh⟩ := bind_t hsh
   refine sv hs (y_assignI rfl h1351) rfl fun a hs => ?_
   refine nl ?_
   refine wp_seq ?_
   obtain ⟨c1379, hc1379, hsh⟩ := bind_t hsh
   refine wp_only (fun a w => ∃ (Sv1380 : Nat → Prop), Sl 117 [(3, .slice p541 e539.length k542), (6, .slice p1143 sv945.1.length k1144), (7, .int .i64 sv945.2), (8, .int .i64 n1352), (91, .bool c1379)] a ∧ Wd ⟨w0, S0, []⟩ Sv1380 [.row p541 e539.length k542 c540 45 2, .row p1143 sv945.1.length k1144 c1142 45 2] [RowA c540 e539, RowA c1142 sv945.1] w) ?_ ?_
   ·rcases Bool.eq_false_or_eq_true (decide (0 < n1352)) with h1381 | h1381
    ·have h1382 := ite_t hc1379 h1381
     obtain ⟨x1385, h1383, h1382⟩ := bind_t h1382
     obtain ⟨b1392, q1389, c1390, h1393, h1386, h1387, h1391, h1384⟩ := hw.elemRV (α := Span) 0 rfl 0 rfl h1383
     have hsv1394 := hs
     have hwv1395 := hw
     subst h1393
     have hs := hsv1394
     have hw := hwv1395
     obtain ⟨_, _, rfl, rfl, rfl⟩ := h1384
     obtain ⟨x1398, h1396, h1382⟩ := bind_t h1382
     obtain ⟨b1405, q1402, c1403, h1406, h1399, h1400, h1404, h1397⟩ := hw.elemRV (α := Span) 1 rfl 1 rfl h1396
     have hsv1407 := hs
     have hwv1408 := hw
     subst h1406
     have hs := hsv1407
     have hw := hwv1408
     obtain ⟨_, _, rfl, rfl, rfl⟩ := h1397
     refine h_b (C := Cls [.row (some ⟨b1392, 0, none⟩) e539.length k542 c540 45 2, .row (some ⟨b1405, 0, none⟩) sv945.1.length k1144 c1142 45 2] []) (by kernel_rfl) rfl (hw.drew.cs [0, 1] [] rfl rfl) fun hC => ?_
     have hw := hw.drew
     refine gm hs 0 rfl rfl rfl hC fun a hs => ?_
     refine gv hs 1 rfl rfl hC (fun w hC => y_gtr rfl rfl) fun a hs => ?_
     refine gm hs 2 rfl rfl rfl hC fun a hs => ?_
     have hs := hs.fix 78 (.bool true) rfl (vb h1381)
     refine gt hs 3 rfl ⟨_, rfl, rfl⟩ rfl hC (fun w hC => y_move rfl) fun a hs => ?_
     refine gt hs 4 rfl ⟨_, rfl, rfl⟩ rfl hC (fun w hC => y_move rfl) fun a hs => ?_
     refine gt hs 5 rfl ⟨_, rfl, rfl⟩ rfl hC (fun w hC => y_indexAt Tryz.runUnderlying52 Tryz.sizeOf45 rfl rfl h1386.1 h1386.2 h1387) fun a hs => ?_
     refine gt hs 6 rfl ⟨_, rfl, rfl⟩ rfl hC (fun w hC => y_fieldAddr (o' := q1389 + 0) Tryz.runUnderlying45 rfl Tryz.sizeOf3 rfl rfl rfl) fun a hs => ?_
     refine gt hs 7 rfl ⟨_, rfl, rfl⟩ rfl hC (fun w hC => y_loadQ1 (j := 0) (hC.ownAt 0 rfl) rfl Tryz.isAgg3 h1391 rfl) fun a hs => ?_
     refine gt hs 8 rfl ⟨_, rfl, rfl⟩ rfl hC (fun w hC => y_move rfl) fun a hs => ?_
     refine gt hs 9 rfl ⟨_, rfl, rfl⟩ rfl hC (fun w hC => y_move rfl) fun a hs => ?_
     refine gt hs 10 rfl ⟨_, rfl, rfl⟩ rfl hC (fun w hC => y_sub rfl rfl) fun a hs => ?_
     refine gt hs 11 rfl ⟨_, rfl, rfl⟩ rfl hC (fun w hC => y_indexAt Tryz.runUnderlying52 Tryz.sizeOf45 rfl rfl h1399.1 h1399.2 h1400) fun a hs => ?_
     refine gt hs 12 rfl ⟨_, rfl, rfl⟩ rfl hC (fun w hC => y_fieldAddr (o' := q1402 + 1) Tryz.runUnderlying45 rfl Tryz.sizeOf3 rfl rfl rfl) fun a hs => ?_
     refine gt hs 13 rfl ⟨_, rfl, rfl⟩ rfl hC (fun w hC => y_loadQ1 (j := 1) (hC.ownAt 1 rfl) rfl Tryz.isAgg3 h1404 rfl) fun a hs => ?_
     refine gt hs 14 rfl ⟨_, rfl, rfl⟩ rfl hC (fun w hC => y_leq rfl rfl) fun a hs => ?_
     refine gv hs 15 rfl rfl hC (fun w hC => y_pickTE (v := .bool c1379) rfl rfl (vbs h1382)) fun a hs => ?_
     refine h_done (by kernel_rfl) ?_
     exact ⟨Sv1145, (hs.wk rfl), (hw.ft [0, 1] [0, 1] (by decide) rfl rfl)⟩
    have h1409 := ite_f hc1379 h1381
    refine h_b (C := Cls [.row p541 e539.length k542 c540 45 2, .row p1143 sv945.1.length k1144 c1142 45 2] []) (by kernel_rfl) rfl (hw.drew.cs [0, 1] [] rfl rfl) fun hC => ?_
    have hw := hw.drew
    refine gm hs 0 rfl rfl rfl hC fun a hs => ?_
    refine gv hs 1 rfl rfl hC (fun w hC => y_gtr rfl rfl) fun a hs => ?_
    refine gm hs 2 rfl rfl rfl hC fun a hs => ?_
    have hs := hs.fix 78 (.bool false) rfl (vb h1381)
    refine gs hs 3 rfl rfl rfl rfl hC fun a hs => ?_
    refine gs hs 4 rfl rfl rfl rfl hC fun a hs => ?_
    refine gs hs 5 rfl rfl rfl rfl hC fun a hs => ?_
    refine gs hs 6 rfl rfl rfl rfl hC fun a hs => ?_
    refine gs hs 7 rfl rfl rfl rfl hC fun a hs => ?_
    refine gs hs 8 rfl rfl rfl rfl hC fun a hs => ?_
    refine gs hs 9 rfl rfl rfl rfl hC fun a hs => ?_
    refine gs hs 10 rfl rfl rfl rfl hC fun a hs => ?_
    refine gs hs 11 rfl rfl rfl rfl hC fun a hs => ?_
    refine gs hs 12 rfl rfl rfl rfl hC fun a hs => ?_
    refine gs hs 13 rfl rfl rfl rfl hC fun a hs => ?_
    refine gs hs 14 rfl rfl rfl rfl hC fun a hs => ?_
    refine gv hs 15 rfl rfl hC (fun w hC => y_pickFE (v := .bool c1379) rfl rfl (vbs h1409)) fun a hs => ?_
    refine h_done (by kernel_rfl) ?_
    exact ⟨Sv1145, (hs.wk rfl), (hw.ft [0, 1] [0, 1] (by decide) rfl rfl)⟩
   rintro a w ⟨Sv1380, hs, hw⟩
   refine then_normal ?_
   refine wp_join (fun a w => ∃ (out1475 : (List Span)) (c1471 : List Value) (p1472 : Option Addr) (k1473 : Nat) (Sv1474 : Nat → Prop), ref08_Normal_j4 sv945 out1475 = some tv1246 ∧ Sl 117 [(3, .slice p541 e539.length k542), (6, .slice p1472 out1475.length k1473), (7, .int .i64 sv945.2)] a ∧ Wd ⟨w0, S0, []⟩ Sv1474 [.row p541 e539.length k542 c540 45 2, .row p1472 out1475.length k1473 c1471 45 2] [RowA c540 e539, RowA c1471 out1475] w) ?_ ?_
   ·refine wp_cond_split (hs.ev rfl) (fun h1478 => ?_) (fun h1478 => ?_)
    ·have hsh := ite_t hsh h1478
     obtain ⟨x1481, h1479, hsh⟩ := bind_t hsh
     obtain ⟨b1488, q1485, c1486, h1489, h1482, h1483, h1487, h1480⟩ := hw.elemRV (α := Span) 1 rfl 1 rfl h1479
     have hsv1490 := hs
     have hwv1491 := hw
     subst h1489
     have hs := hsv1490
     have hw := hwv1491
     obtain ⟨_, _, rfl, rfl, rfl⟩ := h1480
     obtain ⟨x1494, h1492, hsh⟩ := bind_t hsh
     obtain ⟨b1501, q1498, c1499, h1502, h1495, h1496, h1500, h1493⟩ := hw.elemRV (α := Span) 0 rfl 0 rfl h1492
     have hsv1503 := hs
     have hwv1504 := hw
     subst h1502
     have hs := hsv1503
     have hw := hwv1504
     obtain ⟨_, _, rfl, rfl, rfl⟩ := h1493
     obtain ⟨x1507, h1505, hsh⟩ := bind_t hsh
     obtain ⟨q1511, c1512, h1508, h1509, h1513, h1506⟩ := hw.elemRK (α := Span) 1 rfl 1 rfl h1505
     obtain ⟨_, _, rfl, rfl, rfl⟩ := h1506
     obtain ⟨l1515, h1514, hsh⟩ := bind_t hsh
     refine wp_only (fun a w => ∃ (Sv1518 : Nat → Prop) (c1516 : List Value), Sl 117 [(3, .slice (some ⟨b1501, 0, none⟩) e539.length k542), (6, .slice (some ⟨b1488, 0, none⟩) l1515.length k1144), (7, .int .i64 sv945.2)] a ∧ Wd ⟨w0, S0, []⟩ Sv1518 [.row (some ⟨b1501, 0, none⟩) e539.length k542 c540 45 2, .row (some ⟨b1488, 0, none⟩) l1515.length k1144 c1516 45 2] [RowA c540 e539, RowA c1516 l1515] w) ?_ ?_
     ·refine h_b (C := Cls [.row (some ⟨b1501, 0, none⟩) e539.length k542 c540 45 2] []) (by kernel_rfl) rfl (hw.drew.cs [0] [] rfl rfl) fun hC => ?_
      have hw := hw.drew
      refine gm hs 0 rfl rfl rfl hC fun a hs => ?_
      refine gm hs 1 rfl rfl rfl hC fun a hs => ?_
      refine gv hs 2 rfl rfl hC (fun w hC => y_sub rfl rfl) fun a hs => ?_
      refine gm hs 3 rfl rfl rfl hC fun a hs => ?_
      refine gm hs 4 rfl rfl rfl hC fun a hs => ?_
      refine gv hs 5 rfl rfl hC (fun w hC => y_sub rfl rfl) fun a hs => ?_
      refine gv hs 6 rfl rfl hC (fun w hC => y_indexAt Tryz.runUnderlying52 Tryz.sizeOf45 rfl rfl h1482.1 h1482.2 h1483) fun a hs => ?_
      refine gv hs 7 rfl rfl hC (fun w hC => y_fieldAddr (o' := q1485 + 1) Tryz.runUnderlying45 rfl Tryz.sizeOf3 rfl rfl rfl) fun a hs => ?_
      refine gm hs 9 rfl rfl rfl hC fun a hs => ?_
      refine gm hs 10 rfl rfl rfl hC fun a hs => ?_
      refine gv hs 11 rfl rfl hC (fun w hC => y_indexAt Tryz.runUnderlying52 Tryz.sizeOf45 rfl rfl h1495.1 h1495.2 h1496) fun a hs => ?_
      refine gv hs 12 rfl rfl hC (fun w hC => y_fieldAddr (o' := q1498 + 1) Tryz.runUnderlying45 rfl Tryz.sizeOf3 rfl rfl rfl) fun a hs => ?_
      refine gv hs 13 rfl rfl hC (fun w hC => y_loadQ1 (j := 1) (hC.ownAt 0 rfl) rfl Tryz.isAgg3 h1500 rfl) fun a hs => ?_
      refine ho 8 rfl ?_
      refine sv hs (y_loadQ1 (j := 1) (hw.ownAt 1 rfl) rfl Tryz.isAgg3 h1487 rfl) rfl fun a hs => ?_
      refine h_nx (hw.cs [0] [] rfl rfl) fun hC => ?_
      refine gv hs 14 rfl rfl hC (fun w hC => y_max rfl rfl) fun a hs => ?_
      refine gv hs 15 rfl rfl hC (fun w hC => y_indexAt Tryz.runUnderlying52 Tryz.sizeOf45 rfl rfl h1508.1 h1508.2 h1509) fun a hs => ?_
      refine gv hs 16 rfl rfl hC (fun w hC => y_fieldAddr (o' := q1511 + 1) Tryz.runUnderlying45 rfl Tryz.sizeOf3 rfl rfl rfl) fun a hs => ?_
      refine ho 17 rfl ?_
      refine w_storeR (α := Span) (f := 1) (m := 1) hs hw 1 rfl 1 rfl h1509 rfl rfl Tryz.sizeOf3 rfl rfl rfl h1514 (fun es he => by rw [h1513] at he; subst he; exact ⟨_, _, rfl, rfl, rfl⟩) trivial ?_
      intro c1516 a w hs hw
      have h1517 := setM_len h1514
      try have hs := hs.fl 6 rfl h1517
      try have hs := hs.fl 92 rfl h1517
      try have hs := hs.fl 95 rfl h1517
      refine h_nx (hw.cs [0] [] rfl rfl) fun hC => ?_
      refine h_done (by kernel_rfl) ?_
      exact ⟨Sv1380, c1516, (hs.wk rfl), (hw.ft [0, 1] [1, 0] (by decide) rfl rfl)⟩
     rintro a w ⟨Sv1518, c1516, hs, hw⟩
     refine then_normal ?_
     exact ⟨l1515, c1516, (some ⟨b1488, 0, none⟩), k1144, Sv1518, hsh, (hs.wk rfl), (hw.ft [0, 1] [0, 1] (by decide) rfl rfl)⟩
    have hsh := ite_f hsh h1478
    refine wp_region_lit ?_
    refine mv hs rfl rfl fun a hs => ?_
    refine mv hs rfl rfl fun a hs => ?_
    refine mv hs rfl rfl fun a hs => ?_
    obtain ⟨x1521, h1519, hsh⟩ := bind_t hsh
    obtain ⟨b1528, q1525, c1526, h1529, h1522, h1523, h1527, h1520⟩ := hw.elemRV (α := Span) 0 rfl 0 rfl h1519
    have hsv1530 := hs
    have hwv1531 := hw
    subst h1529
    have hs := hsv1530
    have hw := hwv1531
    obtain ⟨_, _, rfl, rfl, rfl⟩ := h1520
    refine sv hs (y_indexAt Tryz.runUnderlying52 Tryz.sizeOf45 rfl rfl h1522.1 h1522.2 h1523) rfl fun a hs => ?_
    refine sv hs (y_loadQA (j := 0) (hw.ownAt 0 rfl) rfl Tryz.isAgg45 Tryz.sizeOf45 h1527 rfl rfl) rfl fun a hs => ?_
    refine w_litSlice (α := Span) (vs := [.agg #[.int .i64 x1521.From, .int .i64 x1521.To]]) (cs := [.int .i64 x1521.From, .int .i64 x1521.To]) (xs := ([x1521] : List Span)) hs hw El52 rfl rfl rfl rfl rfl rfl ⟨⟨_, _, rfl, rfl, rfl⟩, rfl⟩ rfl trivial rfl fun b1533 a w hs hw => ?_
    obtain ⟨l1535, h1534, hsh⟩ := bind_t hsh
    refine w_appendR (α := Span) hs hw El52 2 rfl rfl rfl 2 rfl 0 rfl 0 rfl h1534 rfl trivial ?_
    intro p1536 k1537 c1538 a w hs hw
    refine av hs rfl rfl fun a hs => ?_
    refine nl ?_
    exact ⟨l1535, c1538, p1536, k1537, Sv1380, hsh, (hs.wk rfl), (hw.ft [1, 2] [2, 0] (by decide) rfl rfl)⟩
   rintro a w ⟨out1475, c1471, p1472, k1473, Sv1474, hsh, hs, hw⟩
   delta ref08_Normal_j4 at hsh
   refine blk_normal ?_
   refine then_normal ?_
   refine wp_region_lit ?_
   refine mv hs rfl rfl fun a hs => ?_
   refine sv hs (y_add rfl rfl) rfl fun a hs => ?_
   obtain ⟨i1477, h1476, hsh⟩ := bind_t hsh
   refine sv hs (y_assignI rfl h1476) rfl fun a hs => ?_
   refine nl ?_
   exact ⟨_, (Option.some.inj hsh).symm, c1471, p1472, k1473, Sv1474, (hs.wk rfl), (hw.ft [0, 1] [0, 1] (by decide) rfl rfl)⟩
  have hsh := ite_f hsh h1254
  refine wp_exit ?_
  refine then_exit ?_
  refine then_exit ?_
  refine blk_exit ?_
  have hsh := oi hsh
  subst hsh
  have h1539 := hd1245 _ rfl
  subst h1539
  refine then_normal ?_
  exact ⟨c1142, p1143, k1144, Sv1145, (hs.wk rfl), (hw.ft [1] [1] (by decide) rfl rfl)⟩
 rintro a w ⟨c1249, p1250, k1251, Sv1252, hs, hw⟩
 refine then_normal ?_
 refine sr ?_
 refine mv hs rfl rfl fun a hs => ?_
 refine av hs rfl rfl fun a hs => ?_
 refine nl ?_
 have hsh := oi hsh
 subst hsh
 refine wp_ret ?_
 exact ret1 hs rfl (rv_tmp rfl) (hw.ret ⟨p1250, k1251, c1249, rfl, (hw.outs [0] (by decide) rfl), (hw.envAt 0 rfl)⟩)

end Go.Proofs.YthdimlepjpnncaaGreat.Wk

/- The walks of ComposeApart, part 3: each Go function computes what its plain program computes. Printed by a program of ours. -/
import Derived.Test.YthdimlepjpnncaaGreatProg
import Derived.Test.YthdimlepjpnncaaGreatDat
import Derived.Test.YthdimlepjpnncaaGreatSh
import Derived.Test.YthdimlepjpnncaaGreatLibL
import Derived.Test.YthdimlepjpnncaaGreatLibZ
import Derived.Test.YthdimlepjpnncaaGreatLibQ
import Derived.KernelRfl
import Derived.Test.YthdimlepjpnncaaGreatLibU
import Derived.Shelf.SlLaysF0
import Derived.Test.YthdimlepjpnncaaGreatWComposeApart2
namespace Go.Proofs.YthdimlepjpnncaaGreat.Wk
open Go Go.RowKit Go.Proofs Go.Proofs.YthdimlepjpnncaaGreat.Sh
set_option linter.unusedVariables false
set_option linter.unusedSimpArgs false

abbrev made_Dice_Record_rd (w0 : World) (X : List Nat) (b2 : Nat) (r : (Record × Dice)) : (Nat → Prop) → World → Value → Prop := fun S w v => ∃ (p0_11 : Option Addr) (k0_11 : Nat) (c0_11 : List Value) (pq0_0 : Option Addr) (kq0_0 : Nat), v = .agg #[.string r.1.Source.Network, .string r.1.Source.Station, .string r.1.Source.Location, .string r.1.Source.Channel, .int .i64 r.1.Start, .int .i64 r.1.First, .int .i64 r.1.Rate.Num, .int .i64 r.1.Rate.Den, .int .i64 r.1.Error, .int .i64 r.1.Run, .int .i64 r.1.Seq, .slice p0_11 r.1.Samples.length k0_11] ∧ Outs X w0 S w [.row p0_11 r.1.Samples.length k0_11 c0_11 3 1, .box b2 [.slice pq0_0 r.2.L.length kq0_0, .int .i64 r.2.At] 75] ∧ (RowA c0_11 r.1.Samples).p S w ∧ (SlA pq0_0 r.2.L.length kq0_0 r.2.L).p S w
abbrev D16t1 (b2 : Nat) (b43 : Nat) (b8 : Nat) (b9 : Nat) (n7 : Int) : Slots := [(0, .pointer (some ⟨b2, 0, none⟩)), (2, .int .i64 n7), (4, .pointer (some ⟨b8, 0, none⟩)), (6, .pointer (some ⟨b9, 0, none⟩)), (7, .pointer (some ⟨b43, 0, none⟩))]
abbrev D16t2 (b2 : Nat) (b50 : Nat) (b57 : Nat) (b73 : Nat) (rv37 : (Rate × Int)) (rv45 : (Int × Dice)) (rv52 : (Int × Dice)) (rv59 : (Int × Dice)) (rv64 : (Int × Dice)) (rv69 : (Int × Dice)) (s6 : SourceID) : Vs := [(0, 21, .agg #[.string s6.Network, .string s6.Station, .string s6.Location, .string s6.Channel]), (1, 22, .pointer (some ⟨b2, 0, none⟩)), (2, 23, .int .i64 rv45.1), (3, 24, .int .i64 (w64 (250000 * rv45.1))), (4, 25, .int .i64 (w64 (1000000000000 + (w64 (250000 * rv45.1))))), (5, 26, .pointer (some ⟨b2, 0, none⟩)), (6, 27, .slice (some ⟨b50, 0, none⟩) ([0, 0, 3] : List Int).length ([0, 0, 3] : List Int).length), (7, 28, .int .i64 rv52.1), (8, 29, .agg #[.int .i64 rv37.1.Num, .int .i64 rv37.1.Den]), (9, 30, .pointer (some ⟨b2, 0, none⟩)), (10, 31, .slice (some ⟨b57, 0, none⟩) ([0, 0, 10, 500] : List Int).length ([0, 0, 10, 500] : List Int).length), (11, 32, .int .i64 rv59.1), (12, 33, .pointer (some ⟨b2, 0, none⟩)), (13, 34, .int .i64 rv64.1), (14, 35, .pointer (some ⟨b2, 0, none⟩)), (15, 36, .int .i64 rv69.1), (16, 37, .agg #[.string s6.Network, .string s6.Station, .string s6.Location, .string s6.Channel, .int .i64 (w64 (1000000000000 + (w64 (250000 * rv45.1)))), .int .i64 rv52.1, .int .i64 rv37.1.Num, .int .i64 rv37.1.Den, .int .i64 rv59.1, .int .i64 rv64.1, .int .i64 rv69.1, .slice none ([] : List Int).length 0]), (17, 9, .pointer (some ⟨b73, 0, none⟩))]
abbrev D16t3 : List Value := [.int .i64 0, .int .i64 0, .int .i64 3]
abbrev D16t4 : List Int := ([0, 0, 3] : List Int)
abbrev D16t5 : List Value := [.int .i64 0, .int .i64 0, .int .i64 10, .int .i64 500]
abbrev D16t6 : List Int := ([0, 0, 10, 500] : List Int)
set_option maxHeartbeats 4000000 in
set_option maxRecDepth 100000 in
theorem made_Dice_Record_ok {w0 : World} {S0 : Nat → Prop} {b2 : Nat} {p3 : Option Addr} {k4 : Nat} {d1 : Dice} {s6 : SourceID} {n7 : Int} {r : (Record × Dice)} (hsh : made_Dice_Record d1 s6 n7 = some r) (hS : ∀ b, S0 b → b < w0.heap.size) (hin : Ins S0 w0 [.box b2 [.slice p3 d1.L.length k4, .int .i64 d1.At] 75]) (h5 : (SlA p3 d1.L.length k4 d1.L).p S0 w0) : Calls Tryz.prog 16 #[.pointer (some ⟨b2, 0, none⟩), .agg #[.string s6.Network, .string s6.Station, .string s6.Location, .string s6.Channel], .int .i64 n7] w0 (Ret (blks [.box b2 [.slice p3 d1.L.length k4, .int .i64 d1.At] 75]) w0 S0 (made_Dice_Record_rd w0 (blks [.box b2 [.slice p3 d1.L.length k4, .int .i64 d1.At] 75]) b2 r)) := by
 refine calls_of_wp Tryz.func16 rfl ?_
 have hs := Sl.enter #[.pointer (some ⟨b2, 0, none⟩), .agg #[.string s6.Network, .string s6.Station, .string s6.Location, .string s6.Channel], .int .i64 n7] 54 [(0, .pointer (some ⟨b2, 0, none⟩)), (1, .agg #[.string s6.Network, .string s6.Station, .string s6.Location, .string s6.Channel]), (2, .int .i64 n7)] rfl ⟨rfl, rfl, rfl, trivial⟩
 have hw := Wd.enterI hS hin
 have hw := hw.addE h5
 delta made_Dice_Record at hsh
 refine sr ?_
 refine w_box (cs := [.string s6.Network, .string s6.Station, .string s6.Location, .string s6.Channel]) hs hw rfl rfl rfl trivial ?_
 intro b8 a w hs hw
 refine w_alloc (cs := [.string ByteArray.empty, .string ByteArray.empty, .string ByteArray.empty, .string ByteArray.empty, .int .i64 0, .int .i64 0, .int .i64 0, .int .i64 0, .int .i64 0, .int .i64 0, .int .i64 0, .slice none ([] : List Int).length 0]) hs hw Tryz.zeroValue35 rfl rfl trivial ?_
 intro b9 a w hs hw
 refine nl ?_
 refine sr ?_
 refine mv hs rfl rfl fun a hs => ?_
 refine w_litSlice (α := Int) (vs := [.int .i64 1, .int .i64 2, .int .i64 2, .int .i64 3]) (cs := [.int .i64 1, .int .i64 2, .int .i64 2, .int .i64 3]) (xs := ([1, 2, 2, 3] : List Int)) hs hw El22 rfl rfl rfl rfl rfl rfl ⟨⟨_, rfl, rfl⟩, ⟨⟨_, rfl, rfl⟩, ⟨⟨_, rfl, rfl⟩, ⟨⟨_, rfl, rfl⟩, rfl⟩⟩⟩⟩ rfl trivial rfl fun b11 a w hs hw => ?_
 obtain ⟨rv13, h12, hsh⟩ := bind_t hsh
 obtain ⟨Sv17, hw⟩ := w_share (α := Int) hw 0 rfl 0 rfl
 refine st_callR hs (made_Dice_Pick_ok h12 hw.dom (hw.ins [2] (by decide) rfl) (hw.envAt 2 rfl) (hw.envAt 0 rfl)) (do_call Tryz.call47 rfl) trivial rfl rfl ?_
 intro v21 Sv18 w a h19 h20 hs
 obtain ⟨p14, k15, rfl, h22, h16⟩ := h20
 have hw := hw.callO [2] [0, 1] (by decide) rfl h19 h22
 have hw := hw.addE (e := SlA p14 rv13.2.L.length k15 rv13.2.L) h16
 refine mv hs rfl rfl fun a hs => ?_
 refine w_litSlice (α := Int) (vs := [.int .i64 1, .int .i64 1, .int .i64 1, .int .i64 3]) (cs := [.int .i64 1, .int .i64 1, .int .i64 1, .int .i64 3]) (xs := ([1, 1, 1, 3] : List Int)) hs hw El22 rfl rfl rfl rfl rfl rfl ⟨⟨_, rfl, rfl⟩, ⟨⟨_, rfl, rfl⟩, ⟨⟨_, rfl, rfl⟩, ⟨⟨_, rfl, rfl⟩, rfl⟩⟩⟩⟩ rfl trivial rfl fun b24 a w hs hw => ?_
 obtain ⟨rv26, h25, hsh⟩ := bind_t hsh
 obtain ⟨Sv30, hw⟩ := w_share (α := Int) hw 0 rfl 0 rfl
 refine st_callR hs (made_Dice_Pick_ok h25 hw.dom (hw.ins [0] (by decide) rfl) (hw.envAt 2 rfl) (hw.envAt 0 rfl)) (do_call Tryz.call47 rfl) trivial rfl rfl ?_
 intro v34 Sv31 w a h32 h33 hs
 obtain ⟨p27, k28, rfl, h35, h29⟩ := h33
 have hw := hw.callO [0] [1, 2] (by decide) rfl h32 h35
 have hw := hw.addE (e := SlA p27 rv26.2.L.length k28 rv26.2.L) h29
 obtain ⟨rv37, h36, hsh⟩ := bind_t hsh
 refine st_callR hs (ref02_New_ok h36 hw.bdom) (do_call Tryz.call48 rfl) trivial rfl rfl ?_
 intro v41 Sv38 w a h39 h40 hs
 subst h40
 have hw := hw.callB h39
 refine mv hs rfl rfl fun a hs => ?_
 refine sv hs (y_extract rfl rfl) rfl fun a hs => ?_
 refine sv hs (y_extract rfl rfl) rfl fun a hs => ?_
 refine w_alloc (cs := [.int .i64 0, .int .i64 0]) hs hw Tryz.zeroValue33 rfl rfl trivial ?_
 intro b43 a w hs hw
 refine w_store (m := 2) (cs' := [.int .i64 rv37.1.Num, .int .i64 rv37.1.Den]) hs hw 0 rfl rfl rfl Tryz.sizeOf33 rfl rfl rfl rfl trivial ?_
 intro a w hs hw
 refine av hs rfl rfl fun a hs => ?_
 refine nl ?_
 refine wp_seq ?_
 obtain ⟨rv45, h44, hsh⟩ := bind_t hsh
 obtain ⟨rv52, h51, hsh⟩ := bind_t hsh
 obtain ⟨rv59, h58, hsh⟩ := bind_t hsh
 obtain ⟨rv64, h63, hsh⟩ := bind_t hsh
 obtain ⟨rv69, h68, hsh⟩ := bind_t hsh
 refine wp_only (fun a w => ∃ (Sv74 : Nat → Prop) (b73 : Nat) (k71 : Nat) (p70 : Option Addr), Sl 54 [(0, .pointer (some ⟨b2, 0, none⟩)), (2, .int .i64 n7), (6, .pointer (some ⟨b9, 0, none⟩)), (9, .pointer (some ⟨b73, 0, none⟩))] a ∧ Wd ⟨w0, S0, blks [.box b2 [.slice p3 d1.L.length k4, .int .i64 d1.At] 75]⟩ Sv74 [.box b2 [.slice p70 rv69.2.L.length k71, .int .i64 rv69.2.At] 75, .box b9 [.string ByteArray.empty, .string ByteArray.empty, .string ByteArray.empty, .string ByteArray.empty, .int .i64 0, .int .i64 0, .int .i64 0, .int .i64 0, .int .i64 0, .int .i64 0, .int .i64 0, .slice none ([] : List Int).length 0] 35, .box b73 [.string s6.Network, .string s6.Station, .string s6.Location, .string s6.Channel, .int .i64 (w64 (1000000000000 + (w64 (250000 * rv45.1)))), .int .i64 rv52.1, .int .i64 rv37.1.Num, .int .i64 rv37.1.Den, .int .i64 rv59.1, .int .i64 rv64.1, .int .i64 rv69.1, .slice none ([] : List Int).length 0] 35] [SlA p70 rv69.2.L.length k71 rv69.2.L, SlA none ([] : List Int).length 0 ([] : List Int)] w) ?_ ?_
 ·refine wp_region_phi (n := 19) (Φ := fun l a w => ∃ (b50 : Nat) (b57 : Nat) (b73 : Nat) (k47 : Nat) (k54 : Nat) (k61 : Nat) (k66 : Nat) (k71 : Nat) (p46 : Option Addr) (p53 : Option Addr) (p60 : Option Addr) (p65 : Option Addr) (p70 : Option Addr) (S : Nat → Prop), SlF 54 (D16t1 b2 b43 b8 b9 n7) (D16t2 b2 b50 b57 b73 rv37 rv45 rv52 rv59 rv64 rv69 s6) l a ∧ Wd ⟨w0, S0, blks [.box b2 [.slice p3 d1.L.length k4, .int .i64 d1.At] 75]⟩ S [.box b43 [.int .i64 rv37.1.Num, .int .i64 rv37.1.Den] 33, ((bif l 15 then .box b2 [.slice p70 rv69.2.L.length k71, .int .i64 rv69.2.At] 75 else (bif l 13 then .box b2 [.slice p65 rv64.2.L.length k66, .int .i64 rv64.2.At] 75 else (bif l 11 then .box b2 [.slice p60 rv59.2.L.length k61, .int .i64 rv59.2.At] 75 else (bif l 7 then .box b2 [.slice p53 rv52.2.L.length k54, .int .i64 rv52.2.At] 75 else (bif l 2 then .box b2 [.slice p46 rv45.2.L.length k47, .int .i64 rv45.2.At] 75 else .box b2 [.slice p27 rv26.2.L.length k28, .int .i64 rv26.2.At] 75))))) : Res), .box b9 [.string ByteArray.empty, .string ByteArray.empty, .string ByteArray.empty, .string ByteArray.empty, .int .i64 0, .int .i64 0, .int .i64 0, .int .i64 0, .int .i64 0, .int .i64 0, .int .i64 0, .slice none ([] : List Int).length 0] 35, .box b8 [.string s6.Network, .string s6.Station, .string s6.Location, .string s6.Channel] 31, ((bif l 7 then emp else (bif l 6 then .row (some ⟨b50, 0, none⟩) ([0, 0, 3] : List Int).length ([0, 0, 3] : List Int).length [.int .i64 0, .int .i64 0, .int .i64 3] 3 1 else emp)) : Res), ((bif l 11 then emp else (bif l 10 then .row (some ⟨b57, 0, none⟩) ([0, 0, 10, 500] : List Int).length ([0, 0, 10, 500] : List Int).length [.int .i64 0, .int .i64 0, .int .i64 10, .int .i64 500] 3 1 else emp)) : Res), ((bif l 18 then .box b73 [.string s6.Network, .string s6.Station, .string s6.Location, .string s6.Channel, .int .i64 (w64 (1000000000000 + (w64 (250000 * rv45.1)))), .int .i64 rv52.1, .int .i64 rv37.1.Num, .int .i64 rv37.1.Den, .int .i64 rv59.1, .int .i64 rv64.1, .int .i64 rv69.1, .slice none ([] : List Int).length 0] 35 else (bif l 17 then .box b73 [.string ByteArray.empty, .string ByteArray.empty, .string ByteArray.empty, .string ByteArray.empty, .int .i64 0, .int .i64 0, .int .i64 0, .int .i64 0, .int .i64 0, .int .i64 0, .int .i64 0, .slice none ([] : List Int).length 0] 35 else emp)) : Res)] [SlA p27 rv26.2.L.length k28 rv26.2.L, SlA (some ⟨b24, 0, none⟩) ([1, 1, 1, 3] : List Int).length ([1, 1, 1, 3] : List Int).length ([1, 1, 1, 3] : List Int), RowA [.int .i64 1, .int .i64 1, .int .i64 1, .int .i64 3] ([1, 1, 1, 3] : List Int), SlA p14 rv13.2.L.length k15 rv13.2.L, SlA (some ⟨b11, 0, none⟩) ([1, 2, 2, 3] : List Int).length ([1, 2, 2, 3] : List Int).length ([1, 2, 2, 3] : List Int), RowA [.int .i64 1, .int .i64 2, .int .i64 2, .int .i64 3] ([1, 2, 2, 3] : List Int), SlA p3 d1.L.length k4 d1.L, optA (l 2) (SlA p46 rv45.2.L.length k47 rv45.2.L), optA (l 6) (RowA [.int .i64 0, .int .i64 0, .int .i64 3] ([0, 0, 3] : List Int)), optA (l 7) (SlA (some ⟨b50, 0, none⟩) ([0, 0, 3] : List Int).length ([0, 0, 3] : List Int).length ([0, 0, 3] : List Int)), optA (l 7) (SlA p53 rv52.2.L.length k54 rv52.2.L), optA (l 10) (RowA [.int .i64 0, .int .i64 0, .int .i64 10, .int .i64 500] ([0, 0, 10, 500] : List Int)), optA (l 11) (SlA (some ⟨b57, 0, none⟩) ([0, 0, 10, 500] : List Int).length ([0, 0, 10, 500] : List Int).length ([0, 0, 10, 500] : List Int)), optA (l 11) (SlA p60 rv59.2.L.length k61 rv59.2.L), optA (l 13) (SlA p65 rv64.2.L.length k66 rv64.2.L), optA (l 15) (SlA p70 rv69.2.L.length k71 rv69.2.L)] w) [1, 1, 2, 3, 4, 1, 1, 3, 1, 1, 1, 4, 1, 5, 1, 6, 7, 1, 8] (by kernel_rfl) rfl (by kernel_rfl) ?_ (AllS.succ (AllS.succ (AllS.succ (AllS.succ (AllS.succ (AllS.succ (AllS.succ (AllS.succ (AllS.succ (AllS.succ (AllS.succ (AllS.succ (AllS.succ (AllS.succ (AllS.succ (AllS.succ (AllS.succ (AllS.succ (AllS.succ AllS.zero ?_) ?_) ?_) ?_) ?_) ?_) ?_) ?_) ?_) ?_) ?_) ?_) ?_) ?_) ?_) ?_) ?_) ?_) ?_) ?_
  ·obtain ⟨b50, b57, b73, k47, k54, k61, k66, k71, p46, p53, p60, p65, p70, _⟩ : ∃ (b50 : Nat) (b57 : Nat) (b73 : Nat) (k47 : Nat) (k54 : Nat) (k61 : Nat) (k66 : Nat) (k71 : Nat) (p46 : Option Addr) (p53 : Option Addr) (p60 : Option Addr) (p65 : Option Addr) (p70 : Option Addr), True := ⟨0, 0, 0, 0, 0, 0, 0, 0, none, none, none, none, none, trivial⟩
   have hw := hw.drew
   have hw := hw.emp
   have hw := hw.emp
   have hw := hw.emp
   have hw := hw.noE (SlA p70 rv69.2.L.length k71 rv69.2.L)
   have hw := hw.noE (SlA p65 rv64.2.L.length k66 rv64.2.L)
   have hw := hw.noE (SlA p60 rv59.2.L.length k61 rv59.2.L)
   have hw := hw.noE (SlA (some ⟨b57, 0, none⟩) ([0, 0, 10, 500] : List Int).length ([0, 0, 10, 500] : List Int).length ([0, 0, 10, 500] : List Int))
   have hw := hw.noE (RowA [.int .i64 0, .int .i64 0, .int .i64 10, .int .i64 500] ([0, 0, 10, 500] : List Int))
   have hw := hw.noE (SlA p53 rv52.2.L.length k54 rv52.2.L)
   have hw := hw.noE (SlA (some ⟨b50, 0, none⟩) ([0, 0, 3] : List Int).length ([0, 0, 3] : List Int).length ([0, 0, 3] : List Int))
   have hw := hw.noE (RowA [.int .i64 0, .int .i64 0, .int .i64 3] ([0, 0, 3] : List Int))
   have hw := hw.noE (SlA p46 rv45.2.L.length k47 rv45.2.L)
   exact ⟨b50, b57, b73, k47, k54, k61, k66, k71, p46, p53, p60, p65, p70, Sv31, SlF.init (hs.wk rfl) (by kernel_rfl), hw.ft [3, 4, 5, 6, 0, 1, 2] [9, 10, 11, 12, 13, 14, 15, 0, 1, 2, 3, 4, 5, 6, 7, 8] (by decide) rfl rfl⟩
  ·intro l hi hp hc a w ⟨b50, b57, b73, k47, k54, k61, k66, k71, p46, p53, p60, p65, p70, S, hS, hw⟩
   refine S_val hS (.b (t := 4) rfl .nil) rfl rfl trivial (y_loadBA (hw.ownAt 3 rfl) rfl Tryz.isAgg31 Tryz.sizeOf31 rfl rfl) (rfl) 0 rfl fun a hS => ⟨b50, b57, b73, k47, k54, k61, k66, k71, p46, p53, p60, p65, p70, S, hS, hw⟩
  ·intro l hi hp hc a w ⟨b50, b57, b73, k47, k54, k61, k66, k71, p46, p53, p60, p65, p70, S, hS, hw⟩
   refine S_val hS (.b (t := 0) rfl .nil) rfl rfl trivial (y_move rfl) (rfl) 1 rfl fun a hS => ⟨b50, b57, b73, k47, k54, k61, k66, k71, p46, p53, p60, p65, p70, S, hS, hw⟩
  ·intro l hi hp hc a w ⟨b50, b57, b73, k47, k54, k61, k66, k71, p46, p53, p60, p65, p70, S, hS, hw⟩
   have h_7 := l_neg hc 7 hi rfl
   have h_11 := l_neg hc 11 h_7 rfl
   have h_13 := l_neg hc 13 h_11 rfl
   have h_15 := l_neg hc 15 h_13 rfl
   have hw := hw.fixR 1 (r' := .box b2 [.slice p27 rv26.2.L.length k28, .int .i64 rv26.2.At] 75) rfl ((bF h_15).trans ((bF h_13).trans ((bF h_11).trans ((bF h_7).trans ((bF hi))))))
   have h_1 := hp 1 rfl
   refine S_eff rfl ?_
   have hs := hS.open_ (.v (t := 22) 1 rfl h_1 .nil)
   refine st_callR hs (made_Dice_Next_ok h44 hw.dom (hw.ins [1] (by decide) rfl) (hw.envAt 0 rfl)) (do_call Tryz.call15 rfl) trivial rfl rfl ?_
   intro v110 Sv107 w a h108 h109 hs
   obtain ⟨p46, k47, rfl, h111, h48⟩ := h109
   have hw := hw.callO [1] [0, 2, 3, 4, 5, 6] (by decide) rfl h108 h111
   have hw := hw.addE (e := SlA p46 rv45.2.L.length k47 rv45.2.L) h48
   have hw := hw.fixR 0 (r' := (bif l 15 then .box b2 [.slice p70 rv69.2.L.length k71, .int .i64 rv69.2.At] 75 else (bif l 13 then .box b2 [.slice p65 rv64.2.L.length k66, .int .i64 rv64.2.At] 75 else (bif l 11 then .box b2 [.slice p60 rv59.2.L.length k61, .int .i64 rv59.2.At] 75 else (bif l 7 then .box b2 [.slice p53 rv52.2.L.length k54, .int .i64 rv52.2.At] 75 else .box b2 [.slice p46 rv45.2.L.length k47, .int .i64 rv45.2.At] 75))))) rfl ((bF h_15).trans ((bF h_13).trans ((bF h_11).trans ((bF h_7))))).symm
   have hw := hw.opt 0 rfl true
   refine nl ?_
   exact ⟨b50, b57, b73, k47, k54, k61, k66, k71, p46, p53, p60, p65, p70, Sv107, hS.close (.v (t := 22) 1 rfl h_1 .nil) hs rfl (.same (.same (.here (.same (.same (.same (.same (.same (.same (.same (.same (.same (.same (.same (.same (.same (.same (.same .nil)))))))))))))))))) 2 rfl, hw.ft [1, 0, 2, 3, 4, 5, 6] [2, 3, 4, 5, 6, 7, 8, 0, 10, 11, 12, 13, 14, 15, 16, 17] (by decide) rfl rfl⟩
  ·intro l hi hp hc a w ⟨b50, b57, b73, k47, k54, k61, k66, k71, p46, p53, p60, p65, p70, S, hS, hw⟩
   have h_2 := hp 2 rfl
   refine S_val hS (.v (t := 23) 2 rfl h_2 .nil) rfl rfl trivial (y_mul rfl rfl) (rfl) 3 rfl fun a hS => ⟨b50, b57, b73, k47, k54, k61, k66, k71, p46, p53, p60, p65, p70, S, hS, hw⟩
  ·intro l hi hp hc a w ⟨b50, b57, b73, k47, k54, k61, k66, k71, p46, p53, p60, p65, p70, S, hS, hw⟩
   have h_3 := hp 3 rfl
   refine S_val hS (.v (t := 24) 3 rfl h_3 .nil) rfl rfl trivial (y_add rfl rfl) (rfl) 4 rfl fun a hS => ⟨b50, b57, b73, k47, k54, k61, k66, k71, p46, p53, p60, p65, p70, S, hS, hw⟩
  ·intro l hi hp hc a w ⟨b50, b57, b73, k47, k54, k61, k66, k71, p46, p53, p60, p65, p70, S, hS, hw⟩
   refine S_val hS (.b (t := 0) rfl .nil) rfl rfl trivial (y_move rfl) (rfl) 5 rfl fun a hS => ⟨b50, b57, b73, k47, k54, k61, k66, k71, p46, p53, p60, p65, p70, S, hS, hw⟩
  ·intro l hi hp hc a w ⟨b50, b57, b73, k47, k54, k61, k66, k71, p46, p53, p60, p65, p70, S, hS, hw⟩
   refine S_eff rfl ?_
   have hs := hS.open_ .nil
   refine w_litSlice (α := Int) (vs := D16t3) (cs := D16t3) (xs := D16t4) hs hw El22 rfl rfl rfl rfl rfl rfl ⟨⟨_, rfl, rfl⟩, ⟨⟨_, rfl, rfl⟩, ⟨⟨_, rfl, rfl⟩, rfl⟩⟩⟩ rfl trivial rfl fun b50 a w hs hw => ?_
   have h_7 := l_neg hc 7 hi rfl
   have hw := hw.fixR 0 (r' := (bif l 7 then emp else .row (some ⟨b50, 0, none⟩) ([0, 0, 3] : List Int).length ([0, 0, 3] : List Int).length [.int .i64 0, .int .i64 0, .int .i64 3] 3 1)) rfl ((bF h_7)).symm
   have hw := hw.opt 0 rfl true
   have hw := hw.noL h_7 (SlA (some ⟨b50, 0, none⟩) ([0, 0, 3] : List Int).length ([0, 0, 3] : List Int).length ([0, 0, 3] : List Int))
   refine nl ?_
   exact ⟨b50, b57, b73, k47, k54, k61, k66, k71, p46, p53, p60, p65, p70, S, hS.close .nil hs rfl (.same (.same (.same (.same (.same (.same (.here (.same (.same (.same (.same (.same (.same (.same (.same (.same (.same (.same .nil)))))))))))))))))) 6 rfl, hw.ft [1, 2, 3, 4, 0, 6, 7] [3, 4, 5, 6, 7, 8, 9, 10, 1, 0, 13, 14, 15, 16, 17, 18] (by decide) rfl rfl⟩
  ·intro l hi hp hc a w ⟨b50, b57, b73, k47, k54, k61, k66, k71, p46, p53, p60, p65, p70, S, hS, hw⟩
   have h_11 := l_neg hc 11 hi rfl
   have h_13 := l_neg hc 13 h_11 rfl
   have h_15 := l_neg hc 15 h_13 rfl
   have h_2 := hp 2 rfl
   have hw := hw.fixR 1 (r' := .box b2 [.slice p46 rv45.2.L.length k47, .int .i64 rv45.2.At] 75) rfl ((bF h_15).trans ((bF h_13).trans ((bF h_11).trans ((bF hi).trans ((bT h_2))))))
   have h_6 := hp 6 rfl
   have hw := hw.fixR 4 (r' := .row (some ⟨b50, 0, none⟩) ([0, 0, 3] : List Int).length ([0, 0, 3] : List Int).length [.int .i64 0, .int .i64 0, .int .i64 3] 3 1) rfl ((bF hi).trans ((bT h_6)))
   have hw := hw.yes 7 rfl h_2
   have hw := hw.yes 9 rfl h_6
   have h_5 := hp 5 rfl
   refine S_eff rfl ?_
   have hs := hS.open_ (.v (t := 26) 5 rfl h_5 (.v (t := 27) 6 rfl h_6 .nil))
   obtain ⟨Sv118, hw⟩ := w_share (α := Int) hw 4 rfl 0 rfl
   refine st_callR hs (made_Dice_Pick_ok h51 hw.dom (hw.ins [1] (by decide) rfl) (hw.envAt 2 rfl) (hw.envAt 0 rfl)) (do_call Tryz.call47 rfl) trivial rfl rfl ?_
   intro v122 Sv119 w a h120 h121 hs
   obtain ⟨p53, k54, rfl, h123, h55⟩ := h121
   have hw := hw.callO [1] [0, 2, 3, 4, 5] (by decide) rfl h120 h123
   have hw := hw.addE (e := SlA p53 rv52.2.L.length k54 rv52.2.L) h55
   have hw := hw.fixR 0 (r' := (bif l 15 then .box b2 [.slice p70 rv69.2.L.length k71, .int .i64 rv69.2.At] 75 else (bif l 13 then .box b2 [.slice p65 rv64.2.L.length k66, .int .i64 rv64.2.At] 75 else (bif l 11 then .box b2 [.slice p60 rv59.2.L.length k61, .int .i64 rv59.2.At] 75 else .box b2 [.slice p53 rv52.2.L.length k54, .int .i64 rv52.2.At] 75)))) rfl ((bF h_15).trans ((bF h_13).trans ((bF h_11)))).symm
   have hw := hw.emp
   have hw := hw.opt 1 rfl true
   have hw := hw.opt 1 rfl true
   refine nl ?_
   exact ⟨b50, b57, b73, k47, k54, k61, k66, k71, p46, p53, p60, p65, p70, Sv119, hS.close (.v (t := 26) 5 rfl h_5 (.v (t := 27) 6 rfl h_6 .nil)) hs rfl (.same (.same (.same (.same (.same (.same (.same (.here (.same (.same (.same (.same (.same (.same (.same (.same (.same (.same .nil)))))))))))))))))) 7 rfl, hw.ft [2, 1, 3, 4, 0, 5, 6] [6, 7, 8, 9, 10, 11, 12, 13, 14, 1, 0, 17, 18, 19, 20, 21] (by decide) rfl rfl⟩
  ·intro l hi hp hc a w ⟨b50, b57, b73, k47, k54, k61, k66, k71, p46, p53, p60, p65, p70, S, hS, hw⟩
   refine S_val hS (.b (t := 7) rfl .nil) rfl rfl trivial (y_loadBA (hw.ownAt 0 rfl) rfl Tryz.isAgg33 Tryz.sizeOf33 rfl rfl) (rfl) 8 rfl fun a hS => ⟨b50, b57, b73, k47, k54, k61, k66, k71, p46, p53, p60, p65, p70, S, hS, hw⟩
  ·intro l hi hp hc a w ⟨b50, b57, b73, k47, k54, k61, k66, k71, p46, p53, p60, p65, p70, S, hS, hw⟩
   refine S_val hS (.b (t := 0) rfl .nil) rfl rfl trivial (y_move rfl) (rfl) 9 rfl fun a hS => ⟨b50, b57, b73, k47, k54, k61, k66, k71, p46, p53, p60, p65, p70, S, hS, hw⟩
  ·intro l hi hp hc a w ⟨b50, b57, b73, k47, k54, k61, k66, k71, p46, p53, p60, p65, p70, S, hS, hw⟩
   refine S_eff rfl ?_
   have hs := hS.open_ .nil
   refine w_litSlice (α := Int) (vs := D16t5) (cs := D16t5) (xs := D16t6) hs hw El22 rfl rfl rfl rfl rfl rfl ⟨⟨_, rfl, rfl⟩, ⟨⟨_, rfl, rfl⟩, ⟨⟨_, rfl, rfl⟩, ⟨⟨_, rfl, rfl⟩, rfl⟩⟩⟩⟩ rfl trivial rfl fun b57 a w hs hw => ?_
   have h_11 := l_neg hc 11 hi rfl
   have hw := hw.fixR 0 (r' := (bif l 11 then emp else .row (some ⟨b57, 0, none⟩) ([0, 0, 10, 500] : List Int).length ([0, 0, 10, 500] : List Int).length [.int .i64 0, .int .i64 0, .int .i64 10, .int .i64 500] 3 1)) rfl ((bF h_11)).symm
   have hw := hw.opt 0 rfl true
   have hw := hw.noL h_11 (SlA (some ⟨b57, 0, none⟩) ([0, 0, 10, 500] : List Int).length ([0, 0, 10, 500] : List Int).length ([0, 0, 10, 500] : List Int))
   refine nl ?_
   exact ⟨b50, b57, b73, k47, k54, k61, k66, k71, p46, p53, p60, p65, p70, S, hS.close .nil hs rfl (.same (.same (.same (.same (.same (.same (.same (.same (.same (.same (.here (.same (.same (.same (.same (.same (.same (.same .nil)))))))))))))))))) 10 rfl, hw.ft [1, 2, 3, 4, 5, 0, 7] [3, 4, 5, 6, 7, 8, 9, 10, 11, 12, 13, 1, 0, 16, 17, 18] (by decide) rfl rfl⟩
  ·intro l hi hp hc a w ⟨b50, b57, b73, k47, k54, k61, k66, k71, p46, p53, p60, p65, p70, S, hS, hw⟩
   have h_13 := l_neg hc 13 hi rfl
   have h_15 := l_neg hc 15 h_13 rfl
   have h_7 := hp 7 rfl
   have hw := hw.fixR 1 (r' := .box b2 [.slice p53 rv52.2.L.length k54, .int .i64 rv52.2.At] 75) rfl ((bF h_15).trans ((bF h_13).trans ((bF hi).trans ((bT h_7)))))
   have h_10 := hp 10 rfl
   have hw := hw.fixR 5 (r' := .row (some ⟨b57, 0, none⟩) ([0, 0, 10, 500] : List Int).length ([0, 0, 10, 500] : List Int).length [.int .i64 0, .int .i64 0, .int .i64 10, .int .i64 500] 3 1) rfl ((bF hi).trans ((bT h_10)))
   have hw := hw.yes 10 rfl h_7
   have hw := hw.yes 12 rfl h_10
   have h_9 := hp 9 rfl
   refine S_eff rfl ?_
   have hs := hS.open_ (.v (t := 30) 9 rfl h_9 (.v (t := 31) 10 rfl h_10 .nil))
   obtain ⟨Sv130, hw⟩ := w_share (α := Int) hw 5 rfl 0 rfl
   refine st_callR hs (made_Dice_Pick_ok h58 hw.dom (hw.ins [1] (by decide) rfl) (hw.envAt 2 rfl) (hw.envAt 0 rfl)) (do_call Tryz.call47 rfl) trivial rfl rfl ?_
   intro v134 Sv131 w a h132 h133 hs
   obtain ⟨p60, k61, rfl, h135, h62⟩ := h133
   have hw := hw.callO [1] [0, 2, 3, 4, 5] (by decide) rfl h132 h135
   have hw := hw.addE (e := SlA p60 rv59.2.L.length k61 rv59.2.L) h62
   have hw := hw.fixR 0 (r' := (bif l 15 then .box b2 [.slice p70 rv69.2.L.length k71, .int .i64 rv69.2.At] 75 else (bif l 13 then .box b2 [.slice p65 rv64.2.L.length k66, .int .i64 rv64.2.At] 75 else .box b2 [.slice p60 rv59.2.L.length k61, .int .i64 rv59.2.At] 75))) rfl ((bF h_15).trans ((bF h_13))).symm
   have hw := hw.emp
   have hw := hw.opt 1 rfl true
   have hw := hw.opt 1 rfl true
   refine nl ?_
   exact ⟨b50, b57, b73, k47, k54, k61, k66, k71, p46, p53, p60, p65, p70, Sv131, hS.close (.v (t := 30) 9 rfl h_9 (.v (t := 31) 10 rfl h_10 .nil)) hs rfl (.same (.same (.same (.same (.same (.same (.same (.same (.same (.same (.same (.here (.same (.same (.same (.same (.same (.same .nil)))))))))))))))))) 11 rfl, hw.ft [2, 1, 3, 4, 5, 0, 6] [6, 7, 8, 9, 10, 11, 12, 13, 14, 15, 16, 17, 1, 0, 20, 21] (by decide) rfl rfl⟩
  ·intro l hi hp hc a w ⟨b50, b57, b73, k47, k54, k61, k66, k71, p46, p53, p60, p65, p70, S, hS, hw⟩
   refine S_val hS (.b (t := 0) rfl .nil) rfl rfl trivial (y_move rfl) (rfl) 12 rfl fun a hS => ⟨b50, b57, b73, k47, k54, k61, k66, k71, p46, p53, p60, p65, p70, S, hS, hw⟩
  ·intro l hi hp hc a w ⟨b50, b57, b73, k47, k54, k61, k66, k71, p46, p53, p60, p65, p70, S, hS, hw⟩
   have h_15 := l_neg hc 15 hi rfl
   have h_11 := hp 11 rfl
   have hw := hw.fixR 1 (r' := .box b2 [.slice p60 rv59.2.L.length k61, .int .i64 rv59.2.At] 75) rfl ((bF h_15).trans ((bF hi).trans ((bT h_11))))
   have hw := hw.yes 13 rfl h_11
   have h_12 := hp 12 rfl
   refine S_eff rfl ?_
   have hs := hS.open_ (.v (t := 33) 12 rfl h_12 .nil)
   refine st_callR hs (made_Dice_Next_ok h63 hw.dom (hw.ins [1] (by decide) rfl) (hw.envAt 0 rfl)) (do_call Tryz.call15 rfl) trivial rfl rfl ?_
   intro v144 Sv141 w a h142 h143 hs
   obtain ⟨p65, k66, rfl, h145, h67⟩ := h143
   have hw := hw.callO [1] [0, 2, 3, 4, 5, 6] (by decide) rfl h142 h145
   have hw := hw.addE (e := SlA p65 rv64.2.L.length k66 rv64.2.L) h67
   have hw := hw.fixR 0 (r' := (bif l 15 then .box b2 [.slice p70 rv69.2.L.length k71, .int .i64 rv69.2.At] 75 else .box b2 [.slice p65 rv64.2.L.length k66, .int .i64 rv64.2.At] 75)) rfl ((bF h_15)).symm
   have hw := hw.opt 0 rfl true
   refine nl ?_
   exact ⟨b50, b57, b73, k47, k54, k61, k66, k71, p46, p53, p60, p65, p70, Sv141, hS.close (.v (t := 33) 12 rfl h_12 .nil) hs rfl (.same (.same (.same (.same (.same (.same (.same (.same (.same (.same (.same (.same (.same (.here (.same (.same (.same (.same .nil)))))))))))))))))) 13 rfl, hw.ft [1, 0, 2, 3, 4, 5, 6] [3, 4, 5, 6, 7, 8, 9, 10, 11, 12, 13, 14, 15, 16, 0, 18] (by decide) rfl rfl⟩
  ·intro l hi hp hc a w ⟨b50, b57, b73, k47, k54, k61, k66, k71, p46, p53, p60, p65, p70, S, hS, hw⟩
   refine S_val hS (.b (t := 0) rfl .nil) rfl rfl trivial (y_move rfl) (rfl) 14 rfl fun a hS => ⟨b50, b57, b73, k47, k54, k61, k66, k71, p46, p53, p60, p65, p70, S, hS, hw⟩
  ·intro l hi hp hc a w ⟨b50, b57, b73, k47, k54, k61, k66, k71, p46, p53, p60, p65, p70, S, hS, hw⟩
   have h_13 := hp 13 rfl
   have hw := hw.fixR 1 (r' := .box b2 [.slice p65 rv64.2.L.length k66, .int .i64 rv64.2.At] 75) rfl ((bF hi).trans ((bT h_13)))
   have hw := hw.yes 14 rfl h_13
   have h_14 := hp 14 rfl
   refine S_eff rfl ?_
   have hs := hS.open_ (.v (t := 35) 14 rfl h_14 .nil)
   refine st_callR hs (made_Dice_Next_ok h68 hw.dom (hw.ins [1] (by decide) rfl) (hw.envAt 0 rfl)) (do_call Tryz.call15 rfl) trivial rfl rfl ?_
   intro v154 Sv151 w a h152 h153 hs
   obtain ⟨p70, k71, rfl, h155, h72⟩ := h153
   have hw := hw.callO [1] [0, 2, 3, 4, 5, 6] (by decide) rfl h152 h155
   have hw := hw.addE (e := SlA p70 rv69.2.L.length k71 rv69.2.L) h72
   have hw := hw.opt 0 rfl true
   refine nl ?_
   exact ⟨b50, b57, b73, k47, k54, k61, k66, k71, p46, p53, p60, p65, p70, Sv151, hS.close (.v (t := 35) 14 rfl h_14 .nil) hs rfl (.same (.same (.same (.same (.same (.same (.same (.same (.same (.same (.same (.same (.same (.same (.same (.here (.same (.same .nil)))))))))))))))))) 15 rfl, hw.ft [1, 0, 2, 3, 4, 5, 6] [3, 4, 5, 6, 7, 8, 9, 10, 11, 12, 13, 14, 15, 16, 17, 0] (by decide) rfl rfl⟩
  ·intro l hi hp hc a w ⟨b50, b57, b73, k47, k54, k61, k66, k71, p46, p53, p60, p65, p70, S, hS, hw⟩
   have h_15 := hp 15 rfl
   have h_13 := hp 13 rfl
   have h_11 := hp 11 rfl
   have h_8 := hp 8 rfl
   have h_7 := hp 7 rfl
   have h_4 := hp 4 rfl
   have h_0 := hp 0 rfl
   refine S_val hS (.v (t := 21) 0 rfl h_0 (.v (t := 25) 4 rfl h_4 (.v (t := 28) 7 rfl h_7 (.v (t := 29) 8 rfl h_8 (.v (t := 32) 11 rfl h_11 (.v (t := 34) 13 rfl h_13 (.v (t := 36) 15 rfl h_15 .nil))))))) rfl rfl trivial (y_build (vs := [(0, .agg #[.string s6.Network, .string s6.Station, .string s6.Location, .string s6.Channel]), (1, .int .i64 (w64 (1000000000000 + (w64 (250000 * rv45.1))))), (2, .int .i64 rv52.1), (3, .agg #[.int .i64 rv37.1.Num, .int .i64 rv37.1.Den]), (4, .int .i64 rv59.1), (5, .int .i64 rv64.1), (6, .int .i64 rv69.1)]) Bld35 rfl rfl) (rfl) 16 rfl fun a hS => ⟨b50, b57, b73, k47, k54, k61, k66, k71, p46, p53, p60, p65, p70, S, hS, hw⟩
  ·intro l hi hp hc a w ⟨b50, b57, b73, k47, k54, k61, k66, k71, p46, p53, p60, p65, p70, S, hS, hw⟩
   refine S_eff rfl ?_
   have hs := hS.open_ .nil
   refine w_alloc (cs := [.string ByteArray.empty, .string ByteArray.empty, .string ByteArray.empty, .string ByteArray.empty, .int .i64 0, .int .i64 0, .int .i64 0, .int .i64 0, .int .i64 0, .int .i64 0, .int .i64 0, .slice none ([] : List Int).length 0]) hs hw Tryz.zeroValue35 rfl rfl trivial ?_
   intro b73 a w hs hw
   have h_18 := l_neg hc 18 hi rfl
   have hw := hw.fixR 0 (r' := (bif l 18 then .box b73 [.string s6.Network, .string s6.Station, .string s6.Location, .string s6.Channel, .int .i64 (w64 (1000000000000 + (w64 (250000 * rv45.1)))), .int .i64 rv52.1, .int .i64 rv37.1.Num, .int .i64 rv37.1.Den, .int .i64 rv59.1, .int .i64 rv64.1, .int .i64 rv69.1, .slice none ([] : List Int).length 0] 35 else .box b73 [.string ByteArray.empty, .string ByteArray.empty, .string ByteArray.empty, .string ByteArray.empty, .int .i64 0, .int .i64 0, .int .i64 0, .int .i64 0, .int .i64 0, .int .i64 0, .int .i64 0, .slice none ([] : List Int).length 0] 35)) rfl ((bF h_18)).symm
   refine nl ?_
   exact ⟨b50, b57, b73, k47, k54, k61, k66, k71, p46, p53, p60, p65, p70, S, hS.close .nil hs rfl (.same (.same (.same (.same (.same (.same (.same (.same (.same (.same (.same (.same (.same (.same (.same (.same (.same (.here .nil)))))))))))))))))) 17 rfl, hw.ft [1, 2, 3, 4, 5, 6, 0] [0, 1, 2, 3, 4, 5, 6, 7, 8, 9, 10, 11, 12, 13, 14, 15] (by decide) rfl rfl⟩
  ·intro l hi hp hc a w ⟨b50, b57, b73, k47, k54, k61, k66, k71, p46, p53, p60, p65, p70, S, hS, hw⟩
   have h_17 := hp 17 rfl
   have hw := hw.fixR 6 (r' := .box b73 [.string ByteArray.empty, .string ByteArray.empty, .string ByteArray.empty, .string ByteArray.empty, .int .i64 0, .int .i64 0, .int .i64 0, .int .i64 0, .int .i64 0, .int .i64 0, .int .i64 0, .slice none ([] : List Int).length 0] 35) rfl ((bF hi).trans ((bT h_17)))
   have h_16 := hp 16 rfl
   refine S_eff rfl ?_
   have hs := hS.open_ (.v (t := 9) 17 rfl h_17 (.v (t := 37) 16 rfl h_16 .nil))
   refine w_store (m := 12) (cs' := [.string s6.Network, .string s6.Station, .string s6.Location, .string s6.Channel, .int .i64 (w64 (1000000000000 + (w64 (250000 * rv45.1)))), .int .i64 rv52.1, .int .i64 rv37.1.Num, .int .i64 rv37.1.Den, .int .i64 rv59.1, .int .i64 rv64.1, .int .i64 rv69.1, .slice none ([] : List Int).length 0]) hs hw 6 rfl rfl rfl Tryz.sizeOf35 rfl rfl rfl rfl trivial ?_
   intro a w hs hw
   refine nl ?_
   exact ⟨b50, b57, b73, k47, k54, k61, k66, k71, p46, p53, p60, p65, p70, S, hS.close0 (.v (t := 9) 17 rfl h_17 (.v (t := 37) 16 rfl h_16 .nil)) hs rfl, hw.ft [0, 1, 2, 3, 4, 5, 6] [0, 1, 2, 3, 4, 5, 6, 7, 8, 9, 10, 11, 12, 13, 14, 15] (by decide) rfl rfl⟩
  intro l a w hl ⟨b50, b57, b73, k47, k54, k61, k66, k71, p46, p53, p60, p65, p70, S, hS, hw⟩
  have hw := hw.yes 15 rfl (hl 15 (by decide))
  have hw := hw.fixR 1 (r' := .box b2 [.slice p70 rv69.2.L.length k71, .int .i64 rv69.2.At] 75) rfl (bT (hl 15 (by decide)))
  have hw := hw.fixR 6 (r' := .box b73 [.string s6.Network, .string s6.Station, .string s6.Location, .string s6.Channel, .int .i64 (w64 (1000000000000 + (w64 (250000 * rv45.1)))), .int .i64 rv52.1, .int .i64 rv37.1.Num, .int .i64 rv37.1.Den, .int .i64 rv59.1, .int .i64 rv64.1, .int .i64 rv69.1, .slice none ([] : List Int).length 0] 35) rfl (bT (hl 18 (by decide)))
  have hs := hS.on (.b (t := 0) rfl (.b (t := 2) rfl (.b (t := 6) rfl (.v (t := 9) 17 rfl (hl 17 (by decide)) .nil))))
  have hw := hw.addE (e := SlA (α := Int) none 0 0 []) nil_sl
  exact ⟨S, b73, k71, p70, (hs.wk rfl), (hw.ft [1, 2, 6] [1, 0] (by decide) rfl rfl)⟩
 rintro a w ⟨Sv74, b73, k71, p70, hs, hw⟩
 refine then_normal ?_
 refine wp_seq ?_
 refine sr ?_
 refine mv hs rfl rfl fun a hs => ?_
 refine mv hs rfl rfl fun a hs => ?_
 obtain ⟨rv157, h156, hsh⟩ := bind_t hsh
 refine st_callR hs (made_Dice_Next_ok h156 hw.dom (hw.ins [0] (by decide) rfl) (hw.envAt 0 rfl)) (do_call Tryz.call15 rfl) trivial rfl rfl ?_
 intro v164 Sv161 w a h162 h163 hs
 obtain ⟨p158, k159, rfl, h165, h160⟩ := h163
 have hw := hw.callO [0] [1, 2] (by decide) rfl h162 h165
 have hw := hw.addE (e := SlA p158 rv157.2.L.length k159 rv157.2.L) h160
 refine sv hs (y_add rfl rfl) rfl fun a hs => ?_
 obtain ⟨i167, h166, hsh⟩ := bind_t hsh
 refine sv hs (y_assignI rfl h166) rfl fun a hs => ?_
 refine nl ?_
 obtain ⟨e232, h280, hsh⟩ := bind_t hsh
 refine wp_join (fun a w => ∃ (p233 : Option Addr) (k234 : Nat) (c235 : List Value) (p236 : Option Addr) (k237 : Nat) (Sv238 : Nat → Prop), Sl 54 [(6, .pointer (some ⟨b9, 0, none⟩)), (9, .pointer (some ⟨b73, 0, none⟩))] a ∧ Wd ⟨w0, S0, blks [.box b2 [.slice p3 d1.L.length k4, .int .i64 d1.At] 75]⟩ Sv238 [.box b2 [.slice p233 e232.1.length k234, .int .i64 e232.2.1] 75, .box b9 [.string ByteArray.empty, .string ByteArray.empty, .string ByteArray.empty, .string ByteArray.empty, .int .i64 0, .int .i64 0, .int .i64 0, .int .i64 0, .int .i64 0, .int .i64 0, .int .i64 0, .slice none ([] : List Int).length 0] 35, .box b73 [.string s6.Network, .string s6.Station, .string s6.Location, .string s6.Channel, .int .i64 (w64 (1000000000000 + (w64 (250000 * rv45.1)))), .int .i64 rv52.1, .int .i64 rv37.1.Num, .int .i64 rv37.1.Den, .int .i64 rv59.1, .int .i64 rv64.1, .int .i64 rv69.1, .slice p236 e232.2.2.length k237] 35, .row p236 e232.2.2.length k237 c235 3 1] [SlA p233 e232.1.length k234 e232.1, SlA none ([] : List Int).length 0 ([] : List Int), RowA c235 e232.2.2] w) ?_ ?_
 ·refine wp_block ?_
  have hw := hw.nilRow Int 3
  refine wp_while (fun sv168 a w => ∃ (p207 : Option Addr) (k208 : Nat) (c209 : List Value) (p210 : Option Addr) (k211 : Nat) (Sv212 : Nat → Prop), Sl 54 [(0, .pointer (some ⟨b2, 0, none⟩)), (6, .pointer (some ⟨b9, 0, none⟩)), (9, .pointer (some ⟨b73, 0, none⟩)), (10, .int .i64 sv168.2.2.2)] a ∧ Wd ⟨w0, S0, blks [.box b2 [.slice p3 d1.L.length k4, .int .i64 d1.At] 75]⟩ Sv212 [.box b2 [.slice p207 sv168.1.length k208, .int .i64 sv168.2.1] 75, .box b9 [.string ByteArray.empty, .string ByteArray.empty, .string ByteArray.empty, .string ByteArray.empty, .int .i64 0, .int .i64 0, .int .i64 0, .int .i64 0, .int .i64 0, .int .i64 0, .int .i64 0, .slice none ([] : List Int).length 0] 35, .box b73 [.string s6.Network, .string s6.Station, .string s6.Location, .string s6.Channel, .int .i64 (w64 (1000000000000 + (w64 (250000 * rv45.1)))), .int .i64 rv52.1, .int .i64 rv37.1.Num, .int .i64 rv37.1.Den, .int .i64 rv59.1, .int .i64 rv64.1, .int .i64 rv69.1, .slice p210 sv168.2.2.1.length k211] 35, .row p210 sv168.2.2.1.length k211 c209 3 1] [SlA p207 sv168.1.length k208 sv168.1, SlA none ([] : List Int).length 0 ([] : List Int), RowA c209 sv168.2.2.1] w) (rv157.2.L, rv157.2.At, ([] : List Int), i167) h280 ⟨p158, k159, [], none, 0, Sv161, (hs.wk rfl), (hw.ft [1, 2, 3, 0] [1, 3, 0] (by decide) rfl rfl)⟩ ?_
  clear h280
  repeat clear hsh
  rintro sv168 a w tv230 ⟨p207, k208, c209, p210, k211, Sv212, hs, hw⟩ hsh hd229
  delta made_Dice_Record_l1 at hsh
  refine wp_seq ?_
  refine sr ?_
  refine mv hs rfl rfl fun a hs => ?_
  refine sv hs (y_gtr rfl rfl) rfl fun a hs => ?_
  refine nl ?_
  refine wp_cond_split (hs.ev rfl) (fun h240 => ?_) (fun h240 => ?_)
  ·have hsh := ite_t hsh h240
   refine wp_skip ?_
   refine then_normal ?_
   refine wp_seq ?_
   refine wp_block ?_
   obtain ⟨rv255, h254, hsh⟩ := bind_t hsh
   obtain ⟨l262, h261, hsh⟩ := bind_t hsh
   refine wp_only (fun a w => ∃ (Sv266 : Nat → Prop) (c265 : List Value) (k257 : Nat) (k264 : Nat) (p256 : Option Addr) (p263 : Option Addr), Sl 54 [(0, .pointer (some ⟨b2, 0, none⟩)), (6, .pointer (some ⟨b9, 0, none⟩)), (9, .pointer (some ⟨b73, 0, none⟩)), (10, .int .i64 sv168.2.2.2)] a ∧ Wd ⟨w0, S0, blks [.box b2 [.slice p3 d1.L.length k4, .int .i64 d1.At] 75]⟩ Sv266 [.box b2 [.slice p256 rv255.2.L.length k257, .int .i64 rv255.2.At] 75, .box b9 [.string ByteArray.empty, .string ByteArray.empty, .string ByteArray.empty, .string ByteArray.empty, .int .i64 0, .int .i64 0, .int .i64 0, .int .i64 0, .int .i64 0, .int .i64 0, .int .i64 0, .slice none ([] : List Int).length 0] 35, .box b73 [.string s6.Network, .string s6.Station, .string s6.Location, .string s6.Channel, .int .i64 (w64 (1000000000000 + (w64 (250000 * rv45.1)))), .int .i64 rv52.1, .int .i64 rv37.1.Num, .int .i64 rv37.1.Den, .int .i64 rv59.1, .int .i64 rv64.1, .int .i64 rv69.1, .slice p263 l262.length k264] 35, .row p263 l262.length k264 c265 3 1] [SlA p256 rv255.2.L.length k257 rv255.2.L, SlA none ([] : List Int).length 0 ([] : List Int), RowA c265 l262] w) ?_ ?_
   ·refine h_b (C := Cls [.box b9 [.string ByteArray.empty, .string ByteArray.empty, .string ByteArray.empty, .string ByteArray.empty, .int .i64 0, .int .i64 0, .int .i64 0, .int .i64 0, .int .i64 0, .int .i64 0, .int .i64 0, .slice none ([] : List Int).length 0] 35] []) (by kernel_rfl) rfl (hw.drew.cs [1] [] rfl rfl) fun hC => ?_
    have hw := hw.drew
    refine gv hs 0 rfl rfl hC (fun w hC => y_fieldAddr (o' := 11) Tryz.runUnderlying35 rfl Tryz.sizeOf22 rfl rfl rfl) fun a hs => ?_
    refine gm hs 2 rfl rfl rfl hC fun a hs => ?_
    refine h_all (rs := [1, 3]) (by kernel_rfl) rfl ?_
    refine AllH.cons rfl ?_ ?_
    ·refine sv hs (y_loadB1 (hw.ownAt 2 rfl) rfl Tryz.isAgg22 rfl) rfl fun a hs => ?_
     refine h_nx (hw.cs [1] [] rfl rfl) fun hC => ?_
     refine ho 3 rfl ?_
     refine st_callR hs (made_Dice_Next_ok h254 hw.dom (hw.ins [0] (by decide) rfl) (hw.envAt 0 rfl)) (do_call Tryz.call15 rfl) trivial rfl rfl ?_
     intro v270 Sv267 w a h268 h269 hs
     obtain ⟨p256, k257, rfl, h271, h258⟩ := h269
     have hw := hw.callO [0] [1, 2, 3] (by decide) rfl h268 h271
     have hw := hw.addE (e := SlA p256 rv255.2.L.length k257 rv255.2.L) h258
     refine h_nx (hw.cs [1] [] rfl rfl) fun hC => ?_
     refine ho 4 rfl ?_
     refine w_litSlice (α := Int) (vs := [.int .i64 rv255.1]) (cs := [.int .i64 rv255.1]) (xs := ([rv255.1] : List Int)) hs hw El22 rfl rfl rfl rfl rfl rfl ⟨⟨_, rfl, rfl⟩, rfl⟩ rfl trivial rfl fun b260 a w hs hw => ?_
     refine h_nx (hw.cs [2] [] rfl rfl) fun hC => ?_
     refine h_st (C' := Cls [.box b9 [.string ByteArray.empty, .string ByteArray.empty, .string ByteArray.empty, .string ByteArray.empty, .int .i64 0, .int .i64 0, .int .i64 0, .int .i64 0, .int .i64 0, .int .i64 0, .int .i64 0, .slice none ([] : List Int).length 0] 35, .row (some ⟨b260, 0, none⟩) ([rv255.1] : List Int).length ([rv255.1] : List Int).length [.int .i64 rv255.1] 3 1] []) (fun _ h => by exact h.sub [0] (Sel.of rfl) (AllIn.of [] rfl)) (hw.cs [2, 0] [] rfl rfl) fun hC => ?_
     refine ho 5 rfl ?_
     refine w_appendR (α := Int) hs hw El22 4 rfl rfl rfl 4 rfl 0 rfl 0 rfl h261 rfl trivial ?_
     intro p263 k264 c265 a w hs hw
     refine h_nx (hw.cs [2, 0] [] rfl rfl) fun hC => ?_
     refine gv hs 6 rfl rfl hC (fun w hC => y_fieldAddr (o' := 11) Tryz.runUnderlying35 rfl Tryz.sizeOf22 rfl rfl rfl) fun a hs => ?_
     refine ho 7 rfl ?_
     refine w_store (m := 1) (cs' := [.string s6.Network, .string s6.Station, .string s6.Location, .string s6.Channel, .int .i64 (w64 (1000000000000 + (w64 (250000 * rv45.1)))), .int .i64 rv52.1, .int .i64 rv37.1.Num, .int .i64 rv37.1.Den, .int .i64 rv59.1, .int .i64 rv64.1, .int .i64 rv69.1, .slice p263 l262.length k264]) hs hw 3 rfl rfl rfl Tryz.sizeOf22 rfl rfl rfl rfl trivial ?_
     intro a w hs hw
     refine h_nx (hw.cs [2, 0] [] rfl rfl) fun hC => ?_
     refine h_done (by kernel_rfl) ?_
     exact ⟨Sv267, c265, k257, k264, p256, p263, (hs.wk rfl), (hw.ft [1, 2, 3, 4] [2, 4, 0] (by decide) rfl rfl)⟩
    refine AllH.cons rfl ?_ ?_
    ·refine st_callR hs (made_Dice_Next_ok h254 hw.dom (hw.ins [0] (by decide) rfl) (hw.envAt 0 rfl)) (do_call Tryz.call15 rfl) trivial rfl rfl ?_
     intro v275 Sv272 w a h273 h274 hs
     obtain ⟨p256, k257, rfl, h276, h258⟩ := h274
     have hw := hw.callO [0] [1, 2, 3] (by decide) rfl h273 h276
     have hw := hw.addE (e := SlA p256 rv255.2.L.length k257 rv255.2.L) h258
     refine h_nx (hw.cs [1] [] rfl rfl) fun hC => ?_
     refine h_all (rs := [1, 4]) (by kernel_rfl) rfl ?_
     refine AllH.cons rfl ?_ ?_
     ·refine sv hs (y_loadB1 (hw.ownAt 2 rfl) rfl Tryz.isAgg22 rfl) rfl fun a hs => ?_
      refine h_nx (hw.cs [1] [] rfl rfl) fun hC => ?_
      refine ho 4 rfl ?_
      refine w_litSlice (α := Int) (vs := [.int .i64 rv255.1]) (cs := [.int .i64 rv255.1]) (xs := ([rv255.1] : List Int)) hs hw El22 rfl rfl rfl rfl rfl rfl ⟨⟨_, rfl, rfl⟩, rfl⟩ rfl trivial rfl fun b260 a w hs hw => ?_
      refine h_nx (hw.cs [2] [] rfl rfl) fun hC => ?_
      refine h_st (C' := Cls [.box b9 [.string ByteArray.empty, .string ByteArray.empty, .string ByteArray.empty, .string ByteArray.empty, .int .i64 0, .int .i64 0, .int .i64 0, .int .i64 0, .int .i64 0, .int .i64 0, .int .i64 0, .slice none ([] : List Int).length 0] 35, .row (some ⟨b260, 0, none⟩) ([rv255.1] : List Int).length ([rv255.1] : List Int).length [.int .i64 rv255.1] 3 1] []) (fun _ h => by exact h.sub [0] (Sel.of rfl) (AllIn.of [] rfl)) (hw.cs [2, 0] [] rfl rfl) fun hC => ?_
      refine ho 5 rfl ?_
      refine w_appendR (α := Int) hs hw El22 4 rfl rfl rfl 4 rfl 0 rfl 0 rfl h261 rfl trivial ?_
      intro p263 k264 c265 a w hs hw
      refine h_nx (hw.cs [2, 0] [] rfl rfl) fun hC => ?_
      refine gv hs 6 rfl rfl hC (fun w hC => y_fieldAddr (o' := 11) Tryz.runUnderlying35 rfl Tryz.sizeOf22 rfl rfl rfl) fun a hs => ?_
      refine ho 7 rfl ?_
      refine w_store (m := 1) (cs' := [.string s6.Network, .string s6.Station, .string s6.Location, .string s6.Channel, .int .i64 (w64 (1000000000000 + (w64 (250000 * rv45.1)))), .int .i64 rv52.1, .int .i64 rv37.1.Num, .int .i64 rv37.1.Den, .int .i64 rv59.1, .int .i64 rv64.1, .int .i64 rv69.1, .slice p263 l262.length k264]) hs hw 3 rfl rfl rfl Tryz.sizeOf22 rfl rfl rfl rfl trivial ?_
      intro a w hs hw
      refine h_nx (hw.cs [2, 0] [] rfl rfl) fun hC => ?_
      refine h_done (by kernel_rfl) ?_
      exact ⟨Sv272, c265, k257, k264, p256, p263, (hs.wk rfl), (hw.ft [1, 2, 3, 4] [2, 4, 0] (by decide) rfl rfl)⟩
     refine AllH.cons rfl ?_ ?_
     ·refine w_litSlice (α := Int) (vs := [.int .i64 rv255.1]) (cs := [.int .i64 rv255.1]) (xs := ([rv255.1] : List Int)) hs hw El22 rfl rfl rfl rfl rfl rfl ⟨⟨_, rfl, rfl⟩, rfl⟩ rfl trivial rfl fun b260 a w hs hw => ?_
      refine h_nx (hw.cs [2] [] rfl rfl) fun hC => ?_
      refine h_st (C' := Cls [.box b9 [.string ByteArray.empty, .string ByteArray.empty, .string ByteArray.empty, .string ByteArray.empty, .int .i64 0, .int .i64 0, .int .i64 0, .int .i64 0, .int .i64 0, .int .i64 0, .int .i64 0, .slice none ([] : List Int).length 0] 35, .row (some ⟨b260, 0, none⟩) ([rv255.1] : List Int).length ([rv255.1] : List Int).length [.int .i64 rv255.1] 3 1] []) (fun _ h => by exact h.sub [0] (Sel.of rfl) (AllIn.of [] rfl)) (hw.cs [2, 0] [] rfl rfl) fun hC => ?_
      refine ho 1 rfl ?_
      refine sv hs (y_loadB1 (hw.ownAt 3 rfl) rfl Tryz.isAgg22 rfl) rfl fun a hs => ?_
      refine h_nx (hw.cs [2, 0] [] rfl rfl) fun hC => ?_
      refine ho 5 rfl ?_
      refine w_appendR (α := Int) hs hw El22 4 rfl rfl rfl 4 rfl 0 rfl 0 rfl h261 rfl trivial ?_
      intro p263 k264 c265 a w hs hw
      refine h_nx (hw.cs [2, 0] [] rfl rfl) fun hC => ?_
      refine gv hs 6 rfl rfl hC (fun w hC => y_fieldAddr (o' := 11) Tryz.runUnderlying35 rfl Tryz.sizeOf22 rfl rfl rfl) fun a hs => ?_
      refine ho 7 rfl ?_
      refine w_store (m := 1) (cs' := [.string s6.Network, .string s6.Station, .string s6.Location, .string s6.Channel, .int .i64 (w64 (1000000000000 + (w64 (250000 * rv45.1)))), .int .i64 rv52.1, .int .i64 rv37.1.Num, .int .i64 rv37.1.Den, .int .i64 rv59.1, .int .i64 rv64.1, .int .i64 rv69.1, .slice p263 l262.length k264]) hs hw 3 rfl rfl rfl Tryz.sizeOf22 rfl rfl rfl rfl trivial ?_
      intro a w hs hw
      refine h_nx (hw.cs [2, 0] [] rfl rfl) fun hC => ?_
      refine h_done (by kernel_rfl) ?_
      exact ⟨Sv272, c265, k257, k264, p256, p263, (hs.wk rfl), (hw.ft [1, 2, 3, 4] [2, 4, 0] (by decide) rfl rfl)⟩
     exact AllH.nil
    exact AllH.nil
   rintro a w ⟨Sv266, c265, k257, k264, p256, p263, hs, hw⟩
   refine blk_normal ?_
   refine then_normal ?_
   refine wp_region_lit ?_
   refine mv hs rfl rfl fun a hs => ?_
   refine sv hs (y_sub rfl rfl) rfl fun a hs => ?_
   obtain ⟨i278, h277, hsh⟩ := bind_t hsh
   refine sv hs (y_assignI rfl h277) rfl fun a hs => ?_
   refine nl ?_
   exact ⟨_, (Option.some.inj hsh).symm, p256, k257, c265, p263, k264, Sv266, (hs.wk rfl), (hw.ft [0, 1, 2, 3] [0, 1, 2] (by decide) rfl rfl)⟩
  have hsh := ite_f hsh h240
  refine wp_exit ?_
  refine then_exit ?_
  refine then_exit ?_
  refine blk_exit ?_
  have hsh := oi hsh
  subst hsh
  have h279 := hd229 _ rfl
  subst h279
  refine then_normal ?_
  exact ⟨p207, k208, c209, p210, k211, Sv212, (hs.wk rfl), (hw.ft [0, 1, 2, 3] [0, 1, 2] (by decide) rfl rfl)⟩
 rintro a w ⟨p233, k234, c235, p236, k237, Sv238, hs, hw⟩
 refine then_normal ?_
 refine sr ?_
 refine sv hs (y_loadBA (hw.ownAt 2 rfl) rfl Tryz.isAgg35 Tryz.sizeOf35 rfl rfl) rfl fun a hs => ?_
 refine w_store (m := 12) (cs' := [.string s6.Network, .string s6.Station, .string s6.Location, .string s6.Channel, .int .i64 (w64 (1000000000000 + (w64 (250000 * rv45.1)))), .int .i64 rv52.1, .int .i64 rv37.1.Num, .int .i64 rv37.1.Den, .int .i64 rv59.1, .int .i64 rv64.1, .int .i64 rv69.1, .slice p236 e232.2.2.length k237]) hs hw 1 rfl rfl rfl Tryz.sizeOf35 rfl rfl rfl rfl trivial ?_
 intro a w hs hw
 refine nl ?_
 have hsh := oi hsh
 subst hsh
 refine wp_ret ?_
 exact ret1 hs rfl (rv_cell hw 1 rfl rfl Tryz.isAgg35 Tryz.sizeOf35 rfl) (hw.ret ⟨p236, k237, c235, p233, k234, rfl, (hw.outs [3, 0] (by decide) rfl), (hw.envAt 2 rfl), (hw.envAt 0 rfl)⟩)

abbrev made_Dice_Records_rd (w0 : World) (X : List Nat) (b2 : Nat) (r : ((List Record) × Dice)) : (Nat → Prop) → World → Value → Prop := fun S w v => ∃ (p0_0 : Option Addr) (k0_0 : Nat) (c0_0 : List Value) (pq0_0 : Option Addr) (kq0_0 : Nat), v = .slice p0_0 r.1.length k0_0 ∧ Outs X w0 S w [.row p0_0 r.1.length k0_0 c0_0 35 12, .box b2 [.slice pq0_0 r.2.L.length kq0_0, .int .i64 r.2.At] 75] ∧ (RowA c0_0 r.1).p S w ∧ (SlA pq0_0 r.2.L.length kq0_0 r.2.L).p S w
set_option maxHeartbeats 4000000 in
set_option maxRecDepth 100000 in
theorem made_Dice_Records_ok {w0 : World} {S0 : Nat → Prop} {b2 : Nat} {p3 : Option Addr} {k4 : Nat} {d1 : Dice} {n6 : Int} {r : ((List Record) × Dice)} (hsh : made_Dice_Records d1 n6 = some r) (hS : ∀ b, S0 b → b < w0.heap.size) (hin : Ins S0 w0 [.box b2 [.slice p3 d1.L.length k4, .int .i64 d1.At] 75]) (h5 : (SlA p3 d1.L.length k4 d1.L).p S0 w0) : Calls Tryz.prog 14 #[.pointer (some ⟨b2, 0, none⟩), .int .i64 n6] w0 (Ret (blks [.box b2 [.slice p3 d1.L.length k4, .int .i64 d1.At] 75]) w0 S0 (made_Dice_Records_rd w0 (blks [.box b2 [.slice p3 d1.L.length k4, .int .i64 d1.At] 75]) b2 r)) := by
 refine calls_of_wp Tryz.func14 rfl ?_
 have hs := Sl.enter #[.pointer (some ⟨b2, 0, none⟩), .int .i64 n6] 48 [(0, .pointer (some ⟨b2, 0, none⟩)), (1, .int .i64 n6)] rfl ⟨rfl, rfl, trivial⟩
 have hw := Wd.enterI hS hin
 have hw := hw.addE h5
 delta made_Dice_Records at hsh
 refine sr ?_
 refine av hs rfl rfl fun a hs => ?_
 refine nl ?_
 refine sr ?_
 refine mv hs rfl rfl fun a hs => ?_
 obtain ⟨rv8, h7, hsh⟩ := bind_t hsh
 refine st_callR hs (made_Dice_Source_ok h7 hw.dom (hw.ins [0] (by decide) rfl) (hw.envAt 0 rfl)) (do_call Tryz.call19 rfl) trivial rfl rfl ?_
 intro v15 Sv12 w a h13 h14 hs
 obtain ⟨p9, k10, rfl, h16, h11⟩ := h14
 have hw := hw.callO [0] [] (by decide) rfl h13 h16
 have hw := hw.addE (e := SlA p9 rv8.2.L.length k10 rv8.2.L) h11
 refine w_alloc (cs := [.string ByteArray.empty, .string ByteArray.empty, .string ByteArray.empty, .string ByteArray.empty]) hs hw Tryz.zeroValue31 rfl rfl trivial ?_
 intro b17 a w hs hw
 refine w_store (m := 4) (cs' := [.string rv8.1.Network, .string rv8.1.Station, .string rv8.1.Location, .string rv8.1.Channel]) hs hw 0 rfl rfl rfl Tryz.sizeOf31 rfl rfl rfl rfl trivial ?_
 intro a w hs hw
 refine nl ?_
 refine sr ?_
 refine av hs rfl rfl fun a hs => ?_
 refine nl ?_
 refine wp_seq ?_
 refine sr ?_
 refine mv hs rfl rfl fun a hs => ?_
 refine mv hs rfl rfl fun a hs => ?_
 refine sv hs (y_add rfl rfl) rfl fun a hs => ?_
 obtain ⟨rv19, h18, hsh⟩ := bind_t hsh
 refine st_callR hs (made_Dice_Next_ok h18 hw.dom (hw.ins [1] (by decide) rfl) (hw.envAt 0 rfl)) (do_call Tryz.call15 rfl) trivial rfl rfl ?_
 intro v26 Sv23 w a h24 h25 hs
 obtain ⟨p20, k21, rfl, h27, h22⟩ := h25
 have hw := hw.callO [1] [0] (by decide) rfl h24 h27
 have hw := hw.addE (e := SlA p20 rv19.2.L.length k21 rv19.2.L) h22
 refine av hs rfl rfl fun a hs => ?_
 refine nl ?_
 obtain ⟨e374, h642, hsh⟩ := bind_t hsh
 refine wp_join (fun a w => ∃ (p375 : Option Addr) (k376 : Nat) (c377 : List Value) (p378 : Option Addr) (k379 : Nat) (Sv380 : Nat → Prop), Sl 48 [(6, .slice p378 e374.2.2.length k379)] a ∧ Wd ⟨w0, S0, blks [.box b2 [.slice p3 d1.L.length k4, .int .i64 d1.At] 75]⟩ Sv380 [.box b2 [.slice p375 e374.1.length k376, .int .i64 e374.2.1] 75, .row p378 e374.2.2.length k379 c377 35 12] [SlA p375 e374.1.length k376 e374.1, RowA c377 e374.2.2] w) ?_ ?_
 ·refine wp_block ?_
  have hw := hw.nilRow Record 35
  refine wp_while (fun sv28 a w => ∃ (p255 : Option Addr) (k256 : Nat) (c257 : List Value) (p258 : Option Addr) (k259 : Nat) (Sv260 : Nat → Prop), Sl 48 [(0, .pointer (some ⟨b2, 0, none⟩)), (5, .pointer (some ⟨b17, 0, none⟩)), (6, .slice p258 sv28.2.2.1.length k259), (7, .int .i64 sv28.2.2.2)] a ∧ Wd ⟨w0, S0, blks [.box b2 [.slice p3 d1.L.length k4, .int .i64 d1.At] 75]⟩ Sv260 [.box b2 [.slice p255 sv28.1.length k256, .int .i64 sv28.2.1] 75, .box b17 [.string rv8.1.Network, .string rv8.1.Station, .string rv8.1.Location, .string rv8.1.Channel] 31, .row p258 sv28.2.2.1.length k259 c257 35 12] [SlA p255 sv28.1.length k256 sv28.1, RowA c257 sv28.2.2.1] w) (rv19.2.L, rv19.2.At, ([] : List Record), rv19.1) h642 ⟨p20, k21, [], none, 0, Sv23, (hs.wk rfl), (hw.ft [1, 2, 0] [1, 0] (by decide) rfl rfl)⟩ ?_
  clear h642
  repeat clear hsh
  rintro sv28 a w tv372 ⟨p255, k256, c257, p258, k259, Sv260, hs, hw⟩ hsh hd371
  delta made_Dice_Records_l1 at hsh
  refine wp_seq ?_
  refine sr ?_
  refine mv hs rfl rfl fun a hs => ?_
  refine sv hs (y_gtr rfl rfl) rfl fun a hs => ?_
  refine nl ?_
  refine wp_cond_split (hs.ev rfl) (fun h382 => ?_) (fun h382 => ?_)
  ·have hsh := ite_t hsh h382
   refine wp_skip ?_
   refine then_normal ?_
   refine wp_seq ?_
   refine wp_block ?_
   refine sr ?_
   refine mv hs rfl rfl fun a hs => ?_
   refine sv hs (y_loadBA (hw.ownAt 1 rfl) rfl Tryz.isAgg31 Tryz.sizeOf31 rfl rfl) rfl fun a hs => ?_
   obtain ⟨rv491, h490, hsh⟩ := bind_t hsh
   refine st_callR hs (made_Dice_Record_ok h490 hw.dom (hw.ins [0] (by decide) rfl) (hw.envAt 0 rfl)) (do_call Tryz.call16 rfl) trivial rfl rfl ?_
   intro v502 Sv499 w a h500 h501 hs
   obtain ⟨p492, k493, c495, p496, k497, rfl, h503, h494, h498⟩ := h501
   have hw := hw.callO [0] [1, 2] (by decide) rfl h500 h503
   have hw := hw.addE (e := RowA c495 rv491.1.Samples) h494
   have hw := hw.addE (e := SlA p496 rv491.2.L.length k497 rv491.2.L) h498
   refine w_alloc (cs := [.string ByteArray.empty, .string ByteArray.empty, .string ByteArray.empty, .string ByteArray.empty, .int .i64 0, .int .i64 0, .int .i64 0, .int .i64 0, .int .i64 0, .int .i64 0, .int .i64 0, .slice none ([] : List Int).length 0]) hs hw Tryz.zeroValue35 rfl rfl trivial ?_
   intro b504 a w hs hw
   refine w_store (m := 12) (cs' := [.string rv491.1.Source.Network, .string rv491.1.Source.Station, .string rv491.1.Source.Location, .string rv491.1.Source.Channel, .int .i64 rv491.1.Start, .int .i64 rv491.1.First, .int .i64 rv491.1.Rate.Num, .int .i64 rv491.1.Rate.Den, .int .i64 rv491.1.Error, .int .i64 rv491.1.Run, .int .i64 rv491.1.Seq, .slice p492 rv491.1.Samples.length k493]) hs hw 0 rfl rfl rfl Tryz.sizeOf35 rfl rfl rfl rfl trivial ?_
   intro a w hs hw
   refine nl ?_
   refine wp_seq ?_
   refine sr ?_
   refine mv hs rfl rfl fun a hs => ?_
   refine sv hs (y_len Tryz.runUnderlying27 rfl) rfl fun a hs => ?_
   refine sv hs (y_gtr rfl rfl) rfl fun a hs => ?_
   refine mv hs rfl rfl fun a hs => ?_
   obtain ⟨c516, hc516, hsh⟩ := bind_t hsh
   refine wpl_join 4 (fun a w => ∃ (p517 : Option Addr) (k518 : Nat) (Sv519 : Nat → Prop), Sl 48 [(0, .pointer (some ⟨b2, 0, none⟩)), (5, .pointer (some ⟨b17, 0, none⟩)), (6, .slice p258 sv28.2.2.1.length k259), (7, .int .i64 sv28.2.2.2), (8, .pointer (some ⟨b504, 0, none⟩)), (29, .bool c516.2.2)] a ∧ Wd ⟨w0, S0, blks [.box b2 [.slice p3 d1.L.length k4, .int .i64 d1.At] 75]⟩ Sv519 [.box b2 [.slice p517 c516.1.length k518, .int .i64 c516.2.1] 75, .box b17 [.string rv8.1.Network, .string rv8.1.Station, .string rv8.1.Location, .string rv8.1.Channel] 31, .box b504 [.string rv491.1.Source.Network, .string rv491.1.Source.Station, .string rv491.1.Source.Location, .string rv491.1.Source.Channel, .int .i64 rv491.1.Start, .int .i64 rv491.1.First, .int .i64 rv491.1.Rate.Num, .int .i64 rv491.1.Rate.Den, .int .i64 rv491.1.Error, .int .i64 rv491.1.Run, .int .i64 rv491.1.Seq, .slice p492 rv491.1.Samples.length k493] 35, .row p492 rv491.1.Samples.length k493 c495 3 1, .row p258 sv28.2.2.1.length k259 c257 35 12] [SlA p517 c516.1.length k518 c516.1, RowA c495 rv491.1.Samples, RowA c257 sv28.2.2.1] w) ?_ ?_
   ·rcases Bool.eq_false_or_eq_true (decide (0 < (sv28.2.2.1.length : Int))) with h515 | h515
    ·have hs := hs.fix 25 (.bool true) rfl (vb h515)
     have hsh := ite_t hc516 h515
     refine st_val hs (y_move rfl) ⟨_, rfl, rfl⟩ rfl rfl fun a hs => ?_
     obtain ⟨rv521, h520, hsh⟩ := bind_t hsh
     refine st_callR hs (made_Dice_Next_ok h520 hw.dom (hw.ins [2] (by decide) rfl) (hw.envAt 0 rfl)) (do_call Tryz.call15 rfl) ⟨_, rfl, rfl⟩ rfl rfl ?_
     intro v528 Sv525 w a h526 h527 hs
     obtain ⟨p522, k523, rfl, h529, h524⟩ := h527
     have hw := hw.callO [2] [0, 1, 3, 4] (by decide) rfl h526 h529
     have hw := hw.addE (e := SlA p522 rv521.2.L.length k523 rv521.2.L) h524
     refine st_val hs (y_eql rfl rfl) ⟨_, rfl, rfl⟩ rfl rfl fun a hs => ?_
     refine sv hs (y_pickT rfl rfl) rfl fun a hs => ?_
     refine wpList_nil ?_
     have hsh := oi hsh
     subst hsh
     refine then_normal ?_
     exact ⟨p522, k523, Sv525, (hs.wk rfl), (hw.ft [0, 3, 1, 2, 4] [0, 2, 4] (by decide) rfl rfl)⟩
    have hs := hs.fix 25 (.bool false) rfl (vb h515)
    have hsh := ite_f hc516 h515
    refine st_skip hs rfl rfl rfl rfl rfl fun a hs => ?_
    refine st_skip hs rfl rfl rfl rfl rfl fun a hs => ?_
    refine st_skip hs rfl rfl rfl rfl rfl fun a hs => ?_
    refine sv hs (y_pickF rfl rfl) rfl fun a hs => ?_
    refine wpList_nil ?_
    have hsh := oi hsh
    subst hsh
    refine then_normal ?_
    exact ⟨p496, k497, Sv499, (hs.wk rfl), (hw.ft [2, 3, 0, 1, 4] [0, 1, 3] (by decide) rfl rfl)⟩
   rintro a w ⟨p517, k518, Sv519, hs, hw⟩
   refine nl ?_
   refine wp_join (fun a w => ∃ (x576 : (List Int)) (x577 : Int) (x578 : ByteArray) (x579 : ByteArray) (x580 : ByteArray) (x581 : ByteArray) (x582 : Int) (x583 : Int) (x584 : Int) (x585 : Int) (x586 : Int) (x587 : Int) (x588 : Int) (x589 : (List Int)) (p571 : Option Addr) (k572 : Nat) (p573 : Option Addr) (k574 : Nat) (Sv575 : Nat → Prop), made_Dice_Records_j1 sv28 x576 x577 x578 x579 x580 x581 x582 x583 x584 x585 x586 x587 x588 x589 = some tv372 ∧ Sl 48 [(0, .pointer (some ⟨b2, 0, none⟩)), (5, .pointer (some ⟨b17, 0, none⟩)), (6, .slice p258 sv28.2.2.1.length k259), (7, .int .i64 sv28.2.2.2), (8, .pointer (some ⟨b504, 0, none⟩))] a ∧ Wd ⟨w0, S0, blks [.box b2 [.slice p3 d1.L.length k4, .int .i64 d1.At] 75]⟩ Sv575 [.box b2 [.slice p571 x576.length k572, .int .i64 x577] 75, .box b17 [.string rv8.1.Network, .string rv8.1.Station, .string rv8.1.Location, .string rv8.1.Channel] 31, .box b504 [.string x578, .string x579, .string x580, .string x581, .int .i64 x582, .int .i64 x583, .int .i64 x584, .int .i64 x585, .int .i64 x586, .int .i64 x587, .int .i64 x588, .slice p573 x589.length k574] 35, .row p258 sv28.2.2.1.length k259 c257 35 12] [SlA p571 x576.length k572 x576, SlA p573 x589.length k574 x589, RowA c257 sv28.2.2.1] w) ?_ ?_
   ·refine wp_cond_split (hs.ev rfl) (fun h599 => ?_) (fun h599 => ?_)
    ·have hsh := ite_t hsh h599
     refine sr ?_
     refine mv hs rfl rfl fun a hs => ?_
     refine mv hs rfl rfl fun a hs => ?_
     refine mv hs rfl rfl fun a hs => ?_
     refine sv hs (y_len Tryz.runUnderlying27 rfl) rfl fun a hs => ?_
     obtain ⟨rv601, h600, hsh⟩ := bind_t hsh
     refine st_callR hs (made_Dice_Next_ok h600 hw.dom (hw.ins [0] (by decide) rfl) (hw.envAt 0 rfl)) (do_call Tryz.call15 rfl) trivial rfl rfl ?_
     intro v608 Sv605 w a h606 h607 hs
     obtain ⟨p602, k603, rfl, h609, h604⟩ := h607
     have hw := hw.callO [0] [1, 2, 3, 4] (by decide) rfl h606 h609
     have hw := hw.addE (e := SlA p602 rv601.2.L.length k603 rv601.2.L) h604
     obtain ⟨x612, h610, hsh⟩ := bind_t hsh
     obtain ⟨b619, q616, c617, h620, h613, h614, h618, h611⟩ := hw.elemRV (α := Record) 4 rfl 3 rfl h610
     have hsv621 := hs
     have hwv622 := hw
     subst h620
     have hs := hsv621
     have hw := hwv622
     obtain ⟨_, _, _, _, _, _, _, _, _, _, _, _, rfl, rfl, rfl, rfl, rfl, rfl, rfl, rfl, rfl, rfl, rfl, rfl, ⟨p623, n624, k625, rfl, h626⟩⟩ := h611
     obtain rfl := h626.1
     have hw := hw.addE (e := SlA p623 _ k625 x612.Samples) h626
     refine sv hs (y_indexAt Tryz.runUnderlying27 Tryz.sizeOf35 rfl rfl h613.1 h613.2 h614) rfl fun a hs => ?_
     refine sv hs (y_loadQA (j := 0) (hw.ownAt 4 rfl) rfl Tryz.isAgg35 Tryz.sizeOf35 h618 rfl rfl) rfl fun a hs => ?_
     refine w_store (m := 12) (cs' := [.string x612.Source.Network, .string x612.Source.Station, .string x612.Source.Location, .string x612.Source.Channel, .int .i64 x612.Start, .int .i64 x612.First, .int .i64 x612.Rate.Num, .int .i64 x612.Rate.Den, .int .i64 x612.Error, .int .i64 x612.Run, .int .i64 x612.Seq, .slice p623 x612.Samples.length k625]) hs hw 2 rfl rfl rfl Tryz.sizeOf35 rfl rfl rfl rfl trivial ?_
     intro a w hs hw
     refine nl ?_
     refine wp_region_lit ?_
     refine mv hs rfl rfl fun a hs => ?_
     refine sv hs (y_fieldAddr (o' := 10) Tryz.runUnderlying35 rfl Tryz.sizeOf3 rfl rfl rfl) rfl fun a hs => ?_
     refine sv hs (y_loadB1 (hw.ownAt 2 rfl) rfl Tryz.isAgg3 rfl) rfl fun a hs => ?_
     refine w_litSlice (α := Int) (vs := [.int .i64 x612.Seq, .int .i64 9]) (cs := [.int .i64 x612.Seq, .int .i64 9]) (xs := ([x612.Seq, 9] : List Int)) hs hw El22 rfl rfl rfl rfl rfl rfl ⟨⟨_, rfl, rfl⟩, ⟨⟨_, rfl, rfl⟩, rfl⟩⟩ rfl trivial rfl fun b628 a w hs hw => ?_
     obtain ⟨rv630, h629, hsh⟩ := bind_t hsh
     obtain ⟨Sv634, hw⟩ := w_share (α := Int) hw 0 rfl 0 rfl
     refine st_callR hs (made_Dice_Pick_ok h629 hw.dom (hw.ins [0] (by decide) rfl) (hw.envAt 3 rfl) (hw.envAt 0 rfl)) (do_call Tryz.call47 rfl) trivial rfl rfl ?_
     intro v638 Sv635 w a h636 h637 hs
     obtain ⟨p631, k632, rfl, h639, h633⟩ := h637
     have hw := hw.callO [0] [1, 2, 3, 4] (by decide) rfl h636 h639
     have hw := hw.addE (e := SlA p631 rv630.2.L.length k632 rv630.2.L) h633
     refine sv hs (y_fieldAddr (o' := 10) Tryz.runUnderlying35 rfl Tryz.sizeOf3 rfl rfl rfl) rfl fun a hs => ?_
     refine w_store (m := 1) (cs' := [.string x612.Source.Network, .string x612.Source.Station, .string x612.Source.Location, .string x612.Source.Channel, .int .i64 x612.Start, .int .i64 x612.First, .int .i64 x612.Rate.Num, .int .i64 x612.Rate.Den, .int .i64 x612.Error, .int .i64 x612.Run, .int .i64 rv630.1, .slice p623 x612.Samples.length k625]) hs hw 2 rfl rfl rfl Tryz.sizeOf3 rfl rfl rfl rfl trivial ?_
     intro a w hs hw
     refine nl ?_
     exact ⟨rv630.2.L, rv630.2.At, x612.Source.Network, x612.Source.Station, x612.Source.Location, x612.Source.Channel, x612.Start, x612.First, x612.Rate.Num, x612.Rate.Den, x612.Error, x612.Run, rv630.1, x612.Samples, p631, k632, p623, k625, Sv635, hsh, (hs.wk rfl), (hw.ft [0, 1, 2, 4] [0, 3, 7] (by decide) rfl rfl)⟩
    have hsh := ite_f hsh h599
    refine wp_skip ?_
    refine then_normal ?_
    obtain ⟨Sv640, hw⟩ := w_share (α := Int) hw 3 rfl 1 rfl
    exact ⟨c516.1, c516.2.1, rv491.1.Source.Network, rv491.1.Source.Station, rv491.1.Source.Location, rv491.1.Source.Channel, rv491.1.Start, rv491.1.First, rv491.1.Rate.Num, rv491.1.Rate.Den, rv491.1.Error, rv491.1.Run, rv491.1.Seq, rv491.1.Samples, p517, k518, p492, k493, Sv640, hsh, (hs.wk rfl), (hw.ft [0, 1, 2, 3] [1, 0, 3] (by decide) rfl rfl)⟩
   rintro a w ⟨x576, x577, x578, x579, x580, x581, x582, x583, x584, x585, x586, x587, x588, x589, p571, k572, p573, k574, Sv575, hsh, hs, hw⟩
   delta made_Dice_Records_j1 at hsh
   refine then_normal ?_
   refine wp_region_lit ?_
   refine mv hs rfl rfl fun a hs => ?_
   refine sv hs (y_loadBA (hw.ownAt 2 rfl) rfl Tryz.isAgg35 Tryz.sizeOf35 rfl rfl) rfl fun a hs => ?_
   refine w_litSlice (α := Record) (vs := [.agg #[.string x578, .string x579, .string x580, .string x581, .int .i64 x582, .int .i64 x583, .int .i64 x584, .int .i64 x585, .int .i64 x586, .int .i64 x587, .int .i64 x588, .slice p573 x589.length k574]]) (cs := [.string x578, .string x579, .string x580, .string x581, .int .i64 x582, .int .i64 x583, .int .i64 x584, .int .i64 x585, .int .i64 x586, .int .i64 x587, .int .i64 x588, .slice p573 x589.length k574]) (xs := ([(⟨(⟨x578, x579, x580, x581⟩ : SourceID), x582, x583, (⟨x584, x585⟩ : Rate), x586, x587, x588, x589⟩ : Record)] : List Record)) hs hw El27 rfl rfl rfl rfl rfl rfl ⟨⟨_, _, _, _, _, _, _, _, _, _, _, _, rfl, rfl, rfl, rfl, rfl, rfl, rfl, rfl, rfl, rfl, rfl, rfl, ⟨_, _, _, rfl, hw.envAt 1 rfl⟩⟩, rfl⟩ rfl trivial rfl fun b591 a w hs hw => ?_
   obtain ⟨l593, h592, hsh⟩ := bind_t hsh
   refine w_appendR (α := Record) hs hw El27 4 rfl rfl rfl 3 rfl 0 rfl 0 rfl h592 rfl trivial ?_
   intro p594 k595 c596 a w hs hw
   refine av hs rfl rfl fun a hs => ?_
   refine wpList_nil ?_
   refine blk_normal ?_
   refine then_normal ?_
   refine wp_region_lit ?_
   refine mv hs rfl rfl fun a hs => ?_
   refine sv hs (y_sub rfl rfl) rfl fun a hs => ?_
   obtain ⟨i598, h597, hsh⟩ := bind_t hsh
   refine sv hs (y_assignI rfl h597) rfl fun a hs => ?_
   refine nl ?_
   exact ⟨_, (Option.some.inj hsh).symm, p571, k572, c596, p594, k595, Sv575, (hs.wk rfl), (hw.ft [1, 2, 4] [2, 0] (by decide) rfl rfl)⟩
  have hsh := ite_f hsh h382
  refine wp_exit ?_
  refine then_exit ?_
  refine then_exit ?_
  refine blk_exit ?_
  have hsh := oi hsh
  subst hsh
  have h641 := hd371 _ rfl
  subst h641
  refine then_normal ?_
  exact ⟨p255, k256, c257, p258, k259, Sv260, (hs.wk rfl), (hw.ft [0, 2] [0, 1] (by decide) rfl rfl)⟩
 rintro a w ⟨p375, k376, c377, p378, k379, Sv380, hs, hw⟩
 refine then_normal ?_
 refine sr ?_
 refine mv hs rfl rfl fun a hs => ?_
 refine av hs rfl rfl fun a hs => ?_
 refine nl ?_
 have hsh := oi hsh
 subst hsh
 refine wp_ret ?_
 exact ret1 hs rfl (rv_tmp rfl) (hw.ret ⟨p378, k379, c377, p375, k376, rfl, (hw.outs [1, 0] (by decide) rfl), (hw.envAt 1 rfl), (hw.envAt 0 rfl)⟩)

abbrev ref05_Same_rd (w0 : World) (X : List Nat) (r : Bool) : (Nat → Prop) → World → Value → Prop := fun S w v => v = .bool r
set_option maxHeartbeats 4000000 in
set_option maxRecDepth 100000 in
theorem ref05_Same_ok {w0 : World} {S0 : Nat → Prop} {p2 : Option Addr} {k3 : Nat} {p6 : Option Addr} {k7 : Nat} {a1 : (List Int)} {b5 : (List Int)} {r : Bool} (hsh : ref05_Same a1 b5 = some r) (hS : ∀ b, S0 b → b < w0.heap.size) (h4 : (SlA p2 a1.length k3 a1).p S0 w0) (h8 : (SlA p6 b5.length k7 b5).p S0 w0) : Calls Tryz.prog 50 #[.slice p2 a1.length k3, .slice p6 b5.length k7] w0 (Ret ([]) w0 S0 (ref05_Same_rd w0 ([]) r)) := by
 refine calls_of_wp Tryz.func50 rfl ?_
 have hs := Sl.enter #[.slice p2 a1.length k3, .slice p6 b5.length k7] 26 [(0, .slice p2 a1.length k3), (1, .slice p6 b5.length k7)] rfl ⟨rfl, rfl, trivial⟩
 have hw := Wd.enter (E := []) hS (fun _ h => (by cases h))
 have hw := hw.addE h4
 have hw := hw.addE h8
 delta ref05_Same at hsh
 refine sr ?_
 refine av hs rfl rfl fun a hs => ?_
 refine nl ?_
 refine wp_seq ?_
 refine sr ?_
 refine mv hs rfl rfl fun a hs => ?_
 refine sv hs (y_len Tryz.runUnderlying22 rfl) rfl fun a hs => ?_
 refine mv hs rfl rfl fun a hs => ?_
 refine sv hs (y_len Tryz.runUnderlying22 rfl) rfl fun a hs => ?_
 refine sv hs (y_neq rfl rfl) rfl fun a hs => ?_
 refine nl ?_
 refine wp_cond_split (hs.ev rfl) (fun h10 => ?_) (fun h10 => ?_)
 ·have hsh := ite_t hsh h10
  refine sr ?_
  refine av hs rfl rfl fun a hs => ?_
  refine nl ?_
  have hsh := oi hsh
  subst hsh
  refine wp_ret ?_
  refine then_ret ?_
  exact ret1 hs rfl (rv_tmp rfl) (hw.ret rfl)
 have hsh := ite_f hsh h10
 refine wp_skip ?_
 refine then_normal ?_
 refine wp_seq ?_
 refine sr ?_
 refine av hs rfl rfl fun a hs => ?_
 refine nl ?_
 refine wp_block ?_
 refine wp_while (fun sv109 a w => ∃ (Sv173 : Nat → Prop), Sl 26 [(0, .slice p2 a1.length k3), (1, .slice p6 b5.length k7), (5, .int .i64 sv109)] a ∧ Wd ⟨w0, S0, []⟩ Sv173 [] [SlA p2 a1.length k3 a1, SlA p6 b5.length k7 b5] w) 0 hsh ⟨S0, (hs.wk rfl), (hw.ft [] [1, 0] (by decide) rfl rfl)⟩ ?_
 repeat clear hsh
 rintro sv109 a w tv206 ⟨Sv173, hs, hw⟩ hsh hd205
 delta ref05_Same_l2 at hsh
 refine wp_seq ?_
 refine sr ?_
 refine mv hs rfl rfl fun a hs => ?_
 refine mv hs rfl rfl fun a hs => ?_
 refine sv hs (y_len Tryz.runUnderlying22 rfl) rfl fun a hs => ?_
 refine sv hs (y_lss rfl rfl) rfl fun a hs => ?_
 refine nl ?_
 refine wp_cond_split (hs.ev rfl) (fun h210 => ?_) (fun h210 => ?_)
 ·have hsh := ite_t hsh h210
  refine wp_skip ?_
  refine then_normal ?_
  refine wp_seq ?_
  refine wp_block ?_
  refine wp_seq ?_
  obtain ⟨x241, h239, hsh⟩ := bind_t hsh
  obtain ⟨b247, o248, q245, c246, h249, h242, h243, h244, h240⟩ := hw.elemV 0 rfl h239
  have hsv250 := hs
  have hwv251 := hw
  subst h249
  have hs := hsv250
  have hw := hwv251
  obtain ⟨_, rfl, rfl⟩ := h240
  have hw := hw.addE h244
  obtain ⟨x254, h252, hsh⟩ := bind_t hsh
  obtain ⟨b260, o261, q258, c259, h262, h255, h256, h257, h253⟩ := hw.elemV 2 rfl h252
  have hsv263 := hs
  have hwv264 := hw
  subst h262
  have hs := hsv263
  have hw := hwv264
  obtain ⟨_, rfl, rfl⟩ := h253
  have hw := hw.addE h257
  refine wp_only (fun a w => ∃ (Sv265 : Nat → Prop), Sl 26 [(0, .slice (some ⟨b247, o248, none⟩) a1.length k3), (1, .slice (some ⟨b260, o261, none⟩) b5.length k7), (5, .int .i64 sv109), (25, .bool (x241 != x254))] a ∧ Wd ⟨w0, S0, []⟩ Sv265 [] [SlA (some ⟨b247, o248, none⟩) a1.length k3 a1, SlA (some ⟨b260, o261, none⟩) b5.length k7 b5] w) ?_ ?_
  ·refine h_b (C := Cls [] [CeA b260 q258 [.int .i64 x254], CeA b247 q245 [.int .i64 x241]]) (by kernel_rfl) rfl (hw.drew.cs [] [0, 1] rfl rfl) fun hC => ?_
   have hw := hw.drew
   refine gm hs 0 rfl rfl rfl hC fun a hs => ?_
   refine gm hs 1 rfl rfl rfl hC fun a hs => ?_
   refine gv hs 2 rfl rfl hC (fun w hC => y_indexAt Tryz.runUnderlying22 Tryz.sizeOf3 rfl rfl h242.1 h242.2 h243) fun a hs => ?_
   refine gv hs 3 rfl rfl hC (fun w hC => y_loadE1 (j := 0) (hC.ceAt 1 rfl) rfl Tryz.isAgg3 rfl) fun a hs => ?_
   refine gm hs 4 rfl rfl rfl hC fun a hs => ?_
   refine gm hs 5 rfl rfl rfl hC fun a hs => ?_
   refine gv hs 6 rfl rfl hC (fun w hC => y_indexAt Tryz.runUnderlying22 Tryz.sizeOf3 rfl rfl h255.1 h255.2 h256) fun a hs => ?_
   refine gv hs 7 rfl rfl hC (fun w hC => y_loadE1 (j := 0) (hC.ceAt 0 rfl) rfl Tryz.isAgg3 rfl) fun a hs => ?_
   refine gv hs 8 rfl rfl hC (fun w hC => y_neq rfl rfl) fun a hs => ?_
   refine h_done (by kernel_rfl) ?_
   exact ⟨Sv173, (hs.wk rfl), (hw.ft [] [2, 3] (by decide) rfl rfl)⟩
  rintro a w ⟨Sv265, hs, hw⟩
  refine then_normal ?_
  refine wp_cond_split (hs.ev rfl) (fun h267 => ?_) (fun h267 => ?_)
  ·have hsh := ite_t hsh h267
   refine sr ?_
   refine av hs rfl rfl fun a hs => ?_
   refine nl ?_
   have hsh := oi hsh
   subst hsh
   have h268 := hd205 _ rfl
   subst h268
   refine wp_ret ?_
   refine blk_ret ?_
   refine then_ret ?_
   refine then_ret ?_
   refine blk_ret ?_
   refine then_ret ?_
   exact ret1 hs rfl (rv_tmp rfl) (hw.ret rfl)
  have hsh := ite_f hsh h267
  refine wp_skip ?_
  refine blk_normal ?_
  refine then_normal ?_
  refine wp_region_lit ?_
  refine mv hs rfl rfl fun a hs => ?_
  refine sv hs (y_add rfl rfl) rfl fun a hs => ?_
  obtain ⟨i270, h269, hsh⟩ := bind_t hsh
  refine sv hs (y_assignI rfl h269) rfl fun a hs => ?_
  refine nl ?_
  exact ⟨_, (Option.some.inj hsh).symm, Sv265, (hs.wk rfl), (hw.ft [] [0, 1] (by decide) rfl rfl)⟩
 have hsh := ite_f hsh h210
 obtain ⟨rv271, hsh, h272⟩ := map_t hsh
 have h272 := (hd205 _ h272.symm).symm
 subst h272
 refine wp_exit ?_
 refine then_exit ?_
 refine then_exit ?_
 refine blk_exit ?_
 refine then_normal ?_
 refine sr ?_
 refine av hs rfl rfl fun a hs => ?_
 refine nl ?_
 have hsh := oi hsh
 subst hsh
 refine wp_ret ?_
 exact ret1 hs rfl (rv_tmp rfl) (hw.ret rfl)

abbrev ref14_Same_rd (w0 : World) (X : List Nat) (r : Bool) : (Nat → Prop) → World → Value → Prop := fun S w v => v = .bool r
set_option maxHeartbeats 4000000 in
set_option maxRecDepth 100000 in
theorem ref14_Same_ok {w0 : World} {S0 : Nat → Prop} {p2 : Option Addr} {k3 : Nat} {p6 : Option Addr} {k7 : Nat} {a1 : Record} {b5 : Record} {r : Bool} (hsh : ref14_Same a1 b5 = some r) (hS : ∀ b, S0 b → b < w0.heap.size) (h4 : (SlA p2 a1.Samples.length k3 a1.Samples).p S0 w0) (h8 : (SlA p6 b5.Samples.length k7 b5.Samples).p S0 w0) : Calls Tryz.prog 20 #[.agg #[.string a1.Source.Network, .string a1.Source.Station, .string a1.Source.Location, .string a1.Source.Channel, .int .i64 a1.Start, .int .i64 a1.First, .int .i64 a1.Rate.Num, .int .i64 a1.Rate.Den, .int .i64 a1.Error, .int .i64 a1.Run, .int .i64 a1.Seq, .slice p2 a1.Samples.length k3], .agg #[.string b5.Source.Network, .string b5.Source.Station, .string b5.Source.Location, .string b5.Source.Channel, .int .i64 b5.Start, .int .i64 b5.First, .int .i64 b5.Rate.Num, .int .i64 b5.Rate.Den, .int .i64 b5.Error, .int .i64 b5.Run, .int .i64 b5.Seq, .slice p6 b5.Samples.length k7]] w0 (Ret ([]) w0 S0 (ref14_Same_rd w0 ([]) r)) := by
 refine calls_of_wp Tryz.func20 rfl ?_
 have hs := Sl.enter #[.agg #[.string a1.Source.Network, .string a1.Source.Station, .string a1.Source.Location, .string a1.Source.Channel, .int .i64 a1.Start, .int .i64 a1.First, .int .i64 a1.Rate.Num, .int .i64 a1.Rate.Den, .int .i64 a1.Error, .int .i64 a1.Run, .int .i64 a1.Seq, .slice p2 a1.Samples.length k3], .agg #[.string b5.Source.Network, .string b5.Source.Station, .string b5.Source.Location, .string b5.Source.Channel, .int .i64 b5.Start, .int .i64 b5.First, .int .i64 b5.Rate.Num, .int .i64 b5.Rate.Den, .int .i64 b5.Error, .int .i64 b5.Run, .int .i64 b5.Seq, .slice p6 b5.Samples.length k7]] 59 [(0, .agg #[.string a1.Source.Network, .string a1.Source.Station, .string a1.Source.Location, .string a1.Source.Channel, .int .i64 a1.Start, .int .i64 a1.First, .int .i64 a1.Rate.Num, .int .i64 a1.Rate.Den, .int .i64 a1.Error, .int .i64 a1.Run, .int .i64 a1.Seq, .slice p2 a1.Samples.length k3]), (1, .agg #[.string b5.Source.Network, .string b5.Source.Station, .string b5.Source.Location, .string b5.Source.Channel, .int .i64 b5.Start, .int .i64 b5.First, .int .i64 b5.Rate.Num, .int .i64 b5.Rate.Den, .int .i64 b5.Error, .int .i64 b5.Run, .int .i64 b5.Seq, .slice p6 b5.Samples.length k7])] rfl ⟨rfl, rfl, trivial⟩
 have hw := Wd.enter (E := []) hS (fun _ h => (by cases h))
 have hw := hw.addE h4
 have hw := hw.addE h8
 delta ref14_Same at hsh
 refine sr ?_
 refine w_box (cs := [.string a1.Source.Network, .string a1.Source.Station, .string a1.Source.Location, .string a1.Source.Channel, .int .i64 a1.Start, .int .i64 a1.First, .int .i64 a1.Rate.Num, .int .i64 a1.Rate.Den, .int .i64 a1.Error, .int .i64 a1.Run, .int .i64 a1.Seq, .slice p2 a1.Samples.length k3]) hs hw rfl rfl rfl trivial ?_
 intro b9 a w hs hw
 refine w_box (cs := [.string b5.Source.Network, .string b5.Source.Station, .string b5.Source.Location, .string b5.Source.Channel, .int .i64 b5.Start, .int .i64 b5.First, .int .i64 b5.Rate.Num, .int .i64 b5.Rate.Den, .int .i64 b5.Error, .int .i64 b5.Run, .int .i64 b5.Seq, .slice p6 b5.Samples.length k7]) hs hw rfl rfl rfl trivial ?_
 intro b10 a w hs hw
 refine av hs rfl rfl fun a hs => ?_
 refine nl ?_
 refine sr ?_
 refine sv hs (y_fieldAddr (o' := 0) Tryz.runUnderlying35 rfl Tryz.sizeOf31 rfl rfl rfl) rfl fun a hs => ?_
 refine sv hs (y_loadBA (hw.ownAt 1 rfl) rfl Tryz.isAgg31 Tryz.sizeOf31 rfl rfl) rfl fun a hs => ?_
 refine sv hs (y_fieldAddr (o' := 0) Tryz.runUnderlying35 rfl Tryz.sizeOf31 rfl rfl rfl) rfl fun a hs => ?_
 refine sv hs (y_loadBA (hw.ownAt 0 rfl) rfl Tryz.isAgg31 Tryz.sizeOf31 rfl rfl) rfl fun a hs => ?_
 refine sv hs (y_eqlA (by kernel_rfl) rfl rfl (eqv_struct Tryz.runUnderlying31 (by kernel_rfl) (EqF.cons1 rfl Tryz.isAgg9 rfl rfl (eqv_str Tryz.runUnderlying9) (EqF.cons1 rfl Tryz.isAgg9 rfl rfl (eqv_str Tryz.runUnderlying9) (EqF.cons1 rfl Tryz.isAgg9 rfl rfl (eqv_str Tryz.runUnderlying9) (EqF.cons1 rfl Tryz.isAgg9 rfl rfl (eqv_str Tryz.runUnderlying9) EqF.nil)))))) rfl fun a hs => ?_
 refine mv hs rfl rfl fun a hs => ?_
 refine wpl_join 6 (fun a w1 => w = w1 ∧ Sl 59 [(2, .pointer (some ⟨b9, 0, none⟩)), (3, .pointer (some ⟨b10, 0, none⟩)), (16, .bool (((a1.Source.Network == b5.Source.Network) && ((a1.Source.Station == b5.Source.Station) && ((a1.Source.Location == b5.Source.Location) && ((a1.Source.Channel == b5.Source.Channel) && true)))) && (a1.Start == b5.Start)))] a) ?_ ?_
 ·rcases Bool.eq_false_or_eq_true ((a1.Source.Network == b5.Source.Network) && ((a1.Source.Station == b5.Source.Station) && ((a1.Source.Location == b5.Source.Location) && ((a1.Source.Channel == b5.Source.Channel) && true)))) with h11 | h11
  ·have hs := hs.fix 10 (.bool true) rfl (vb h11)
   refine st_val hs (y_fieldAddr (o' := 4) Tryz.runUnderlying35 rfl Tryz.sizeOf3 rfl rfl rfl) ⟨_, rfl, rfl⟩ rfl rfl fun a hs => ?_
   refine st_val hs (y_loadB1 (hw.ownAt 1 rfl) rfl Tryz.isAgg3 rfl) ⟨_, rfl, rfl⟩ rfl rfl fun a hs => ?_
   refine st_val hs (y_fieldAddr (o' := 4) Tryz.runUnderlying35 rfl Tryz.sizeOf3 rfl rfl rfl) ⟨_, rfl, rfl⟩ rfl rfl fun a hs => ?_
   refine st_val hs (y_loadB1 (hw.ownAt 0 rfl) rfl Tryz.isAgg3 rfl) ⟨_, rfl, rfl⟩ rfl rfl fun a hs => ?_
   refine st_val hs (y_eql rfl rfl) ⟨_, rfl, rfl⟩ rfl rfl fun a hs => ?_
   refine sv hs (y_pickT rfl rfl) rfl fun a hs => ?_
   refine nl ?_
   exact ⟨rfl, (hs.fix 16 (.bool (((a1.Source.Network == b5.Source.Network) && ((a1.Source.Station == b5.Source.Station) && ((a1.Source.Location == b5.Source.Location) && ((a1.Source.Channel == b5.Source.Channel) && true)))) && (a1.Start == b5.Start))) rfl (and_t h11)).weaken _ ⟨rfl, rfl, rfl, trivial⟩⟩
  have hs := hs.fix 10 (.bool false) rfl (vb h11)
  refine st_skip hs rfl rfl rfl rfl rfl fun a hs => ?_
  refine st_skip hs rfl rfl rfl rfl rfl fun a hs => ?_
  refine st_skip hs rfl rfl rfl rfl rfl fun a hs => ?_
  refine st_skip hs rfl rfl rfl rfl rfl fun a hs => ?_
  refine st_skip hs rfl rfl rfl rfl rfl fun a hs => ?_
  refine sv hs (y_pickF rfl rfl) rfl fun a hs => ?_
  refine nl ?_
  exact ⟨rfl, (hs.fix 16 (.bool (((a1.Source.Network == b5.Source.Network) && ((a1.Source.Station == b5.Source.Station) && ((a1.Source.Location == b5.Source.Location) && ((a1.Source.Channel == b5.Source.Channel) && true)))) && (a1.Start == b5.Start))) rfl (and_f h11)).weaken _ ⟨rfl, rfl, rfl, trivial⟩⟩
 rintro a w1 ⟨h39, hs⟩
 subst h39
 refine mv hs rfl rfl fun a hs => ?_
 refine wpl_join 6 (fun a w1 => w = w1 ∧ Sl 59 [(2, .pointer (some ⟨b9, 0, none⟩)), (3, .pointer (some ⟨b10, 0, none⟩)), (23, .bool ((((a1.Source.Network == b5.Source.Network) && ((a1.Source.Station == b5.Source.Station) && ((a1.Source.Location == b5.Source.Location) && ((a1.Source.Channel == b5.Source.Channel) && true)))) && (a1.Start == b5.Start)) && (a1.First == b5.First)))] a) ?_ ?_
 ·rcases Bool.eq_false_or_eq_true (((a1.Source.Network == b5.Source.Network) && ((a1.Source.Station == b5.Source.Station) && ((a1.Source.Location == b5.Source.Location) && ((a1.Source.Channel == b5.Source.Channel) && true)))) && (a1.Start == b5.Start)) with h12 | h12
  ·have hs := hs.fix 17 (.bool true) rfl (vb h12)
   refine st_val hs (y_fieldAddr (o' := 5) Tryz.runUnderlying35 rfl Tryz.sizeOf3 rfl rfl rfl) ⟨_, rfl, rfl⟩ rfl rfl fun a hs => ?_
   refine st_val hs (y_loadB1 (hw.ownAt 1 rfl) rfl Tryz.isAgg3 rfl) ⟨_, rfl, rfl⟩ rfl rfl fun a hs => ?_
   refine st_val hs (y_fieldAddr (o' := 5) Tryz.runUnderlying35 rfl Tryz.sizeOf3 rfl rfl rfl) ⟨_, rfl, rfl⟩ rfl rfl fun a hs => ?_
   refine st_val hs (y_loadB1 (hw.ownAt 0 rfl) rfl Tryz.isAgg3 rfl) ⟨_, rfl, rfl⟩ rfl rfl fun a hs => ?_
   refine st_val hs (y_eql rfl rfl) ⟨_, rfl, rfl⟩ rfl rfl fun a hs => ?_
   refine sv hs (y_pickT rfl rfl) rfl fun a hs => ?_
   refine nl ?_
   exact ⟨rfl, (hs.fix 23 (.bool ((((a1.Source.Network == b5.Source.Network) && ((a1.Source.Station == b5.Source.Station) && ((a1.Source.Location == b5.Source.Location) && ((a1.Source.Channel == b5.Source.Channel) && true)))) && (a1.Start == b5.Start)) && (a1.First == b5.First))) rfl (and_t h12)).weaken _ ⟨rfl, rfl, rfl, trivial⟩⟩
  have hs := hs.fix 17 (.bool false) rfl (vb h12)
  refine st_skip hs rfl rfl rfl rfl rfl fun a hs => ?_
  refine st_skip hs rfl rfl rfl rfl rfl fun a hs => ?_
  refine st_skip hs rfl rfl rfl rfl rfl fun a hs => ?_
  refine st_skip hs rfl rfl rfl rfl rfl fun a hs => ?_
  refine st_skip hs rfl rfl rfl rfl rfl fun a hs => ?_
  refine sv hs (y_pickF rfl rfl) rfl fun a hs => ?_
  refine nl ?_
  exact ⟨rfl, (hs.fix 23 (.bool ((((a1.Source.Network == b5.Source.Network) && ((a1.Source.Station == b5.Source.Station) && ((a1.Source.Location == b5.Source.Location) && ((a1.Source.Channel == b5.Source.Channel) && true)))) && (a1.Start == b5.Start)) && (a1.First == b5.First))) rfl (and_f h12)).weaken _ ⟨rfl, rfl, rfl, trivial⟩⟩
 rintro a w1 ⟨h38, hs⟩
 subst h38
 refine mv hs rfl rfl fun a hs => ?_
 refine wpl_join 6 (fun a w1 => w = w1 ∧ Sl 59 [(2, .pointer (some ⟨b9, 0, none⟩)), (3, .pointer (some ⟨b10, 0, none⟩)), (30, .bool (((((a1.Source.Network == b5.Source.Network) && ((a1.Source.Station == b5.Source.Station) && ((a1.Source.Location == b5.Source.Location) && ((a1.Source.Channel == b5.Source.Channel) && true)))) && (a1.Start == b5.Start)) && (a1.First == b5.First)) && ((a1.Rate.Num == b5.Rate.Num) && ((a1.Rate.Den == b5.Rate.Den) && true))))] a) ?_ ?_
 ·rcases Bool.eq_false_or_eq_true ((((a1.Source.Network == b5.Source.Network) && ((a1.Source.Station == b5.Source.Station) && ((a1.Source.Location == b5.Source.Location) && ((a1.Source.Channel == b5.Source.Channel) && true)))) && (a1.Start == b5.Start)) && (a1.First == b5.First)) with h13 | h13
  ·have hs := hs.fix 24 (.bool true) rfl (vb h13)
   refine st_val hs (y_fieldAddr (o' := 6) Tryz.runUnderlying35 rfl Tryz.sizeOf33 rfl rfl rfl) ⟨_, rfl, rfl⟩ rfl rfl fun a hs => ?_
   refine st_val hs (y_loadBA (hw.ownAt 1 rfl) rfl Tryz.isAgg33 Tryz.sizeOf33 rfl rfl) ⟨_, rfl, rfl⟩ rfl rfl fun a hs => ?_
   refine st_val hs (y_fieldAddr (o' := 6) Tryz.runUnderlying35 rfl Tryz.sizeOf33 rfl rfl rfl) ⟨_, rfl, rfl⟩ rfl rfl fun a hs => ?_
   refine st_val hs (y_loadBA (hw.ownAt 0 rfl) rfl Tryz.isAgg33 Tryz.sizeOf33 rfl rfl) ⟨_, rfl, rfl⟩ rfl rfl fun a hs => ?_
   refine st_val hs (y_eqlA (by kernel_rfl) rfl rfl (eqv_struct Tryz.runUnderlying33 (by kernel_rfl) (EqF.cons1 rfl Tryz.isAgg3 rfl rfl (eqv_int Tryz.runUnderlying3) (EqF.cons1 rfl Tryz.isAgg3 rfl rfl (eqv_int Tryz.runUnderlying3) EqF.nil)))) ⟨_, rfl, rfl⟩ rfl rfl fun a hs => ?_
   refine sv hs (y_pickT rfl rfl) rfl fun a hs => ?_
   refine nl ?_
   exact ⟨rfl, (hs.fix 30 (.bool (((((a1.Source.Network == b5.Source.Network) && ((a1.Source.Station == b5.Source.Station) && ((a1.Source.Location == b5.Source.Location) && ((a1.Source.Channel == b5.Source.Channel) && true)))) && (a1.Start == b5.Start)) && (a1.First == b5.First)) && ((a1.Rate.Num == b5.Rate.Num) && ((a1.Rate.Den == b5.Rate.Den) && true)))) rfl (and_t h13)).weaken _ ⟨rfl, rfl, rfl, trivial⟩⟩
  have hs := hs.fix 24 (.bool false) rfl (vb h13)
  refine st_skip hs rfl rfl rfl rfl rfl fun a hs => ?_
  refine st_skip hs rfl rfl rfl rfl rfl fun a hs => ?_
  refine st_skip hs rfl rfl rfl rfl rfl fun a hs => ?_
  refine st_skip hs rfl rfl rfl rfl rfl fun a hs => ?_
  refine st_skip hs rfl rfl rfl rfl rfl fun a hs => ?_
  refine sv hs (y_pickF rfl rfl) rfl fun a hs => ?_
  refine nl ?_
  exact ⟨rfl, (hs.fix 30 (.bool (((((a1.Source.Network == b5.Source.Network) && ((a1.Source.Station == b5.Source.Station) && ((a1.Source.Location == b5.Source.Location) && ((a1.Source.Channel == b5.Source.Channel) && true)))) && (a1.Start == b5.Start)) && (a1.First == b5.First)) && ((a1.Rate.Num == b5.Rate.Num) && ((a1.Rate.Den == b5.Rate.Den) && true)))) rfl (and_f h13)).weaken _ ⟨rfl, rfl, rfl, trivial⟩⟩
 rintro a w1 ⟨h37, hs⟩
 subst h37
 refine mv hs rfl rfl fun a hs => ?_
 refine wpl_join 6 (fun a w1 => w = w1 ∧ Sl 59 [(2, .pointer (some ⟨b9, 0, none⟩)), (3, .pointer (some ⟨b10, 0, none⟩)), (37, .bool ((((((a1.Source.Network == b5.Source.Network) && ((a1.Source.Station == b5.Source.Station) && ((a1.Source.Location == b5.Source.Location) && ((a1.Source.Channel == b5.Source.Channel) && true)))) && (a1.Start == b5.Start)) && (a1.First == b5.First)) && ((a1.Rate.Num == b5.Rate.Num) && ((a1.Rate.Den == b5.Rate.Den) && true))) && (a1.Error == b5.Error)))] a) ?_ ?_
 ·rcases Bool.eq_false_or_eq_true (((((a1.Source.Network == b5.Source.Network) && ((a1.Source.Station == b5.Source.Station) && ((a1.Source.Location == b5.Source.Location) && ((a1.Source.Channel == b5.Source.Channel) && true)))) && (a1.Start == b5.Start)) && (a1.First == b5.First)) && ((a1.Rate.Num == b5.Rate.Num) && ((a1.Rate.Den == b5.Rate.Den) && true))) with h14 | h14
  ·have hs := hs.fix 31 (.bool true) rfl (vb h14)
   refine st_val hs (y_fieldAddr (o' := 8) Tryz.runUnderlying35 rfl Tryz.sizeOf3 rfl rfl rfl) ⟨_, rfl, rfl⟩ rfl rfl fun a hs => ?_
   refine st_val hs (y_loadB1 (hw.ownAt 1 rfl) rfl Tryz.isAgg3 rfl) ⟨_, rfl, rfl⟩ rfl rfl fun a hs => ?_
   refine st_val hs (y_fieldAddr (o' := 8) Tryz.runUnderlying35 rfl Tryz.sizeOf3 rfl rfl rfl) ⟨_, rfl, rfl⟩ rfl rfl fun a hs => ?_
   refine st_val hs (y_loadB1 (hw.ownAt 0 rfl) rfl Tryz.isAgg3 rfl) ⟨_, rfl, rfl⟩ rfl rfl fun a hs => ?_
   refine st_val hs (y_eql rfl rfl) ⟨_, rfl, rfl⟩ rfl rfl fun a hs => ?_
   refine sv hs (y_pickT rfl rfl) rfl fun a hs => ?_
   refine nl ?_
   exact ⟨rfl, (hs.fix 37 (.bool ((((((a1.Source.Network == b5.Source.Network) && ((a1.Source.Station == b5.Source.Station) && ((a1.Source.Location == b5.Source.Location) && ((a1.Source.Channel == b5.Source.Channel) && true)))) && (a1.Start == b5.Start)) && (a1.First == b5.First)) && ((a1.Rate.Num == b5.Rate.Num) && ((a1.Rate.Den == b5.Rate.Den) && true))) && (a1.Error == b5.Error))) rfl (and_t h14)).weaken _ ⟨rfl, rfl, rfl, trivial⟩⟩
  have hs := hs.fix 31 (.bool false) rfl (vb h14)
  refine st_skip hs rfl rfl rfl rfl rfl fun a hs => ?_
  refine st_skip hs rfl rfl rfl rfl rfl fun a hs => ?_
  refine st_skip hs rfl rfl rfl rfl rfl fun a hs => ?_
  refine st_skip hs rfl rfl rfl rfl rfl fun a hs => ?_
  refine st_skip hs rfl rfl rfl rfl rfl fun a hs => ?_
  refine sv hs (y_pickF rfl rfl) rfl fun a hs => ?_
  refine nl ?_
  exact ⟨rfl, (hs.fix 37 (.bool ((((((a1.Source.Network == b5.Source.Network) && ((a1.Source.Station == b5.Source.Station) && ((a1.Source.Location == b5.Source.Location) && ((a1.Source.Channel == b5.Source.Channel) && true)))) && (a1.Start == b5.Start)) && (a1.First == b5.First)) && ((a1.Rate.Num == b5.Rate.Num) && ((a1.Rate.Den == b5.Rate.Den) && true))) && (a1.Error == b5.Error))) rfl (and_f h14)).weaken _ ⟨rfl, rfl, rfl, trivial⟩⟩
 rintro a w1 ⟨h36, hs⟩
 subst h36
 refine mv hs rfl rfl fun a hs => ?_
 refine wpl_join 6 (fun a w1 => w = w1 ∧ Sl 59 [(2, .pointer (some ⟨b9, 0, none⟩)), (3, .pointer (some ⟨b10, 0, none⟩)), (44, .bool (((((((a1.Source.Network == b5.Source.Network) && ((a1.Source.Station == b5.Source.Station) && ((a1.Source.Location == b5.Source.Location) && ((a1.Source.Channel == b5.Source.Channel) && true)))) && (a1.Start == b5.Start)) && (a1.First == b5.First)) && ((a1.Rate.Num == b5.Rate.Num) && ((a1.Rate.Den == b5.Rate.Den) && true))) && (a1.Error == b5.Error)) && (a1.Run == b5.Run)))] a) ?_ ?_
 ·rcases Bool.eq_false_or_eq_true ((((((a1.Source.Network == b5.Source.Network) && ((a1.Source.Station == b5.Source.Station) && ((a1.Source.Location == b5.Source.Location) && ((a1.Source.Channel == b5.Source.Channel) && true)))) && (a1.Start == b5.Start)) && (a1.First == b5.First)) && ((a1.Rate.Num == b5.Rate.Num) && ((a1.Rate.Den == b5.Rate.Den) && true))) && (a1.Error == b5.Error)) with h15 | h15
  ·have hs := hs.fix 38 (.bool true) rfl (vb h15)
   refine st_val hs (y_fieldAddr (o' := 9) Tryz.runUnderlying35 rfl Tryz.sizeOf3 rfl rfl rfl) ⟨_, rfl, rfl⟩ rfl rfl fun a hs => ?_
   refine st_val hs (y_loadB1 (hw.ownAt 1 rfl) rfl Tryz.isAgg3 rfl) ⟨_, rfl, rfl⟩ rfl rfl fun a hs => ?_
   refine st_val hs (y_fieldAddr (o' := 9) Tryz.runUnderlying35 rfl Tryz.sizeOf3 rfl rfl rfl) ⟨_, rfl, rfl⟩ rfl rfl fun a hs => ?_
   refine st_val hs (y_loadB1 (hw.ownAt 0 rfl) rfl Tryz.isAgg3 rfl) ⟨_, rfl, rfl⟩ rfl rfl fun a hs => ?_
   refine st_val hs (y_eql rfl rfl) ⟨_, rfl, rfl⟩ rfl rfl fun a hs => ?_
   refine sv hs (y_pickT rfl rfl) rfl fun a hs => ?_
   refine nl ?_
   exact ⟨rfl, (hs.fix 44 (.bool (((((((a1.Source.Network == b5.Source.Network) && ((a1.Source.Station == b5.Source.Station) && ((a1.Source.Location == b5.Source.Location) && ((a1.Source.Channel == b5.Source.Channel) && true)))) && (a1.Start == b5.Start)) && (a1.First == b5.First)) && ((a1.Rate.Num == b5.Rate.Num) && ((a1.Rate.Den == b5.Rate.Den) && true))) && (a1.Error == b5.Error)) && (a1.Run == b5.Run))) rfl (and_t h15)).weaken _ ⟨rfl, rfl, rfl, trivial⟩⟩
  have hs := hs.fix 38 (.bool false) rfl (vb h15)
  refine st_skip hs rfl rfl rfl rfl rfl fun a hs => ?_
  refine st_skip hs rfl rfl rfl rfl rfl fun a hs => ?_
  refine st_skip hs rfl rfl rfl rfl rfl fun a hs => ?_
  refine st_skip hs rfl rfl rfl rfl rfl fun a hs => ?_
  refine st_skip hs rfl rfl rfl rfl rfl fun a hs => ?_
  refine sv hs (y_pickF rfl rfl) rfl fun a hs => ?_
  refine nl ?_
  exact ⟨rfl, (hs.fix 44 (.bool (((((((a1.Source.Network == b5.Source.Network) && ((a1.Source.Station == b5.Source.Station) && ((a1.Source.Location == b5.Source.Location) && ((a1.Source.Channel == b5.Source.Channel) && true)))) && (a1.Start == b5.Start)) && (a1.First == b5.First)) && ((a1.Rate.Num == b5.Rate.Num) && ((a1.Rate.Den == b5.Rate.Den) && true))) && (a1.Error == b5.Error)) && (a1.Run == b5.Run))) rfl (and_f h15)).weaken _ ⟨rfl, rfl, rfl, trivial⟩⟩
 rintro a w1 ⟨h35, hs⟩
 subst h35
 refine mv hs rfl rfl fun a hs => ?_
 refine wpl_join 6 (fun a w1 => w = w1 ∧ Sl 59 [(2, .pointer (some ⟨b9, 0, none⟩)), (3, .pointer (some ⟨b10, 0, none⟩)), (51, .bool ((((((((a1.Source.Network == b5.Source.Network) && ((a1.Source.Station == b5.Source.Station) && ((a1.Source.Location == b5.Source.Location) && ((a1.Source.Channel == b5.Source.Channel) && true)))) && (a1.Start == b5.Start)) && (a1.First == b5.First)) && ((a1.Rate.Num == b5.Rate.Num) && ((a1.Rate.Den == b5.Rate.Den) && true))) && (a1.Error == b5.Error)) && (a1.Run == b5.Run)) && (a1.Seq == b5.Seq)))] a) ?_ ?_
 ·rcases Bool.eq_false_or_eq_true (((((((a1.Source.Network == b5.Source.Network) && ((a1.Source.Station == b5.Source.Station) && ((a1.Source.Location == b5.Source.Location) && ((a1.Source.Channel == b5.Source.Channel) && true)))) && (a1.Start == b5.Start)) && (a1.First == b5.First)) && ((a1.Rate.Num == b5.Rate.Num) && ((a1.Rate.Den == b5.Rate.Den) && true))) && (a1.Error == b5.Error)) && (a1.Run == b5.Run)) with h16 | h16
  ·have hs := hs.fix 45 (.bool true) rfl (vb h16)
   refine st_val hs (y_fieldAddr (o' := 10) Tryz.runUnderlying35 rfl Tryz.sizeOf3 rfl rfl rfl) ⟨_, rfl, rfl⟩ rfl rfl fun a hs => ?_
   refine st_val hs (y_loadB1 (hw.ownAt 1 rfl) rfl Tryz.isAgg3 rfl) ⟨_, rfl, rfl⟩ rfl rfl fun a hs => ?_
   refine st_val hs (y_fieldAddr (o' := 10) Tryz.runUnderlying35 rfl Tryz.sizeOf3 rfl rfl rfl) ⟨_, rfl, rfl⟩ rfl rfl fun a hs => ?_
   refine st_val hs (y_loadB1 (hw.ownAt 0 rfl) rfl Tryz.isAgg3 rfl) ⟨_, rfl, rfl⟩ rfl rfl fun a hs => ?_
   refine st_val hs (y_eql rfl rfl) ⟨_, rfl, rfl⟩ rfl rfl fun a hs => ?_
   refine sv hs (y_pickT rfl rfl) rfl fun a hs => ?_
   refine nl ?_
   exact ⟨rfl, (hs.fix 51 (.bool ((((((((a1.Source.Network == b5.Source.Network) && ((a1.Source.Station == b5.Source.Station) && ((a1.Source.Location == b5.Source.Location) && ((a1.Source.Channel == b5.Source.Channel) && true)))) && (a1.Start == b5.Start)) && (a1.First == b5.First)) && ((a1.Rate.Num == b5.Rate.Num) && ((a1.Rate.Den == b5.Rate.Den) && true))) && (a1.Error == b5.Error)) && (a1.Run == b5.Run)) && (a1.Seq == b5.Seq))) rfl (and_t h16)).weaken _ ⟨rfl, rfl, rfl, trivial⟩⟩
  have hs := hs.fix 45 (.bool false) rfl (vb h16)
  refine st_skip hs rfl rfl rfl rfl rfl fun a hs => ?_
  refine st_skip hs rfl rfl rfl rfl rfl fun a hs => ?_
  refine st_skip hs rfl rfl rfl rfl rfl fun a hs => ?_
  refine st_skip hs rfl rfl rfl rfl rfl fun a hs => ?_
  refine st_skip hs rfl rfl rfl rfl rfl fun a hs => ?_
  refine sv hs (y_pickF rfl rfl) rfl fun a hs => ?_
  refine nl ?_
  exact ⟨rfl, (hs.fix 51 (.bool ((((((((a1.Source.Network == b5.Source.Network) && ((a1.Source.Station == b5.Source.Station) && ((a1.Source.Location == b5.Source.Location) && ((a1.Source.Channel == b5.Source.Channel) && true)))) && (a1.Start == b5.Start)) && (a1.First == b5.First)) && ((a1.Rate.Num == b5.Rate.Num) && ((a1.Rate.Den == b5.Rate.Den) && true))) && (a1.Error == b5.Error)) && (a1.Run == b5.Run)) && (a1.Seq == b5.Seq))) rfl (and_f h16)).weaken _ ⟨rfl, rfl, rfl, trivial⟩⟩
 rintro a w1 ⟨h34, hs⟩
 subst h34
 refine mv hs rfl rfl fun a hs => ?_
 obtain ⟨c25, hc25, hsh⟩ := bind_t hsh
 refine wpl_join 6 (fun a w => ∃ (Sv26 : Nat → Prop), Sl 59 [(58, .bool c25)] a ∧ Wd ⟨w0, S0, []⟩ Sv26 [] [] w) ?_ ?_
 ·rcases Bool.eq_false_or_eq_true ((((((((a1.Source.Network == b5.Source.Network) && ((a1.Source.Station == b5.Source.Station) && ((a1.Source.Location == b5.Source.Location) && ((a1.Source.Channel == b5.Source.Channel) && true)))) && (a1.Start == b5.Start)) && (a1.First == b5.First)) && ((a1.Rate.Num == b5.Rate.Num) && ((a1.Rate.Den == b5.Rate.Den) && true))) && (a1.Error == b5.Error)) && (a1.Run == b5.Run)) && (a1.Seq == b5.Seq)) with h24 | h24
  ·have hs := hs.fix 52 (.bool true) rfl (vb h24)
   have hsh := ite_t hc25 h24
   refine st_val hs (y_fieldAddr (o' := 11) Tryz.runUnderlying35 rfl Tryz.sizeOf22 rfl rfl rfl) ⟨_, rfl, rfl⟩ rfl rfl fun a hs => ?_
   refine st_val hs (y_loadB1 (hw.ownAt 1 rfl) rfl Tryz.isAgg22 rfl) ⟨_, rfl, rfl⟩ rfl rfl fun a hs => ?_
   refine st_val hs (y_fieldAddr (o' := 11) Tryz.runUnderlying35 rfl Tryz.sizeOf22 rfl rfl rfl) ⟨_, rfl, rfl⟩ rfl rfl fun a hs => ?_
   refine st_val hs (y_loadB1 (hw.ownAt 0 rfl) rfl Tryz.isAgg22 rfl) ⟨_, rfl, rfl⟩ rfl rfl fun a hs => ?_
   obtain ⟨rv28, h27, hsh⟩ := bind_t hsh
   refine st_callR hs (ref05_Same_ok h27 hw.bdom (hw.bE 1 rfl) (hw.bE 0 rfl)) (do_call Tryz.call50 rfl) ⟨_, rfl, rfl⟩ rfl rfl ?_
   intro v32 Sv29 w a h30 h31 hs
   subst h31
   have hw := hw.callB h30
   refine sv hs (y_pickT rfl rfl) rfl fun a hs => ?_
   refine wpList_nil ?_
   have hsh := oi hsh
   subst hsh
   refine then_normal ?_
   exact ⟨S0, (hs.wk rfl), (hw.ft [] [] (by decide) rfl rfl)⟩
  have hs := hs.fix 52 (.bool false) rfl (vb h24)
  have hsh := ite_f hc25 h24
  refine st_skip hs rfl rfl rfl rfl rfl fun a hs => ?_
  refine st_skip hs rfl rfl rfl rfl rfl fun a hs => ?_
  refine st_skip hs rfl rfl rfl rfl rfl fun a hs => ?_
  refine st_skip hs rfl rfl rfl rfl rfl fun a hs => ?_
  refine st_skip hs rfl rfl rfl rfl rfl fun a hs => ?_
  refine sv hs (y_pickF rfl rfl) rfl fun a hs => ?_
  refine wpList_nil ?_
  have hsh := oi hsh
  subst hsh
  refine then_normal ?_
  exact ⟨S0, (hs.wk rfl), (hw.ft [] [] (by decide) rfl rfl)⟩
 rintro a w ⟨Sv26, hs, hw⟩
 refine av hs rfl rfl fun a hs => ?_
 refine nl ?_
 have hsh := oi hsh
 subst hsh
 refine wp_ret ?_
 exact ret1 hs rfl (rv_tmp rfl) (hw.ret rfl)

abbrev ref14_SameList_rd (w0 : World) (X : List Nat) (r : Bool) : (Nat → Prop) → World → Value → Prop := fun S w v => v = .bool r
set_option maxHeartbeats 4000000 in
set_option maxRecDepth 100000 in
theorem ref14_SameList_ok {w0 : World} {S0 : Nat → Prop} {p2 : Option Addr} {k3 : Nat} {p6 : Option Addr} {k7 : Nat} {a1 : (List Record)} {b5 : (List Record)} {r : Bool} (hsh : ref14_SameList a1 b5 = some r) (hS : ∀ b, S0 b → b < w0.heap.size) (h4 : (SlA p2 a1.length k3 a1).p S0 w0) (h8 : (SlA p6 b5.length k7 b5).p S0 w0) : Calls Tryz.prog 18 #[.slice p2 a1.length k3, .slice p6 b5.length k7] w0 (Ret ([]) w0 S0 (ref14_SameList_rd w0 ([]) r)) := by
 refine calls_of_wp Tryz.func18 rfl ?_
 have hs := Sl.enter #[.slice p2 a1.length k3, .slice p6 b5.length k7] 27 [(0, .slice p2 a1.length k3), (1, .slice p6 b5.length k7)] rfl ⟨rfl, rfl, trivial⟩
 have hw := Wd.enter (E := []) hS (fun _ h => (by cases h))
 have hw := hw.addE h4
 have hw := hw.addE h8
 delta ref14_SameList at hsh
 refine sr ?_
 refine av hs rfl rfl fun a hs => ?_
 refine nl ?_
 refine wp_seq ?_
 refine sr ?_
 refine mv hs rfl rfl fun a hs => ?_
 refine sv hs (y_len Tryz.runUnderlying27 rfl) rfl fun a hs => ?_
 refine mv hs rfl rfl fun a hs => ?_
 refine sv hs (y_len Tryz.runUnderlying27 rfl) rfl fun a hs => ?_
 refine sv hs (y_neq rfl rfl) rfl fun a hs => ?_
 refine nl ?_
 refine wp_cond_split (hs.ev rfl) (fun h10 => ?_) (fun h10 => ?_)
 ·have hsh := ite_t hsh h10
  refine sr ?_
  refine av hs rfl rfl fun a hs => ?_
  refine nl ?_
  have hsh := oi hsh
  subst hsh
  refine wp_ret ?_
  refine then_ret ?_
  exact ret1 hs rfl (rv_tmp rfl) (hw.ret rfl)
 have hsh := ite_f hsh h10
 refine wp_skip ?_
 refine then_normal ?_
 refine wp_seq ?_
 refine sr ?_
 refine av hs rfl rfl fun a hs => ?_
 refine nl ?_
 refine wp_block ?_
 refine wp_while (fun sv139 a w => ∃ (Sv223 : Nat → Prop), Sl 27 [(0, .slice p2 a1.length k3), (1, .slice p6 b5.length k7), (5, .int .i64 sv139)] a ∧ Wd ⟨w0, S0, []⟩ Sv223 [] [SlA p2 a1.length k3 a1, SlA p6 b5.length k7 b5] w) 0 hsh ⟨S0, (hs.wk rfl), (hw.ft [] [1, 0] (by decide) rfl rfl)⟩ ?_
 repeat clear hsh
 rintro sv139 a w tv266 ⟨Sv223, hs, hw⟩ hsh hd265
 delta ref14_SameList_l2 at hsh
 refine wp_seq ?_
 refine sr ?_
 refine mv hs rfl rfl fun a hs => ?_
 refine mv hs rfl rfl fun a hs => ?_
 refine sv hs (y_len Tryz.runUnderlying27 rfl) rfl fun a hs => ?_
 refine sv hs (y_lss rfl rfl) rfl fun a hs => ?_
 refine nl ?_
 refine wp_cond_split (hs.ev rfl) (fun h270 => ?_) (fun h270 => ?_)
 ·have hsh := ite_t hsh h270
  refine wp_skip ?_
  refine then_normal ?_
  refine wp_seq ?_
  refine wp_block ?_
  refine wp_seq ?_
  obtain ⟨x311, h309, hsh⟩ := bind_t hsh
  obtain ⟨b317, o318, q315, c316, h319, h312, h313, h314, h310⟩ := hw.elemV 0 rfl h309
  have hsv320 := hs
  have hwv321 := hw
  subst h319
  have hs := hsv320
  have hw := hwv321
  obtain ⟨_, _, _, _, _, _, _, _, _, _, _, _, rfl, rfl, rfl, rfl, rfl, rfl, rfl, rfl, rfl, rfl, rfl, rfl, ⟨p322, n323, k324, rfl, h325⟩⟩ := h310
  obtain rfl := h325.1
  have hw := hw.addE (e := SlA p322 _ k324 x311.Samples) h325
  have hw := hw.addE h314
  obtain ⟨x328, h326, hsh⟩ := bind_t hsh
  obtain ⟨b334, o335, q332, c333, h336, h329, h330, h331, h327⟩ := hw.elemV 3 rfl h326
  have hsv337 := hs
  have hwv338 := hw
  subst h336
  have hs := hsv337
  have hw := hwv338
  obtain ⟨_, _, _, _, _, _, _, _, _, _, _, _, rfl, rfl, rfl, rfl, rfl, rfl, rfl, rfl, rfl, rfl, rfl, rfl, ⟨p339, n340, k341, rfl, h342⟩⟩ := h327
  obtain rfl := h342.1
  have hw := hw.addE (e := SlA p339 _ k341 x328.Samples) h342
  have hw := hw.addE h331
  obtain ⟨rv344, h343, hsh⟩ := bind_t hsh
  refine wp_only (fun a w => ∃ (Sv345 : Nat → Prop), Sl 27 [(0, .slice (some ⟨b317, o318, none⟩) a1.length k3), (1, .slice (some ⟨b334, o335, none⟩) b5.length k7), (5, .int .i64 sv139), (26, .bool (!rv344))] a ∧ Wd ⟨w0, S0, []⟩ Sv345 [] [SlA (some ⟨b317, o318, none⟩) a1.length k3 a1, SlA (some ⟨b334, o335, none⟩) b5.length k7 b5] w) ?_ ?_
  ·refine h_b (C := Cls [] [CeA b334 q332 [.string x328.Source.Network, .string x328.Source.Station, .string x328.Source.Location, .string x328.Source.Channel, .int .i64 x328.Start, .int .i64 x328.First, .int .i64 x328.Rate.Num, .int .i64 x328.Rate.Den, .int .i64 x328.Error, .int .i64 x328.Run, .int .i64 x328.Seq, .slice p339 x328.Samples.length k341], CeA b317 q315 [.string x311.Source.Network, .string x311.Source.Station, .string x311.Source.Location, .string x311.Source.Channel, .int .i64 x311.Start, .int .i64 x311.First, .int .i64 x311.Rate.Num, .int .i64 x311.Rate.Den, .int .i64 x311.Error, .int .i64 x311.Run, .int .i64 x311.Seq, .slice p322 x311.Samples.length k324]]) (by kernel_rfl) rfl (hw.drew.cs [] [0, 2] rfl rfl) fun hC => ?_
   have hw := hw.drew
   refine gm hs 0 rfl rfl rfl hC fun a hs => ?_
   refine gm hs 1 rfl rfl rfl hC fun a hs => ?_
   refine gv hs 2 rfl rfl hC (fun w hC => y_indexAt Tryz.runUnderlying27 Tryz.sizeOf35 rfl rfl h312.1 h312.2 h313) fun a hs => ?_
   refine gv hs 3 rfl rfl hC (fun w hC => y_loadEA (j := 0) (hC.ceAt 1 rfl) rfl Tryz.isAgg35 Tryz.sizeOf35 rfl rfl) fun a hs => ?_
   refine gm hs 4 rfl rfl rfl hC fun a hs => ?_
   refine gm hs 5 rfl rfl rfl hC fun a hs => ?_
   refine gv hs 6 rfl rfl hC (fun w hC => y_indexAt Tryz.runUnderlying27 Tryz.sizeOf35 rfl rfl h329.1 h329.2 h330) fun a hs => ?_
   refine gv hs 7 rfl rfl hC (fun w hC => y_loadEA (j := 0) (hC.ceAt 0 rfl) rfl Tryz.isAgg35 Tryz.sizeOf35 rfl rfl) fun a hs => ?_
   refine ho 8 rfl ?_
   refine st_callR hs (ref14_Same_ok h343 hw.bdom (hw.bE 3 rfl) (hw.bE 1 rfl)) (do_call Tryz.call20 rfl) trivial rfl rfl ?_
   intro v349 Sv346 w a h347 h348 hs
   subst h348
   have hw := hw.callB h347
   refine h_nx (hw.cs [] [0, 2] rfl rfl) fun hC => ?_
   refine gv hs 9 rfl rfl hC (fun w hC => y_not rfl) fun a hs => ?_
   refine h_done (by kernel_rfl) ?_
   exact ⟨Sv223, (hs.wk rfl), (hw.ft [] [4, 5] (by decide) rfl rfl)⟩
  rintro a w ⟨Sv345, hs, hw⟩
  refine then_normal ?_
  refine wp_cond_split (hs.ev rfl) (fun h352 => ?_) (fun h352 => ?_)
  ·have hsh := ite_t hsh h352
   refine sr ?_
   refine av hs rfl rfl fun a hs => ?_
   refine nl ?_
   have hsh := oi hsh
   subst hsh
   have h353 := hd265 _ rfl
   subst h353
   refine wp_ret ?_
   refine blk_ret ?_
   refine then_ret ?_
   refine then_ret ?_
   refine blk_ret ?_
   refine then_ret ?_
   exact ret1 hs rfl (rv_tmp rfl) (hw.ret rfl)
  have hsh := ite_f hsh h352
  refine wp_skip ?_
  refine blk_normal ?_
  refine then_normal ?_
  refine wp_region_lit ?_
  refine mv hs rfl rfl fun a hs => ?_
  refine sv hs (y_add rfl rfl) rfl fun a hs => ?_
  obtain ⟨i355, h354, hsh⟩ := bind_t hsh
  refine sv hs (y_assignI rfl h354) rfl fun a hs => ?_
  refine nl ?_
  exact ⟨_, (Option.some.inj hsh).symm, Sv345, (hs.wk rfl), (hw.ft [] [0, 1] (by decide) rfl rfl)⟩
 have hsh := ite_f hsh h270
 obtain ⟨rv356, hsh, h357⟩ := map_t hsh
 have h357 := (hd265 _ h357.symm).symm
 subst h357
 refine wp_exit ?_
 refine then_exit ?_
 refine then_exit ?_
 refine blk_exit ?_
 refine then_normal ?_
 refine sr ?_
 refine av hs rfl rfl fun a hs => ?_
 refine nl ?_
 have hsh := oi hsh
 subst hsh
 refine wp_ret ?_
 exact ret1 hs rfl (rv_tmp rfl) (hw.ret rfl)

abbrev law15_ComposeApart_rd (w0 : World) (X : List Nat) (r : Bool) : (Nat → Prop) → World → Value → Prop := fun S w v => v = .bool r
set_option maxHeartbeats 4000000 in
set_option maxRecDepth 100000 in
theorem law15_ComposeApart_ok {w0 : World} {S0 : Nat → Prop} {p2 : Option Addr} {k3 : Nat} {t1 : (List Int)} {r : Bool} (hsh : law15_ComposeApart t1 = some r) (hS : ∀ b, S0 b → b < w0.heap.size) (h4 : (SlA p2 t1.length k3 t1).p S0 w0) : Calls Tryz.prog 3 #[.slice p2 t1.length k3] w0 (Ret ([]) w0 S0 (law15_ComposeApart_rd w0 ([]) r)) := by
 refine calls_of_wp Tryz.func3 rfl ?_
 have hs := Sl.enter #[.slice p2 t1.length k3] 85 [(0, .slice p2 t1.length k3)] rfl ⟨rfl, trivial⟩
 have hw := Wd.enter (E := []) hS (fun _ h => (by cases h))
 have hw := hw.addE h4
 delta law15_ComposeApart at hsh
 refine sr ?_
 refine av hs rfl rfl fun a hs => ?_
 refine nl ?_
 refine wp_seq ?_
 refine sr ?_
 refine mv hs rfl rfl fun a hs => ?_
 obtain ⟨rv6, h5, hsh⟩ := bind_t hsh
 refine st_callR hs (made_Light_ok h5 hw.bdom (hw.bE 0 rfl)) (do_call Tryz.call11 rfl) trivial rfl rfl ?_
 intro v10 Sv7 w a h8 h9 hs
 subst h9
 have hw := hw.callB h8
 refine sv hs (y_not rfl) rfl fun a hs => ?_
 refine nl ?_
 refine wp_cond_split (hs.ev rfl) (fun h20 => ?_) (fun h20 => ?_)
 ·have hsh := ite_t hsh h20
  refine sr ?_
  obtain ⟨rv22, h21, hsh⟩ := bind_t hsh
  refine st_callR hs (law15_sane_ok h21 hw.bdom) (do_call Tryz.call12 rfl) trivial rfl rfl ?_
  intro v26 Sv23 w a h24 h25 hs
  subst h25
  have hw := hw.callB h24
  refine av hs rfl rfl fun a hs => ?_
  refine nl ?_
  have hsh := oi hsh
  subst hsh
  refine wp_ret ?_
  refine then_ret ?_
  exact ret1 hs rfl (rv_tmp rfl) (hw.ret rfl)
 have hsh := ite_f hsh h20
 refine wp_skip ?_
 refine then_normal ?_
 refine sr ?_
 refine mv hs rfl rfl fun a hs => ?_
 obtain ⟨rv29, h28, hsh⟩ := bind_t hsh
 refine st_callR hs (made_Roll_ok h28 hw.dom (hw.envAt 0 rfl)) (do_call Tryz.call13 rfl) trivial rfl rfl ?_
 intro v37 Sv34 w a h35 h36 hs
 obtain ⟨b30, p31, k32, rfl, h38, h33⟩ := h36
 have hw := hw.callN h35 h38
 have hw := hw.addE (e := SlA p31 rv29.L.length k32 rv29.L) h33
 refine av hs rfl rfl fun a hs => ?_
 refine nl ?_
 refine sr ?_
 refine mv hs rfl rfl fun a hs => ?_
 obtain ⟨rv40, h39, hsh⟩ := bind_t hsh
 refine st_callR hs (made_Dice_Records_ok h39 hw.dom (hw.ins [0] (by decide) rfl) (hw.envAt 0 rfl)) (do_call Tryz.call14 rfl) trivial rfl rfl ?_
 intro v51 Sv48 w a h49 h50 hs
 obtain ⟨p41, k42, c44, p45, k46, rfl, h52, h43, h47⟩ := h50
 have hw := hw.callO [0] [] (by decide) rfl h49 h52
 have hw := hw.addE (e := RowA c44 rv40.1) h43
 have hw := hw.addE (e := SlA p45 rv40.2.L.length k46 rv40.2.L) h47
 refine av hs rfl rfl fun a hs => ?_
 refine nl ?_
 refine wp_seq ?_
 refine sr ?_
 refine mv hs rfl rfl fun a hs => ?_
 refine sv hs (y_len Tryz.runUnderlying27 rfl) rfl fun a hs => ?_
 refine sv hs (y_eql rfl rfl) rfl fun a hs => ?_
 refine nl ?_
 refine wp_cond_split (hs.ev rfl) (fun h61 => ?_) (fun h61 => ?_)
 ·have hsh := ite_t hsh h61
  refine sr ?_
  obtain ⟨rv63, h62, hsh⟩ := bind_t hsh
  refine st_callR hs (law15_sane_ok h62 hw.bdom) (do_call Tryz.call12 rfl) trivial rfl rfl ?_
  intro v67 Sv64 w a h65 h66 hs
  subst h66
  have hw := hw.callB h65
  refine av hs rfl rfl fun a hs => ?_
  refine nl ?_
  have hsh := oi hsh
  subst hsh
  refine wp_ret ?_
  refine then_ret ?_
  exact ret1 hs rfl (rv_tmp rfl) (hw.ret rfl)
 have hsh := ite_f hsh h61
 refine wp_skip ?_
 refine then_normal ?_
 refine sr ?_
 refine av hs rfl rfl fun a hs => ?_
 refine nl ?_
 refine wp_seq ?_
 refine sr ?_
 refine mv hs rfl rfl fun a hs => ?_
 obtain ⟨rv70, h69, hsh⟩ := bind_t hsh
 refine st_callR hs (made_Dice_Next_ok h69 hw.dom (hw.ins [1] (by decide) rfl) (hw.envAt 0 rfl)) (do_call Tryz.call15 rfl) trivial rfl rfl ?_
 intro v77 Sv74 w a h75 h76 hs
 obtain ⟨p71, k72, rfl, h78, h73⟩ := h76
 have hw := hw.callO [1] [0] (by decide) rfl h75 h78
 have hw := hw.addE (e := SlA p71 rv70.2.L.length k72 rv70.2.L) h73
 refine av hs rfl rfl fun a hs => ?_
 refine nl ?_
 obtain ⟨e224, h418, hsh⟩ := bind_t hsh
 refine wp_join (fun a w => ∃ (c225 : List Value) (p226 : Option Addr) (k227 : Nat) (Sv228 : Nat → Prop), Sl 85 [(4, .slice p41 rv40.1.length k42), (5, .slice p226 e224.length k227)] a ∧ Wd ⟨w0, S0, []⟩ Sv228 [.row p41 rv40.1.length k42 c44 35 12, .row p226 e224.length k227 c225 35 12] [RowA c44 rv40.1, RowA c225 e224] w) ?_ ?_
 ·refine wp_block ?_
  have hw := hw.nilRow Record 35
  refine wp_while (fun sv79 a w => ∃ (p172 : Option Addr) (k173 : Nat) (c174 : List Value) (p175 : Option Addr) (k176 : Nat) (Sv177 : Nat → Prop), Sl 85 [(3, .pointer (some ⟨b30, 0, none⟩)), (4, .slice p41 rv40.1.length k42), (5, .slice p175 sv79.2.2.1.length k176), (6, .int .i64 sv79.2.2.2)] a ∧ Wd ⟨w0, S0, []⟩ Sv177 [.box b30 [.slice p172 sv79.1.length k173, .int .i64 sv79.2.1] 75, .row p41 rv40.1.length k42 c44 35 12, .row p175 sv79.2.2.1.length k176 c174 35 12] [SlA p172 sv79.1.length k173 sv79.1, RowA c44 rv40.1, RowA c174 sv79.2.2.1] w) (rv70.2.L, rv70.2.At, ([] : List Record), rv70.1) h418 ⟨p71, k72, [], none, 0, Sv74, (hs.wk rfl), (hw.ft [1, 2, 0] [1, 3, 0] (by decide) rfl rfl)⟩ ?_
  clear h418
  repeat clear hsh
  rintro sv79 a w tv222 ⟨p172, k173, c174, p175, k176, Sv177, hs, hw⟩ hsh hd221
  delta law15_ComposeApart_l1 at hsh
  refine wp_seq ?_
  refine sr ?_
  refine mv hs rfl rfl fun a hs => ?_
  refine sv hs (y_gtr rfl rfl) rfl fun a hs => ?_
  refine nl ?_
  refine wp_cond_split (hs.ev rfl) (fun h230 => ?_) (fun h230 => ?_)
  ·have hsh := ite_t hsh h230
   refine wp_skip ?_
   refine then_normal ?_
   refine wp_seq ?_
   refine wp_block ?_
   refine sr ?_
   refine mv hs rfl rfl fun a hs => ?_
   refine mv hs rfl rfl fun a hs => ?_
   obtain ⟨x273, h271, hsh⟩ := bind_t hsh
   obtain ⟨b280, q277, c278, h281, h274, h275, h279, h272⟩ := hw.elemRV (α := Record) 1 rfl 1 rfl h271
   have hsv282 := hs
   have hwv283 := hw
   subst h281
   have hs := hsv282
   have hw := hwv283
   obtain ⟨_, _, _, _, _, _, _, _, _, _, _, _, rfl, rfl, rfl, rfl, rfl, rfl, rfl, rfl, rfl, rfl, rfl, rfl, ⟨p284, n285, k286, rfl, h287⟩⟩ := h272
   obtain rfl := h287.1
   have hw := hw.addE (e := SlA p284 _ k286 x273.Samples) h287
   refine sv hs (y_indexAt Tryz.runUnderlying27 Tryz.sizeOf35 rfl rfl h274.1 h274.2 h275) rfl fun a hs => ?_
   refine sv hs (y_fieldAddr (o' := q277 + 0) Tryz.runUnderlying35 rfl Tryz.sizeOf31 rfl rfl rfl) rfl fun a hs => ?_
   refine sv hs (y_loadQA (j := 0) (hw.ownAt 1 rfl) rfl Tryz.isAgg31 Tryz.sizeOf31 h279 rfl rfl) rfl fun a hs => ?_
   obtain ⟨rv289, h288, hsh⟩ := bind_t hsh
   refine st_callR hs (made_Dice_Record_ok h288 hw.dom (hw.ins [0] (by decide) rfl) (hw.envAt 1 rfl)) (do_call Tryz.call16 rfl) trivial rfl rfl ?_
   intro v300 Sv297 w a h298 h299 hs
   obtain ⟨p290, k291, c293, p294, k295, rfl, h301, h292, h296⟩ := h299
   have hw := hw.callO [0] [1, 2] (by decide) rfl h298 h301
   have hw := hw.addE (e := RowA c293 rv289.1.Samples) h292
   have hw := hw.addE (e := SlA p294 rv289.2.L.length k295 rv289.2.L) h296
   refine w_alloc (cs := [.string ByteArray.empty, .string ByteArray.empty, .string ByteArray.empty, .string ByteArray.empty, .int .i64 0, .int .i64 0, .int .i64 0, .int .i64 0, .int .i64 0, .int .i64 0, .int .i64 0, .slice none ([] : List Int).length 0]) hs hw Tryz.zeroValue35 rfl rfl trivial ?_
   intro b302 a w hs hw
   refine w_store (m := 12) (cs' := [.string rv289.1.Source.Network, .string rv289.1.Source.Station, .string rv289.1.Source.Location, .string rv289.1.Source.Channel, .int .i64 rv289.1.Start, .int .i64 rv289.1.First, .int .i64 rv289.1.Rate.Num, .int .i64 rv289.1.Rate.Den, .int .i64 rv289.1.Error, .int .i64 rv289.1.Run, .int .i64 rv289.1.Seq, .slice p290 rv289.1.Samples.length k291]) hs hw 0 rfl rfl rfl Tryz.sizeOf35 rfl rfl rfl rfl trivial ?_
   intro a w hs hw
   refine nl ?_
   refine sr ?_
   refine sv hs (y_fieldAddr (o' := 4) Tryz.runUnderlying35 rfl Tryz.sizeOf3 rfl rfl rfl) rfl fun a hs => ?_
   refine sv hs (y_loadB1 (hw.ownAt 0 rfl) rfl Tryz.isAgg3 rfl) rfl fun a hs => ?_
   refine sv hs (y_add rfl rfl) rfl fun a hs => ?_
   refine sv hs (y_fieldAddr (o' := 4) Tryz.runUnderlying35 rfl Tryz.sizeOf3 rfl rfl rfl) rfl fun a hs => ?_
   refine w_store (m := 1) (cs' := [.string rv289.1.Source.Network, .string rv289.1.Source.Station, .string rv289.1.Source.Location, .string rv289.1.Source.Channel, .int .i64 (w64 (rv289.1.Start + 1000000000)), .int .i64 rv289.1.First, .int .i64 rv289.1.Rate.Num, .int .i64 rv289.1.Rate.Den, .int .i64 rv289.1.Error, .int .i64 rv289.1.Run, .int .i64 rv289.1.Seq, .slice p290 rv289.1.Samples.length k291]) hs hw 0 rfl rfl rfl Tryz.sizeOf3 rfl rfl rfl rfl trivial ?_
   intro a w hs hw
   refine nl ?_
   refine wp_region_lit ?_
   refine mv hs rfl rfl fun a hs => ?_
   refine sv hs (y_loadBA (hw.ownAt 0 rfl) rfl Tryz.isAgg35 Tryz.sizeOf35 rfl rfl) rfl fun a hs => ?_
   obtain ⟨Sv305, hw⟩ := w_share (α := Int) hw 1 rfl 1 rfl
   refine w_litSlice (α := Record) (vs := [.agg #[.string rv289.1.Source.Network, .string rv289.1.Source.Station, .string rv289.1.Source.Location, .string rv289.1.Source.Channel, .int .i64 (w64 (rv289.1.Start + 1000000000)), .int .i64 rv289.1.First, .int .i64 rv289.1.Rate.Num, .int .i64 rv289.1.Rate.Den, .int .i64 rv289.1.Error, .int .i64 rv289.1.Run, .int .i64 rv289.1.Seq, .slice p290 rv289.1.Samples.length k291]]) (cs := [.string rv289.1.Source.Network, .string rv289.1.Source.Station, .string rv289.1.Source.Location, .string rv289.1.Source.Channel, .int .i64 (w64 (rv289.1.Start + 1000000000)), .int .i64 rv289.1.First, .int .i64 rv289.1.Rate.Num, .int .i64 rv289.1.Rate.Den, .int .i64 rv289.1.Error, .int .i64 rv289.1.Run, .int .i64 rv289.1.Seq, .slice p290 rv289.1.Samples.length k291]) (xs := ([(⟨rv289.1.Source, (w64 (rv289.1.Start + 1000000000)), rv289.1.First, rv289.1.Rate, rv289.1.Error, rv289.1.Run, rv289.1.Seq, rv289.1.Samples⟩ : Record)] : List Record)) hs hw El27 rfl rfl rfl rfl rfl rfl ⟨⟨_, _, _, _, _, _, _, _, _, _, _, _, rfl, rfl, rfl, rfl, rfl, rfl, rfl, rfl, rfl, rfl, rfl, rfl, ⟨_, _, _, rfl, hw.envAt 0 rfl⟩⟩, rfl⟩ rfl trivial rfl fun b304 a w hs hw => ?_
   obtain ⟨l307, h306, hsh⟩ := bind_t hsh
   refine w_appendR (α := Record) hs hw El27 4 rfl rfl rfl 7 rfl 0 rfl 0 rfl h306 rfl trivial ?_
   intro p308 k309 c310 a w hs hw
   refine av hs rfl rfl fun a hs => ?_
   refine wpList_nil ?_
   refine blk_normal ?_
   refine then_normal ?_
   refine wp_region_lit ?_
   refine mv hs rfl rfl fun a hs => ?_
   refine sv hs (y_sub rfl rfl) rfl fun a hs => ?_
   obtain ⟨i312, h311, hsh⟩ := bind_t hsh
   refine sv hs (y_assignI rfl h311) rfl fun a hs => ?_
   refine nl ?_
   exact ⟨_, (Option.some.inj hsh).symm, p294, k295, c310, p308, k309, Sv305, (hs.wk rfl), (hw.ft [2, 3, 4] [3, 7, 0] (by decide) rfl rfl)⟩
  have hsh := ite_f hsh h230
  refine wp_exit ?_
  refine then_exit ?_
  refine then_exit ?_
  refine blk_exit ?_
  have hsh := oi hsh
  subst hsh
  have h313 := hd221 _ rfl
  subst h313
  refine then_normal ?_
  exact ⟨c174, p175, k176, Sv177, (hs.wk rfl), (hw.ft [1, 2] [1, 2] (by decide) rfl rfl)⟩
 rintro a w ⟨c225, p226, k227, Sv228, hs, hw⟩
 refine then_normal ?_
 refine sr ?_
 refine mv hs rfl rfl fun a hs => ?_
 obtain ⟨rv315, h314, hsh⟩ := bind_t hsh
 obtain ⟨Sv320, hw⟩ := w_share (α := Record) hw 0 rfl 0 rfl
 refine st_callR hs (compose_Compose_ok h314 hw.dom (hw.envAt 0 rfl)) (do_call Tryz.call17 rfl) trivial rfl rfl ?_
 intro v324 Sv321 w a h322 h323 hs
 obtain ⟨p316, k317, c319, rfl, h325, h318⟩ := h323
 have hw := hw.callN h322 h325
 have hw := hw.addE (e := RowA c319 rv315.1) h318
 refine mv hs rfl rfl fun a hs => ?_
 refine sv hs (y_extract rfl rfl) rfl fun a hs => ?_
 refine sv hs (y_extract rfl rfl) rfl fun a hs => ?_
 refine av hs rfl rfl fun a hs => ?_
 refine av hs rfl rfl fun a hs => ?_
 refine nl ?_
 refine sr ?_
 refine mv hs rfl rfl fun a hs => ?_
 obtain ⟨rv327, h326, hsh⟩ := bind_t hsh
 obtain ⟨Sv332, hw⟩ := w_share (α := Record) hw 1 rfl 3 rfl
 refine st_callR hs (compose_Compose_ok h326 hw.dom (hw.envAt 0 rfl)) (do_call Tryz.call17 rfl) trivial rfl rfl ?_
 intro v336 Sv333 w a h334 h335 hs
 obtain ⟨p328, k329, c331, rfl, h337, h330⟩ := h335
 have hw := hw.callN h334 h337
 have hw := hw.addE (e := RowA c331 rv327.1) h330
 refine mv hs rfl rfl fun a hs => ?_
 refine sv hs (y_extract rfl rfl) rfl fun a hs => ?_
 refine sv hs (y_extract rfl rfl) rfl fun a hs => ?_
 refine av hs rfl rfl fun a hs => ?_
 refine av hs rfl rfl fun a hs => ?_
 refine nl ?_
 refine sr ?_
 refine mv hs rfl rfl fun a hs => ?_
 obtain ⟨l339, h338, hsh⟩ := bind_t hsh
 have hw := hw.nilRow Record 35
 refine w_appendE (α := Record) hs hw El27 0 rfl rfl rfl 0 rfl 2 rfl h338 rfl trivial ?_
 intro p340 k341 c342 a w hs hw
 refine mv hs rfl rfl fun a hs => ?_
 obtain ⟨l344, h343, hsh⟩ := bind_t hsh
 refine w_appendE (α := Record) hs hw El27 0 rfl rfl rfl 0 rfl 5 rfl h343 rfl trivial ?_
 intro p345 k346 c347 a w hs hw
 obtain ⟨rv349, h348, hsh⟩ := bind_t hsh
 obtain ⟨Sv354, hw⟩ := w_share (α := Record) hw 0 rfl 0 rfl
 refine st_callR hs (compose_Compose_ok h348 hw.dom (hw.envAt 0 rfl)) (do_call Tryz.call17 rfl) trivial rfl rfl ?_
 intro v358 Sv355 w a h356 h357 hs
 obtain ⟨p350, k351, c353, rfl, h359, h352⟩ := h357
 have hw := hw.callN h356 h359
 have hw := hw.addE (e := RowA c353 rv349.1) h352
 refine mv hs rfl rfl fun a hs => ?_
 refine sv hs (y_extract rfl rfl) rfl fun a hs => ?_
 refine sv hs (y_extract rfl rfl) rfl fun a hs => ?_
 refine av hs rfl rfl fun a hs => ?_
 refine av hs rfl rfl fun a hs => ?_
 refine nl ?_
 refine sr ?_
 refine mv hs rfl rfl fun a hs => ?_
 refine sv hs (y_eql rfl rfl) rfl fun a hs => ?_
 refine mv hs rfl rfl fun a hs => ?_
 refine wpl_join 3 (fun a w1 => w = w1 ∧ Sl 85 [(8, .slice p316 rv315.1.length k317), (10, .slice p328 rv327.1.length k329), (12, .slice p350 rv349.1.length k351), (13, .int .i64 rv349.2), (69, .bool ((rv315.2 == 0) && (rv327.2 == 0)))] a) ?_ ?_
 ·rcases Bool.eq_false_or_eq_true (rv315.2 == 0) with h360 | h360
  ·have hs := hs.fix 66 (.bool true) rfl (vb h360)
   refine st_val hs (y_move rfl) ⟨_, rfl, rfl⟩ rfl rfl fun a hs => ?_
   refine st_val hs (y_eql rfl rfl) ⟨_, rfl, rfl⟩ rfl rfl fun a hs => ?_
   refine sv hs (y_pickT rfl rfl) rfl fun a hs => ?_
   refine nl ?_
   exact ⟨rfl, (hs.fix 69 (.bool ((rv315.2 == 0) && (rv327.2 == 0))) rfl (and_t h360)).weaken _ ⟨rfl, rfl, rfl, rfl, rfl, trivial⟩⟩
  have hs := hs.fix 66 (.bool false) rfl (vb h360)
  refine st_skip hs rfl rfl rfl rfl rfl fun a hs => ?_
  refine st_skip hs rfl rfl rfl rfl rfl fun a hs => ?_
  refine sv hs (y_pickF rfl rfl) rfl fun a hs => ?_
  refine nl ?_
  exact ⟨rfl, (hs.fix 69 (.bool ((rv315.2 == 0) && (rv327.2 == 0))) rfl (and_f h360)).weaken _ ⟨rfl, rfl, rfl, rfl, rfl, trivial⟩⟩
 rintro a w1 ⟨h417, hs⟩
 subst h417
 refine mv hs rfl rfl fun a hs => ?_
 refine wpl_join 3 (fun a w1 => w = w1 ∧ Sl 85 [(8, .slice p316 rv315.1.length k317), (10, .slice p328 rv327.1.length k329), (12, .slice p350 rv349.1.length k351), (73, .bool (((rv315.2 == 0) && (rv327.2 == 0)) && (rv349.2 == 0)))] a) ?_ ?_
 ·rcases Bool.eq_false_or_eq_true ((rv315.2 == 0) && (rv327.2 == 0)) with h361 | h361
  ·have hs := hs.fix 70 (.bool true) rfl (vb h361)
   refine st_val hs (y_move rfl) ⟨_, rfl, rfl⟩ rfl rfl fun a hs => ?_
   refine st_val hs (y_eql rfl rfl) ⟨_, rfl, rfl⟩ rfl rfl fun a hs => ?_
   refine sv hs (y_pickT rfl rfl) rfl fun a hs => ?_
   refine nl ?_
   exact ⟨rfl, (hs.fix 73 (.bool (((rv315.2 == 0) && (rv327.2 == 0)) && (rv349.2 == 0))) rfl (and_t h361)).weaken _ ⟨rfl, rfl, rfl, rfl, trivial⟩⟩
  have hs := hs.fix 70 (.bool false) rfl (vb h361)
  refine st_skip hs rfl rfl rfl rfl rfl fun a hs => ?_
  refine st_skip hs rfl rfl rfl rfl rfl fun a hs => ?_
  refine sv hs (y_pickF rfl rfl) rfl fun a hs => ?_
  refine nl ?_
  exact ⟨rfl, (hs.fix 73 (.bool (((rv315.2 == 0) && (rv327.2 == 0)) && (rv349.2 == 0))) rfl (and_f h361)).weaken _ ⟨rfl, rfl, rfl, rfl, trivial⟩⟩
 rintro a w1 ⟨h416, hs⟩
 subst h416
 refine mv hs rfl rfl fun a hs => ?_
 obtain ⟨c380, hc380, hsh⟩ := bind_t hsh
 refine wpl_join 7 (fun a w => ∃ (Sv381 : Nat → Prop), Sl 85 [(81, .bool c380)] a ∧ Wd ⟨w0, S0, []⟩ Sv381 [] [] w) ?_ ?_
 ·rcases Bool.eq_false_or_eq_true (((rv315.2 == 0) && (rv327.2 == 0)) && (rv349.2 == 0)) with h379 | h379
  ·have hs := hs.fix 74 (.bool true) rfl (vb h379)
   have hsh := ite_t hc380 h379
   refine st_val hs (y_move rfl) ⟨_, rfl, rfl⟩ rfl rfl fun a hs => ?_
   refine st_val hs (y_move rfl) ⟨_, rfl, rfl⟩ rfl rfl fun a hs => ?_
   obtain ⟨l383, h382, hsh⟩ := bind_t hsh
   have hw := hw.nilRow Record 35
   refine w_appendR (α := Record) hs hw El27 0 rfl rfl rfl 0 rfl 3 rfl 8 rfl h382 rfl ⟨_, rfl, rfl⟩ ?_
   intro p384 k385 c386 a w hs hw
   refine st_val hs (y_move rfl) ⟨_, rfl, rfl⟩ rfl rfl fun a hs => ?_
   obtain ⟨l388, h387, hsh⟩ := bind_t hsh
   refine w_appendR (α := Record) hs hw El27 0 rfl rfl rfl 0 rfl 2 rfl 7 rfl h387 rfl ⟨_, rfl, rfl⟩ ?_
   intro p389 k390 c391 a w hs hw
   obtain ⟨rv393, h392, hsh⟩ := bind_t hsh
   refine st_callR hs (ref14_SameList_ok h392 hw.bdom (hw.bRow 1 rfl 3 rfl) (hw.bRow 0 rfl 0 rfl)) (do_call Tryz.call18 rfl) ⟨_, rfl, rfl⟩ rfl rfl ?_
   intro v397 Sv394 w a h395 h396 hs
   subst h396
   have hw := hw.callB h395
   refine sv hs (y_pickT rfl rfl) rfl fun a hs => ?_
   refine wpList_nil ?_
   have hsh := oi hsh
   subst hsh
   refine then_normal ?_
   exact ⟨Sv355, (hs.wk rfl), (hw.ft [] [] (by decide) rfl rfl)⟩
  have hs := hs.fix 74 (.bool false) rfl (vb h379)
  have hsh := ite_f hc380 h379
  refine st_skip hs rfl rfl rfl rfl rfl fun a hs => ?_
  refine st_skip hs rfl rfl rfl rfl rfl fun a hs => ?_
  refine st_skip hs rfl rfl rfl rfl rfl fun a hs => ?_
  refine st_skip hs rfl rfl rfl rfl rfl fun a hs => ?_
  refine st_skip hs rfl rfl rfl rfl rfl fun a hs => ?_
  refine st_skip hs rfl rfl rfl rfl rfl fun a hs => ?_
  refine sv hs (y_pickF rfl rfl) rfl fun a hs => ?_
  refine wpList_nil ?_
  have hsh := oi hsh
  subst hsh
  refine then_normal ?_
  exact ⟨Sv355, (hs.wk rfl), (hw.ft [] [] (by decide) rfl rfl)⟩
 rintro a w ⟨Sv381, hs, hw⟩
 refine mv hs rfl rfl fun a hs => ?_
 obtain ⟨c407, hc407, hsh⟩ := bind_t hsh
 refine wpl_join 2 (fun a w => ∃ (Sv408 : Nat → Prop), Sl 85 [(84, .bool c407)] a ∧ Wd ⟨w0, S0, []⟩ Sv408 [] [] w) ?_ ?_
 ·rcases Bool.eq_false_or_eq_true c380 with h406 | h406
  ·have hs := hs.fix 82 (.bool true) rfl (vb h406)
   have hsh := ite_t hc407 h406
   obtain ⟨rv410, h409, hsh⟩ := bind_t hsh
   refine st_callR hs (law15_sane_ok h409 hw.bdom) (do_call Tryz.call12 rfl) ⟨_, rfl, rfl⟩ rfl rfl ?_
   intro v414 Sv411 w a h412 h413 hs
   subst h413
   have hw := hw.callB h412
   refine sv hs (y_pickT rfl rfl) rfl fun a hs => ?_
   refine wpList_nil ?_
   have hsh := oi hsh
   subst hsh
   refine then_normal ?_
   exact ⟨Sv381, (hs.wk rfl), (hw.ft [] [] (by decide) rfl rfl)⟩
  have hs := hs.fix 82 (.bool false) rfl (vb h406)
  have hsh := ite_f hc407 h406
  refine st_skip hs rfl rfl rfl rfl rfl fun a hs => ?_
  refine sv hs (y_pickF rfl rfl) rfl fun a hs => ?_
  refine wpList_nil ?_
  have hsh := oi hsh
  subst hsh
  refine then_normal ?_
  exact ⟨Sv381, (hs.wk rfl), (hw.ft [] [] (by decide) rfl rfl)⟩
 rintro a w ⟨Sv408, hs, hw⟩
 refine av hs rfl rfl fun a hs => ?_
 refine nl ?_
 have hsh := oi hsh
 subst hsh
 refine wp_ret ?_
 exact ret1 hs rfl (rv_tmp rfl) (hw.ret rfl)

end Go.Proofs.YthdimlepjpnncaaGreat.Wk

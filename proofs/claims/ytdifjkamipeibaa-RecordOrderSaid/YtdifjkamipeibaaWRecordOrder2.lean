/- The walks of RecordOrder, part 2: each Go function computes what its plain program computes. Printed by a program of ours. -/
import Derived.Test.YtdifjkamipeibaaProg
import Derived.Test.YtdifjkamipeibaaDat
import Derived.Test.YtdifjkamipeibaaSh
import Derived.Test.YtdifjkamipeibaaLibL
import Derived.KernelRfl
import Derived.Test.YtdifjkamipeibaaWRecordOrder1
namespace Go.Proofs.Ytdifjkamipeibaa.Wk
open Go Go.RowKit Go.Proofs Go.Proofs.Ytdifjkamipeibaa.Sh
set_option linter.unusedVariables false
set_option linter.unusedSimpArgs false

abbrev made_Dice_Record_rd (w0 : World) (X : List Nat) (b2 : Nat) (r : (Record × Dice)) : (Nat → Prop) → World → Value → Prop := fun S w v => ∃ (p0_11 : Option Addr) (k0_11 : Nat) (c0_11 : List Value) (pq0_0 : Option Addr) (kq0_0 : Nat), v = .agg #[.string r.1.Source.Network, .string r.1.Source.Station, .string r.1.Source.Location, .string r.1.Source.Channel, .int .i64 r.1.Start, .int .i64 r.1.First, .int .i64 r.1.Rate.Num, .int .i64 r.1.Rate.Den, .int .i64 r.1.Error, .int .i64 r.1.Run, .int .i64 r.1.Seq, .slice p0_11 r.1.Samples.length k0_11] ∧ Outs X w0 S w [.row p0_11 r.1.Samples.length k0_11 c0_11 3 1, .box b2 [.slice pq0_0 r.2.L.length kq0_0, .int .i64 r.2.At] 60] ∧ (RowA c0_11 r.1.Samples).p S w ∧ (SlA pq0_0 r.2.L.length kq0_0 r.2.L).p S w
abbrev D10t1 (b2 : Nat) (b43 : Nat) (b8 : Nat) (b9 : Nat) (n7 : Int) : Slots := [(0, .pointer (some ⟨b2, 0, none⟩)), (2, .int .i64 n7), (4, .pointer (some ⟨b8, 0, none⟩)), (6, .pointer (some ⟨b9, 0, none⟩)), (7, .pointer (some ⟨b43, 0, none⟩))]
abbrev D10t2 (b2 : Nat) (b50 : Nat) (b57 : Nat) (b73 : Nat) (rv37 : (Rate × Int)) (rv45 : (Int × Dice)) (rv52 : (Int × Dice)) (rv59 : (Int × Dice)) (rv64 : (Int × Dice)) (rv69 : (Int × Dice)) (s6 : SourceID) : Vs := [(0, 21, .agg #[.string s6.Network, .string s6.Station, .string s6.Location, .string s6.Channel]), (1, 22, .pointer (some ⟨b2, 0, none⟩)), (2, 23, .int .i64 rv45.1), (3, 24, .int .i64 (w64 (250000 * rv45.1))), (4, 25, .int .i64 (w64 (1000000000000 + (w64 (250000 * rv45.1))))), (5, 26, .pointer (some ⟨b2, 0, none⟩)), (6, 27, .slice (some ⟨b50, 0, none⟩) ([0, 0, 3] : List Int).length ([0, 0, 3] : List Int).length), (7, 28, .int .i64 rv52.1), (8, 29, .agg #[.int .i64 rv37.1.Num, .int .i64 rv37.1.Den]), (9, 30, .pointer (some ⟨b2, 0, none⟩)), (10, 31, .slice (some ⟨b57, 0, none⟩) ([0, 0, 10, 500] : List Int).length ([0, 0, 10, 500] : List Int).length), (11, 32, .int .i64 rv59.1), (12, 33, .pointer (some ⟨b2, 0, none⟩)), (13, 34, .int .i64 rv64.1), (14, 35, .pointer (some ⟨b2, 0, none⟩)), (15, 36, .int .i64 rv69.1), (16, 37, .agg #[.string s6.Network, .string s6.Station, .string s6.Location, .string s6.Channel, .int .i64 (w64 (1000000000000 + (w64 (250000 * rv45.1)))), .int .i64 rv52.1, .int .i64 rv37.1.Num, .int .i64 rv37.1.Den, .int .i64 rv59.1, .int .i64 rv64.1, .int .i64 rv69.1, .slice none ([] : List Int).length 0]), (17, 9, .pointer (some ⟨b73, 0, none⟩))]
abbrev D10t3 : List Value := [.int .i64 0, .int .i64 0, .int .i64 3]
abbrev D10t4 : List Int := ([0, 0, 3] : List Int)
abbrev D10t5 : List Value := [.int .i64 0, .int .i64 0, .int .i64 10, .int .i64 500]
abbrev D10t6 : List Int := ([0, 0, 10, 500] : List Int)
set_option maxHeartbeats 4000000 in
set_option maxRecDepth 100000 in
theorem made_Dice_Record_ok {w0 : World} {S0 : Nat → Prop} {b2 : Nat} {p3 : Option Addr} {k4 : Nat} {d1 : Dice} {s6 : SourceID} {n7 : Int} {r : (Record × Dice)} (hsh : made_Dice_Record d1 s6 n7 = some r) (hS : ∀ b, S0 b → b < w0.heap.size) (hin : Ins S0 w0 [.box b2 [.slice p3 d1.L.length k4, .int .i64 d1.At] 60]) (h5 : (SlA p3 d1.L.length k4 d1.L).p S0 w0) : Calls Try.prog 10 #[.pointer (some ⟨b2, 0, none⟩), .agg #[.string s6.Network, .string s6.Station, .string s6.Location, .string s6.Channel], .int .i64 n7] w0 (Ret (blks [.box b2 [.slice p3 d1.L.length k4, .int .i64 d1.At] 60]) w0 S0 (made_Dice_Record_rd w0 (blks [.box b2 [.slice p3 d1.L.length k4, .int .i64 d1.At] 60]) b2 r)) := by
 refine calls_of_wp Try.func10 rfl ?_
 have hs := Sl.enter #[.pointer (some ⟨b2, 0, none⟩), .agg #[.string s6.Network, .string s6.Station, .string s6.Location, .string s6.Channel], .int .i64 n7] 54 [(0, .pointer (some ⟨b2, 0, none⟩)), (1, .agg #[.string s6.Network, .string s6.Station, .string s6.Location, .string s6.Channel]), (2, .int .i64 n7)] rfl ⟨rfl, rfl, rfl, trivial⟩
 have hw := Wd.enterI hS hin
 have hw := hw.addE h5
 delta made_Dice_Record at hsh
 refine wp_seq ?_
 refine wp_region_lit ?_
 refine w_box (cs := [.string s6.Network, .string s6.Station, .string s6.Location, .string s6.Channel]) hs hw rfl rfl rfl trivial ?_
 intro b8 a w hs hw
 refine w_alloc (cs := [.string ByteArray.empty, .string ByteArray.empty, .string ByteArray.empty, .string ByteArray.empty, .int .i64 0, .int .i64 0, .int .i64 0, .int .i64 0, .int .i64 0, .int .i64 0, .int .i64 0, .slice none ([] : List Int).length 0]) hs hw Try.zeroValue32 rfl rfl trivial ?_
 intro b9 a w hs hw
 refine wpList_nil ?_
 refine then_normal ?_
 refine wp_seq ?_
 refine wp_region_lit ?_
 refine st_val hs (y_move rfl) trivial rfl rfl fun a hs => ?_
 refine w_litSlice (α := Int) (vs := [.int .i64 1, .int .i64 2, .int .i64 2, .int .i64 3]) (cs := [.int .i64 1, .int .i64 2, .int .i64 2, .int .i64 3]) (xs := ([1, 2, 2, 3] : List Int)) hs hw El22 rfl rfl rfl rfl rfl rfl ⟨⟨_, rfl, rfl⟩, ⟨⟨_, rfl, rfl⟩, ⟨⟨_, rfl, rfl⟩, ⟨⟨_, rfl, rfl⟩, rfl⟩⟩⟩⟩ rfl trivial rfl fun b11 a w hs hw => ?_
 obtain ⟨rv13, h12, hsh⟩ := bind_t hsh
 obtain ⟨Sv17, hw⟩ := w_share (α := Int) hw 0 rfl 0 rfl
 refine st_callR hs (made_Dice_Pick_ok h12 hw.dom (hw.ins [2] (by decide) rfl) (hw.envAt 2 rfl) (hw.envAt 0 rfl)) (do_call Try.call36 rfl) trivial rfl rfl ?_
 intro v21 Sv18 w a h19 h20 hs
 obtain ⟨p14, k15, rfl, h22, h16⟩ := h20
 have hw := hw.callO [2] [0, 1] (by decide) rfl h19 h22
 have hw := hw.addE (e := SlA p14 rv13.2.L.length k15 rv13.2.L) h16
 refine st_val hs (y_move rfl) trivial rfl rfl fun a hs => ?_
 refine w_litSlice (α := Int) (vs := [.int .i64 1, .int .i64 1, .int .i64 1, .int .i64 3]) (cs := [.int .i64 1, .int .i64 1, .int .i64 1, .int .i64 3]) (xs := ([1, 1, 1, 3] : List Int)) hs hw El22 rfl rfl rfl rfl rfl rfl ⟨⟨_, rfl, rfl⟩, ⟨⟨_, rfl, rfl⟩, ⟨⟨_, rfl, rfl⟩, ⟨⟨_, rfl, rfl⟩, rfl⟩⟩⟩⟩ rfl trivial rfl fun b24 a w hs hw => ?_
 obtain ⟨rv26, h25, hsh⟩ := bind_t hsh
 obtain ⟨Sv30, hw⟩ := w_share (α := Int) hw 0 rfl 0 rfl
 refine st_callR hs (made_Dice_Pick_ok h25 hw.dom (hw.ins [0] (by decide) rfl) (hw.envAt 2 rfl) (hw.envAt 0 rfl)) (do_call Try.call36 rfl) trivial rfl rfl ?_
 intro v34 Sv31 w a h32 h33 hs
 obtain ⟨p27, k28, rfl, h35, h29⟩ := h33
 have hw := hw.callO [0] [1, 2] (by decide) rfl h32 h35
 have hw := hw.addE (e := SlA p27 rv26.2.L.length k28 rv26.2.L) h29
 obtain ⟨rv37, h36, hsh⟩ := bind_t hsh
 refine st_callR hs (ref02_New_ok h36 hw.bdom) (do_call Try.call35 rfl) trivial rfl rfl ?_
 intro v41 Sv38 w a h39 h40 hs
 subst h40
 have hw := hw.callB h39
 refine st_val hs (y_move rfl) trivial rfl rfl fun a hs => ?_
 refine st_val hs (y_extract rfl rfl) trivial rfl rfl fun a hs => ?_
 refine st_val hs (y_extract rfl rfl) trivial rfl rfl fun a hs => ?_
 refine w_alloc (cs := [.int .i64 0, .int .i64 0]) hs hw Try.zeroValue30 rfl rfl trivial ?_
 intro b43 a w hs hw
 refine w_store (m := 2) (cs' := [.int .i64 rv37.1.Num, .int .i64 rv37.1.Den]) hs hw 0 rfl rfl rfl Try.sizeOf30 rfl rfl rfl rfl trivial ?_
 intro a w hs hw
 refine st_val hs (y_assign rfl) trivial rfl rfl fun a hs => ?_
 refine wpList_nil ?_
 refine then_normal ?_
 refine wp_seq ?_
 obtain ⟨rv45, h44, hsh⟩ := bind_t hsh
 obtain ⟨rv52, h51, hsh⟩ := bind_t hsh
 obtain ⟨rv59, h58, hsh⟩ := bind_t hsh
 obtain ⟨rv64, h63, hsh⟩ := bind_t hsh
 obtain ⟨rv69, h68, hsh⟩ := bind_t hsh
 refine wp_only (fun a w => ∃ (Sv74 : Nat → Prop) (b73 : Nat) (k71 : Nat) (p70 : Option Addr), Sl 54 [(0, .pointer (some ⟨b2, 0, none⟩)), (2, .int .i64 n7), (6, .pointer (some ⟨b9, 0, none⟩)), (9, .pointer (some ⟨b73, 0, none⟩))] a ∧ Wd ⟨w0, S0, blks [.box b2 [.slice p3 d1.L.length k4, .int .i64 d1.At] 60]⟩ Sv74 [.box b2 [.slice p70 rv69.2.L.length k71, .int .i64 rv69.2.At] 60, .box b9 [.string ByteArray.empty, .string ByteArray.empty, .string ByteArray.empty, .string ByteArray.empty, .int .i64 0, .int .i64 0, .int .i64 0, .int .i64 0, .int .i64 0, .int .i64 0, .int .i64 0, .slice none ([] : List Int).length 0] 32, .box b73 [.string s6.Network, .string s6.Station, .string s6.Location, .string s6.Channel, .int .i64 (w64 (1000000000000 + (w64 (250000 * rv45.1)))), .int .i64 rv52.1, .int .i64 rv37.1.Num, .int .i64 rv37.1.Den, .int .i64 rv59.1, .int .i64 rv64.1, .int .i64 rv69.1, .slice none ([] : List Int).length 0] 32] [SlA p70 rv69.2.L.length k71 rv69.2.L, SlA none ([] : List Int).length 0 ([] : List Int)] w) ?_ ?_
 ·refine wp_region_phi (n := 19) (Φ := fun l a w => ∃ (b50 : Nat) (b57 : Nat) (b73 : Nat) (k47 : Nat) (k54 : Nat) (k61 : Nat) (k66 : Nat) (k71 : Nat) (p46 : Option Addr) (p53 : Option Addr) (p60 : Option Addr) (p65 : Option Addr) (p70 : Option Addr) (S : Nat → Prop), SlF 54 (D10t1 b2 b43 b8 b9 n7) (D10t2 b2 b50 b57 b73 rv37 rv45 rv52 rv59 rv64 rv69 s6) l a ∧ Wd ⟨w0, S0, blks [.box b2 [.slice p3 d1.L.length k4, .int .i64 d1.At] 60]⟩ S [.box b43 [.int .i64 rv37.1.Num, .int .i64 rv37.1.Den] 30, ((bif l 15 then .box b2 [.slice p70 rv69.2.L.length k71, .int .i64 rv69.2.At] 60 else (bif l 13 then .box b2 [.slice p65 rv64.2.L.length k66, .int .i64 rv64.2.At] 60 else (bif l 11 then .box b2 [.slice p60 rv59.2.L.length k61, .int .i64 rv59.2.At] 60 else (bif l 7 then .box b2 [.slice p53 rv52.2.L.length k54, .int .i64 rv52.2.At] 60 else (bif l 2 then .box b2 [.slice p46 rv45.2.L.length k47, .int .i64 rv45.2.At] 60 else .box b2 [.slice p27 rv26.2.L.length k28, .int .i64 rv26.2.At] 60))))) : Res), .box b9 [.string ByteArray.empty, .string ByteArray.empty, .string ByteArray.empty, .string ByteArray.empty, .int .i64 0, .int .i64 0, .int .i64 0, .int .i64 0, .int .i64 0, .int .i64 0, .int .i64 0, .slice none ([] : List Int).length 0] 32, .box b8 [.string s6.Network, .string s6.Station, .string s6.Location, .string s6.Channel] 28, ((bif l 7 then emp else (bif l 6 then .row (some ⟨b50, 0, none⟩) ([0, 0, 3] : List Int).length ([0, 0, 3] : List Int).length [.int .i64 0, .int .i64 0, .int .i64 3] 3 1 else emp)) : Res), ((bif l 11 then emp else (bif l 10 then .row (some ⟨b57, 0, none⟩) ([0, 0, 10, 500] : List Int).length ([0, 0, 10, 500] : List Int).length [.int .i64 0, .int .i64 0, .int .i64 10, .int .i64 500] 3 1 else emp)) : Res), ((bif l 18 then .box b73 [.string s6.Network, .string s6.Station, .string s6.Location, .string s6.Channel, .int .i64 (w64 (1000000000000 + (w64 (250000 * rv45.1)))), .int .i64 rv52.1, .int .i64 rv37.1.Num, .int .i64 rv37.1.Den, .int .i64 rv59.1, .int .i64 rv64.1, .int .i64 rv69.1, .slice none ([] : List Int).length 0] 32 else (bif l 17 then .box b73 [.string ByteArray.empty, .string ByteArray.empty, .string ByteArray.empty, .string ByteArray.empty, .int .i64 0, .int .i64 0, .int .i64 0, .int .i64 0, .int .i64 0, .int .i64 0, .int .i64 0, .slice none ([] : List Int).length 0] 32 else emp)) : Res)] [SlA p27 rv26.2.L.length k28 rv26.2.L, SlA (some ⟨b24, 0, none⟩) ([1, 1, 1, 3] : List Int).length ([1, 1, 1, 3] : List Int).length ([1, 1, 1, 3] : List Int), RowA [.int .i64 1, .int .i64 1, .int .i64 1, .int .i64 3] ([1, 1, 1, 3] : List Int), SlA p14 rv13.2.L.length k15 rv13.2.L, SlA (some ⟨b11, 0, none⟩) ([1, 2, 2, 3] : List Int).length ([1, 2, 2, 3] : List Int).length ([1, 2, 2, 3] : List Int), RowA [.int .i64 1, .int .i64 2, .int .i64 2, .int .i64 3] ([1, 2, 2, 3] : List Int), SlA p3 d1.L.length k4 d1.L, optA (l 2) (SlA p46 rv45.2.L.length k47 rv45.2.L), optA (l 6) (RowA [.int .i64 0, .int .i64 0, .int .i64 3] ([0, 0, 3] : List Int)), optA (l 7) (SlA (some ⟨b50, 0, none⟩) ([0, 0, 3] : List Int).length ([0, 0, 3] : List Int).length ([0, 0, 3] : List Int)), optA (l 7) (SlA p53 rv52.2.L.length k54 rv52.2.L), optA (l 10) (RowA [.int .i64 0, .int .i64 0, .int .i64 10, .int .i64 500] ([0, 0, 10, 500] : List Int)), optA (l 11) (SlA (some ⟨b57, 0, none⟩) ([0, 0, 10, 500] : List Int).length ([0, 0, 10, 500] : List Int).length ([0, 0, 10, 500] : List Int)), optA (l 11) (SlA p60 rv59.2.L.length k61 rv59.2.L), optA (l 13) (SlA p65 rv64.2.L.length k66 rv64.2.L), optA (l 15) (SlA p70 rv69.2.L.length k71 rv69.2.L)] w) [1, 1, 2, 3, 4, 1, 1, 3, 1, 1, 1, 4, 1, 5, 1, 6, 7, 1, 8] (by kernel_rfl) rfl (by kernel_rfl) ?_ (AllS.succ (AllS.succ (AllS.succ (AllS.succ (AllS.succ (AllS.succ (AllS.succ (AllS.succ (AllS.succ (AllS.succ (AllS.succ (AllS.succ (AllS.succ (AllS.succ (AllS.succ (AllS.succ (AllS.succ (AllS.succ (AllS.succ AllS.zero ?_) ?_) ?_) ?_) ?_) ?_) ?_) ?_) ?_) ?_) ?_) ?_) ?_) ?_) ?_) ?_) ?_) ?_) ?_) ?_
  ·obtain ⟨b50, b57, b73, k47, k54, k61, k66, k71, p46, p53, p60, p65, p70, _⟩ : ∃ (b50 : Nat) (b57 : Nat) (b73 : Nat) (k47 : Nat) (k54 : Nat) (k61 : Nat) (k66 : Nat) (k71 : Nat) (p46 : Option Addr) (p53 : Option Addr) (p60 : Option Addr) (p65 : Option Addr) (p70 : Option Addr), True := ⟨0, 0, 0, 0, 0, 0, 0, 0, none, none, none, none, none, trivial⟩
   have hw := hw.drew
   have hw := hw.emp
   have hw := hw.emp
   have hw := hw.emp
   have hw := hw.noE (SlA p70 rv69.2.L.length k71 rv69.2.L)
   have hw := hw.noE (SlA p65 rv64.2.L.length k66 rv64.2.L)
   have hw := hw.noE (SlA p60 rv59.2.L.length k61 rv59.2.L)
   have hw := hw.noE (SlA (some ⟨b57, 0, none⟩) ([0, 0, 10, 500] : List Int).length ([0, 0, 10, 500] : List Int).length ([0, 0, 10, 500] : List Int))
   have hw := hw.noE (RowA [.int .i64 0, .int .i64 0, .int .i64 10, .int .i64 500] ([0, 0, 10, 500] : List Int))
   have hw := hw.noE (SlA p53 rv52.2.L.length k54 rv52.2.L)
   have hw := hw.noE (SlA (some ⟨b50, 0, none⟩) ([0, 0, 3] : List Int).length ([0, 0, 3] : List Int).length ([0, 0, 3] : List Int))
   have hw := hw.noE (RowA [.int .i64 0, .int .i64 0, .int .i64 3] ([0, 0, 3] : List Int))
   have hw := hw.noE (SlA p46 rv45.2.L.length k47 rv45.2.L)
   exact ⟨b50, b57, b73, k47, k54, k61, k66, k71, p46, p53, p60, p65, p70, Sv31, SlF.init (hs.wk rfl) (by kernel_rfl), hw.ft [3, 4, 5, 6, 0, 1, 2] [9, 10, 11, 12, 13, 14, 15, 0, 1, 2, 3, 4, 5, 6, 7, 8] (by decide) rfl rfl⟩
  ·intro l hi hp hc a w ⟨b50, b57, b73, k47, k54, k61, k66, k71, p46, p53, p60, p65, p70, S, hS, hw⟩
   refine S_val hS (.b (t := 4) rfl .nil) rfl rfl trivial (y_loadBA (hw.ownAt 3 rfl) rfl Try.isAgg28 Try.sizeOf28 rfl rfl) (rfl) 0 rfl fun a hS => ⟨b50, b57, b73, k47, k54, k61, k66, k71, p46, p53, p60, p65, p70, S, hS, hw⟩
  ·intro l hi hp hc a w ⟨b50, b57, b73, k47, k54, k61, k66, k71, p46, p53, p60, p65, p70, S, hS, hw⟩
   refine S_val hS (.b (t := 0) rfl .nil) rfl rfl trivial (y_move rfl) (rfl) 1 rfl fun a hS => ⟨b50, b57, b73, k47, k54, k61, k66, k71, p46, p53, p60, p65, p70, S, hS, hw⟩
  ·intro l hi hp hc a w ⟨b50, b57, b73, k47, k54, k61, k66, k71, p46, p53, p60, p65, p70, S, hS, hw⟩
   have h_7 := l_neg hc 7 hi rfl
   have h_11 := l_neg hc 11 h_7 rfl
   have h_13 := l_neg hc 13 h_11 rfl
   have h_15 := l_neg hc 15 h_13 rfl
   have hw := hw.fixR 1 (r' := .box b2 [.slice p27 rv26.2.L.length k28, .int .i64 rv26.2.At] 60) rfl ((bF h_15).trans ((bF h_13).trans ((bF h_11).trans ((bF h_7).trans ((bF hi))))))
   have h_1 := hp 1 rfl
   refine S_eff rfl ?_
   have hs := hS.open_ (.v (t := 22) 1 rfl h_1 .nil)
   refine st_callR hs (made_Dice_Next_ok h44 hw.dom (hw.ins [1] (by decide) rfl) (hw.envAt 0 rfl)) (do_call Try.call16 rfl) trivial rfl rfl ?_
   intro v110 Sv107 w a h108 h109 hs
   obtain ⟨p46, k47, rfl, h111, h48⟩ := h109
   have hw := hw.callO [1] [0, 2, 3, 4, 5, 6] (by decide) rfl h108 h111
   have hw := hw.addE (e := SlA p46 rv45.2.L.length k47 rv45.2.L) h48
   have hw := hw.fixR 0 (r' := (bif l 15 then .box b2 [.slice p70 rv69.2.L.length k71, .int .i64 rv69.2.At] 60 else (bif l 13 then .box b2 [.slice p65 rv64.2.L.length k66, .int .i64 rv64.2.At] 60 else (bif l 11 then .box b2 [.slice p60 rv59.2.L.length k61, .int .i64 rv59.2.At] 60 else (bif l 7 then .box b2 [.slice p53 rv52.2.L.length k54, .int .i64 rv52.2.At] 60 else .box b2 [.slice p46 rv45.2.L.length k47, .int .i64 rv45.2.At] 60))))) rfl ((bF h_15).trans ((bF h_13).trans ((bF h_11).trans ((bF h_7))))).symm
   have hw := hw.opt 0 rfl true
   refine wpList_nil ?_
   refine then_normal ?_
   exact ⟨b50, b57, b73, k47, k54, k61, k66, k71, p46, p53, p60, p65, p70, Sv107, hS.close (.v (t := 22) 1 rfl h_1 .nil) hs rfl (.same (.same (.here (.same (.same (.same (.same (.same (.same (.same (.same (.same (.same (.same (.same (.same (.same (.same .nil)))))))))))))))))) 2 rfl, hw.ft [1, 0, 2, 3, 4, 5, 6] [2, 3, 4, 5, 6, 7, 8, 0, 10, 11, 12, 13, 14, 15, 16, 17] (by decide) rfl rfl⟩
  ·intro l hi hp hc a w ⟨b50, b57, b73, k47, k54, k61, k66, k71, p46, p53, p60, p65, p70, S, hS, hw⟩
   have h_2 := hp 2 rfl
   refine S_val hS (.v (t := 23) 2 rfl h_2 .nil) rfl rfl trivial (y_mul rfl rfl) (rfl) 3 rfl fun a hS => ⟨b50, b57, b73, k47, k54, k61, k66, k71, p46, p53, p60, p65, p70, S, hS, hw⟩
  ·intro l hi hp hc a w ⟨b50, b57, b73, k47, k54, k61, k66, k71, p46, p53, p60, p65, p70, S, hS, hw⟩
   have h_3 := hp 3 rfl
   refine S_val hS (.v (t := 24) 3 rfl h_3 .nil) rfl rfl trivial (y_add rfl rfl) (rfl) 4 rfl fun a hS => ⟨b50, b57, b73, k47, k54, k61, k66, k71, p46, p53, p60, p65, p70, S, hS, hw⟩
  ·intro l hi hp hc a w ⟨b50, b57, b73, k47, k54, k61, k66, k71, p46, p53, p60, p65, p70, S, hS, hw⟩
   refine S_val hS (.b (t := 0) rfl .nil) rfl rfl trivial (y_move rfl) (rfl) 5 rfl fun a hS => ⟨b50, b57, b73, k47, k54, k61, k66, k71, p46, p53, p60, p65, p70, S, hS, hw⟩
  ·intro l hi hp hc a w ⟨b50, b57, b73, k47, k54, k61, k66, k71, p46, p53, p60, p65, p70, S, hS, hw⟩
   refine S_eff rfl ?_
   have hs := hS.open_ .nil
   refine w_litSlice (α := Int) (vs := D10t3) (cs := D10t3) (xs := D10t4) hs hw El22 rfl rfl rfl rfl rfl rfl ⟨⟨_, rfl, rfl⟩, ⟨⟨_, rfl, rfl⟩, ⟨⟨_, rfl, rfl⟩, rfl⟩⟩⟩ rfl trivial rfl fun b50 a w hs hw => ?_
   have h_7 := l_neg hc 7 hi rfl
   have hw := hw.fixR 0 (r' := (bif l 7 then emp else .row (some ⟨b50, 0, none⟩) ([0, 0, 3] : List Int).length ([0, 0, 3] : List Int).length [.int .i64 0, .int .i64 0, .int .i64 3] 3 1)) rfl ((bF h_7)).symm
   have hw := hw.opt 0 rfl true
   have hw := hw.noL h_7 (SlA (some ⟨b50, 0, none⟩) ([0, 0, 3] : List Int).length ([0, 0, 3] : List Int).length ([0, 0, 3] : List Int))
   refine wpList_nil ?_
   refine then_normal ?_
   exact ⟨b50, b57, b73, k47, k54, k61, k66, k71, p46, p53, p60, p65, p70, S, hS.close .nil hs rfl (.same (.same (.same (.same (.same (.same (.here (.same (.same (.same (.same (.same (.same (.same (.same (.same (.same (.same .nil)))))))))))))))))) 6 rfl, hw.ft [1, 2, 3, 4, 0, 6, 7] [3, 4, 5, 6, 7, 8, 9, 10, 1, 0, 13, 14, 15, 16, 17, 18] (by decide) rfl rfl⟩
  ·intro l hi hp hc a w ⟨b50, b57, b73, k47, k54, k61, k66, k71, p46, p53, p60, p65, p70, S, hS, hw⟩
   have h_11 := l_neg hc 11 hi rfl
   have h_13 := l_neg hc 13 h_11 rfl
   have h_15 := l_neg hc 15 h_13 rfl
   have h_2 := hp 2 rfl
   have hw := hw.fixR 1 (r' := .box b2 [.slice p46 rv45.2.L.length k47, .int .i64 rv45.2.At] 60) rfl ((bF h_15).trans ((bF h_13).trans ((bF h_11).trans ((bF hi).trans ((bT h_2))))))
   have h_6 := hp 6 rfl
   have hw := hw.fixR 4 (r' := .row (some ⟨b50, 0, none⟩) ([0, 0, 3] : List Int).length ([0, 0, 3] : List Int).length [.int .i64 0, .int .i64 0, .int .i64 3] 3 1) rfl ((bF hi).trans ((bT h_6)))
   have hw := hw.yes 7 rfl h_2
   have hw := hw.yes 9 rfl h_6
   have h_5 := hp 5 rfl
   refine S_eff rfl ?_
   have hs := hS.open_ (.v (t := 26) 5 rfl h_5 (.v (t := 27) 6 rfl h_6 .nil))
   obtain ⟨Sv118, hw⟩ := w_share (α := Int) hw 4 rfl 0 rfl
   refine st_callR hs (made_Dice_Pick_ok h51 hw.dom (hw.ins [1] (by decide) rfl) (hw.envAt 2 rfl) (hw.envAt 0 rfl)) (do_call Try.call36 rfl) trivial rfl rfl ?_
   intro v122 Sv119 w a h120 h121 hs
   obtain ⟨p53, k54, rfl, h123, h55⟩ := h121
   have hw := hw.callO [1] [0, 2, 3, 4, 5] (by decide) rfl h120 h123
   have hw := hw.addE (e := SlA p53 rv52.2.L.length k54 rv52.2.L) h55
   have hw := hw.fixR 0 (r' := (bif l 15 then .box b2 [.slice p70 rv69.2.L.length k71, .int .i64 rv69.2.At] 60 else (bif l 13 then .box b2 [.slice p65 rv64.2.L.length k66, .int .i64 rv64.2.At] 60 else (bif l 11 then .box b2 [.slice p60 rv59.2.L.length k61, .int .i64 rv59.2.At] 60 else .box b2 [.slice p53 rv52.2.L.length k54, .int .i64 rv52.2.At] 60)))) rfl ((bF h_15).trans ((bF h_13).trans ((bF h_11)))).symm
   have hw := hw.emp
   have hw := hw.opt 1 rfl true
   have hw := hw.opt 1 rfl true
   refine wpList_nil ?_
   refine then_normal ?_
   exact ⟨b50, b57, b73, k47, k54, k61, k66, k71, p46, p53, p60, p65, p70, Sv119, hS.close (.v (t := 26) 5 rfl h_5 (.v (t := 27) 6 rfl h_6 .nil)) hs rfl (.same (.same (.same (.same (.same (.same (.same (.here (.same (.same (.same (.same (.same (.same (.same (.same (.same (.same .nil)))))))))))))))))) 7 rfl, hw.ft [2, 1, 3, 4, 0, 5, 6] [6, 7, 8, 9, 10, 11, 12, 13, 14, 1, 0, 17, 18, 19, 20, 21] (by decide) rfl rfl⟩
  ·intro l hi hp hc a w ⟨b50, b57, b73, k47, k54, k61, k66, k71, p46, p53, p60, p65, p70, S, hS, hw⟩
   refine S_val hS (.b (t := 7) rfl .nil) rfl rfl trivial (y_loadBA (hw.ownAt 0 rfl) rfl Try.isAgg30 Try.sizeOf30 rfl rfl) (rfl) 8 rfl fun a hS => ⟨b50, b57, b73, k47, k54, k61, k66, k71, p46, p53, p60, p65, p70, S, hS, hw⟩
  ·intro l hi hp hc a w ⟨b50, b57, b73, k47, k54, k61, k66, k71, p46, p53, p60, p65, p70, S, hS, hw⟩
   refine S_val hS (.b (t := 0) rfl .nil) rfl rfl trivial (y_move rfl) (rfl) 9 rfl fun a hS => ⟨b50, b57, b73, k47, k54, k61, k66, k71, p46, p53, p60, p65, p70, S, hS, hw⟩
  ·intro l hi hp hc a w ⟨b50, b57, b73, k47, k54, k61, k66, k71, p46, p53, p60, p65, p70, S, hS, hw⟩
   refine S_eff rfl ?_
   have hs := hS.open_ .nil
   refine w_litSlice (α := Int) (vs := D10t5) (cs := D10t5) (xs := D10t6) hs hw El22 rfl rfl rfl rfl rfl rfl ⟨⟨_, rfl, rfl⟩, ⟨⟨_, rfl, rfl⟩, ⟨⟨_, rfl, rfl⟩, ⟨⟨_, rfl, rfl⟩, rfl⟩⟩⟩⟩ rfl trivial rfl fun b57 a w hs hw => ?_
   have h_11 := l_neg hc 11 hi rfl
   have hw := hw.fixR 0 (r' := (bif l 11 then emp else .row (some ⟨b57, 0, none⟩) ([0, 0, 10, 500] : List Int).length ([0, 0, 10, 500] : List Int).length [.int .i64 0, .int .i64 0, .int .i64 10, .int .i64 500] 3 1)) rfl ((bF h_11)).symm
   have hw := hw.opt 0 rfl true
   have hw := hw.noL h_11 (SlA (some ⟨b57, 0, none⟩) ([0, 0, 10, 500] : List Int).length ([0, 0, 10, 500] : List Int).length ([0, 0, 10, 500] : List Int))
   refine wpList_nil ?_
   refine then_normal ?_
   exact ⟨b50, b57, b73, k47, k54, k61, k66, k71, p46, p53, p60, p65, p70, S, hS.close .nil hs rfl (.same (.same (.same (.same (.same (.same (.same (.same (.same (.same (.here (.same (.same (.same (.same (.same (.same (.same .nil)))))))))))))))))) 10 rfl, hw.ft [1, 2, 3, 4, 5, 0, 7] [3, 4, 5, 6, 7, 8, 9, 10, 11, 12, 13, 1, 0, 16, 17, 18] (by decide) rfl rfl⟩
  ·intro l hi hp hc a w ⟨b50, b57, b73, k47, k54, k61, k66, k71, p46, p53, p60, p65, p70, S, hS, hw⟩
   have h_13 := l_neg hc 13 hi rfl
   have h_15 := l_neg hc 15 h_13 rfl
   have h_7 := hp 7 rfl
   have hw := hw.fixR 1 (r' := .box b2 [.slice p53 rv52.2.L.length k54, .int .i64 rv52.2.At] 60) rfl ((bF h_15).trans ((bF h_13).trans ((bF hi).trans ((bT h_7)))))
   have h_10 := hp 10 rfl
   have hw := hw.fixR 5 (r' := .row (some ⟨b57, 0, none⟩) ([0, 0, 10, 500] : List Int).length ([0, 0, 10, 500] : List Int).length [.int .i64 0, .int .i64 0, .int .i64 10, .int .i64 500] 3 1) rfl ((bF hi).trans ((bT h_10)))
   have hw := hw.yes 10 rfl h_7
   have hw := hw.yes 12 rfl h_10
   have h_9 := hp 9 rfl
   refine S_eff rfl ?_
   have hs := hS.open_ (.v (t := 30) 9 rfl h_9 (.v (t := 31) 10 rfl h_10 .nil))
   obtain ⟨Sv130, hw⟩ := w_share (α := Int) hw 5 rfl 0 rfl
   refine st_callR hs (made_Dice_Pick_ok h58 hw.dom (hw.ins [1] (by decide) rfl) (hw.envAt 2 rfl) (hw.envAt 0 rfl)) (do_call Try.call36 rfl) trivial rfl rfl ?_
   intro v134 Sv131 w a h132 h133 hs
   obtain ⟨p60, k61, rfl, h135, h62⟩ := h133
   have hw := hw.callO [1] [0, 2, 3, 4, 5] (by decide) rfl h132 h135
   have hw := hw.addE (e := SlA p60 rv59.2.L.length k61 rv59.2.L) h62
   have hw := hw.fixR 0 (r' := (bif l 15 then .box b2 [.slice p70 rv69.2.L.length k71, .int .i64 rv69.2.At] 60 else (bif l 13 then .box b2 [.slice p65 rv64.2.L.length k66, .int .i64 rv64.2.At] 60 else .box b2 [.slice p60 rv59.2.L.length k61, .int .i64 rv59.2.At] 60))) rfl ((bF h_15).trans ((bF h_13))).symm
   have hw := hw.emp
   have hw := hw.opt 1 rfl true
   have hw := hw.opt 1 rfl true
   refine wpList_nil ?_
   refine then_normal ?_
   exact ⟨b50, b57, b73, k47, k54, k61, k66, k71, p46, p53, p60, p65, p70, Sv131, hS.close (.v (t := 30) 9 rfl h_9 (.v (t := 31) 10 rfl h_10 .nil)) hs rfl (.same (.same (.same (.same (.same (.same (.same (.same (.same (.same (.same (.here (.same (.same (.same (.same (.same (.same .nil)))))))))))))))))) 11 rfl, hw.ft [2, 1, 3, 4, 5, 0, 6] [6, 7, 8, 9, 10, 11, 12, 13, 14, 15, 16, 17, 1, 0, 20, 21] (by decide) rfl rfl⟩
  ·intro l hi hp hc a w ⟨b50, b57, b73, k47, k54, k61, k66, k71, p46, p53, p60, p65, p70, S, hS, hw⟩
   refine S_val hS (.b (t := 0) rfl .nil) rfl rfl trivial (y_move rfl) (rfl) 12 rfl fun a hS => ⟨b50, b57, b73, k47, k54, k61, k66, k71, p46, p53, p60, p65, p70, S, hS, hw⟩
  ·intro l hi hp hc a w ⟨b50, b57, b73, k47, k54, k61, k66, k71, p46, p53, p60, p65, p70, S, hS, hw⟩
   have h_15 := l_neg hc 15 hi rfl
   have h_11 := hp 11 rfl
   have hw := hw.fixR 1 (r' := .box b2 [.slice p60 rv59.2.L.length k61, .int .i64 rv59.2.At] 60) rfl ((bF h_15).trans ((bF hi).trans ((bT h_11))))
   have hw := hw.yes 13 rfl h_11
   have h_12 := hp 12 rfl
   refine S_eff rfl ?_
   have hs := hS.open_ (.v (t := 33) 12 rfl h_12 .nil)
   refine st_callR hs (made_Dice_Next_ok h63 hw.dom (hw.ins [1] (by decide) rfl) (hw.envAt 0 rfl)) (do_call Try.call16 rfl) trivial rfl rfl ?_
   intro v144 Sv141 w a h142 h143 hs
   obtain ⟨p65, k66, rfl, h145, h67⟩ := h143
   have hw := hw.callO [1] [0, 2, 3, 4, 5, 6] (by decide) rfl h142 h145
   have hw := hw.addE (e := SlA p65 rv64.2.L.length k66 rv64.2.L) h67
   have hw := hw.fixR 0 (r' := (bif l 15 then .box b2 [.slice p70 rv69.2.L.length k71, .int .i64 rv69.2.At] 60 else .box b2 [.slice p65 rv64.2.L.length k66, .int .i64 rv64.2.At] 60)) rfl ((bF h_15)).symm
   have hw := hw.opt 0 rfl true
   refine wpList_nil ?_
   refine then_normal ?_
   exact ⟨b50, b57, b73, k47, k54, k61, k66, k71, p46, p53, p60, p65, p70, Sv141, hS.close (.v (t := 33) 12 rfl h_12 .nil) hs rfl (.same (.same (.same (.same (.same (.same (.same (.same (.same (.same (.same (.same (.same (.here (.same (.same (.same (.same .nil)))))))))))))))))) 13 rfl, hw.ft [1, 0, 2, 3, 4, 5, 6] [3, 4, 5, 6, 7, 8, 9, 10, 11, 12, 13, 14, 15, 16, 0, 18] (by decide) rfl rfl⟩
  ·intro l hi hp hc a w ⟨b50, b57, b73, k47, k54, k61, k66, k71, p46, p53, p60, p65, p70, S, hS, hw⟩
   refine S_val hS (.b (t := 0) rfl .nil) rfl rfl trivial (y_move rfl) (rfl) 14 rfl fun a hS => ⟨b50, b57, b73, k47, k54, k61, k66, k71, p46, p53, p60, p65, p70, S, hS, hw⟩
  ·intro l hi hp hc a w ⟨b50, b57, b73, k47, k54, k61, k66, k71, p46, p53, p60, p65, p70, S, hS, hw⟩
   have h_13 := hp 13 rfl
   have hw := hw.fixR 1 (r' := .box b2 [.slice p65 rv64.2.L.length k66, .int .i64 rv64.2.At] 60) rfl ((bF hi).trans ((bT h_13)))
   have hw := hw.yes 14 rfl h_13
   have h_14 := hp 14 rfl
   refine S_eff rfl ?_
   have hs := hS.open_ (.v (t := 35) 14 rfl h_14 .nil)
   refine st_callR hs (made_Dice_Next_ok h68 hw.dom (hw.ins [1] (by decide) rfl) (hw.envAt 0 rfl)) (do_call Try.call16 rfl) trivial rfl rfl ?_
   intro v154 Sv151 w a h152 h153 hs
   obtain ⟨p70, k71, rfl, h155, h72⟩ := h153
   have hw := hw.callO [1] [0, 2, 3, 4, 5, 6] (by decide) rfl h152 h155
   have hw := hw.addE (e := SlA p70 rv69.2.L.length k71 rv69.2.L) h72
   have hw := hw.opt 0 rfl true
   refine wpList_nil ?_
   refine then_normal ?_
   exact ⟨b50, b57, b73, k47, k54, k61, k66, k71, p46, p53, p60, p65, p70, Sv151, hS.close (.v (t := 35) 14 rfl h_14 .nil) hs rfl (.same (.same (.same (.same (.same (.same (.same (.same (.same (.same (.same (.same (.same (.same (.same (.here (.same (.same .nil)))))))))))))))))) 15 rfl, hw.ft [1, 0, 2, 3, 4, 5, 6] [3, 4, 5, 6, 7, 8, 9, 10, 11, 12, 13, 14, 15, 16, 17, 0] (by decide) rfl rfl⟩
  ·intro l hi hp hc a w ⟨b50, b57, b73, k47, k54, k61, k66, k71, p46, p53, p60, p65, p70, S, hS, hw⟩
   have h_15 := hp 15 rfl
   have h_13 := hp 13 rfl
   have h_11 := hp 11 rfl
   have h_8 := hp 8 rfl
   have h_7 := hp 7 rfl
   have h_4 := hp 4 rfl
   have h_0 := hp 0 rfl
   refine S_val hS (.v (t := 21) 0 rfl h_0 (.v (t := 25) 4 rfl h_4 (.v (t := 28) 7 rfl h_7 (.v (t := 29) 8 rfl h_8 (.v (t := 32) 11 rfl h_11 (.v (t := 34) 13 rfl h_13 (.v (t := 36) 15 rfl h_15 .nil))))))) rfl rfl trivial (y_build (vs := [(0, .agg #[.string s6.Network, .string s6.Station, .string s6.Location, .string s6.Channel]), (1, .int .i64 (w64 (1000000000000 + (w64 (250000 * rv45.1))))), (2, .int .i64 rv52.1), (3, .agg #[.int .i64 rv37.1.Num, .int .i64 rv37.1.Den]), (4, .int .i64 rv59.1), (5, .int .i64 rv64.1), (6, .int .i64 rv69.1)]) Bld32 rfl rfl) (rfl) 16 rfl fun a hS => ⟨b50, b57, b73, k47, k54, k61, k66, k71, p46, p53, p60, p65, p70, S, hS, hw⟩
  ·intro l hi hp hc a w ⟨b50, b57, b73, k47, k54, k61, k66, k71, p46, p53, p60, p65, p70, S, hS, hw⟩
   refine S_eff rfl ?_
   have hs := hS.open_ .nil
   refine w_alloc (cs := [.string ByteArray.empty, .string ByteArray.empty, .string ByteArray.empty, .string ByteArray.empty, .int .i64 0, .int .i64 0, .int .i64 0, .int .i64 0, .int .i64 0, .int .i64 0, .int .i64 0, .slice none ([] : List Int).length 0]) hs hw Try.zeroValue32 rfl rfl trivial ?_
   intro b73 a w hs hw
   have h_18 := l_neg hc 18 hi rfl
   have hw := hw.fixR 0 (r' := (bif l 18 then .box b73 [.string s6.Network, .string s6.Station, .string s6.Location, .string s6.Channel, .int .i64 (w64 (1000000000000 + (w64 (250000 * rv45.1)))), .int .i64 rv52.1, .int .i64 rv37.1.Num, .int .i64 rv37.1.Den, .int .i64 rv59.1, .int .i64 rv64.1, .int .i64 rv69.1, .slice none ([] : List Int).length 0] 32 else .box b73 [.string ByteArray.empty, .string ByteArray.empty, .string ByteArray.empty, .string ByteArray.empty, .int .i64 0, .int .i64 0, .int .i64 0, .int .i64 0, .int .i64 0, .int .i64 0, .int .i64 0, .slice none ([] : List Int).length 0] 32)) rfl ((bF h_18)).symm
   refine wpList_nil ?_
   refine then_normal ?_
   exact ⟨b50, b57, b73, k47, k54, k61, k66, k71, p46, p53, p60, p65, p70, S, hS.close .nil hs rfl (.same (.same (.same (.same (.same (.same (.same (.same (.same (.same (.same (.same (.same (.same (.same (.same (.same (.here .nil)))))))))))))))))) 17 rfl, hw.ft [1, 2, 3, 4, 5, 6, 0] [0, 1, 2, 3, 4, 5, 6, 7, 8, 9, 10, 11, 12, 13, 14, 15] (by decide) rfl rfl⟩
  ·intro l hi hp hc a w ⟨b50, b57, b73, k47, k54, k61, k66, k71, p46, p53, p60, p65, p70, S, hS, hw⟩
   have h_17 := hp 17 rfl
   have hw := hw.fixR 6 (r' := .box b73 [.string ByteArray.empty, .string ByteArray.empty, .string ByteArray.empty, .string ByteArray.empty, .int .i64 0, .int .i64 0, .int .i64 0, .int .i64 0, .int .i64 0, .int .i64 0, .int .i64 0, .slice none ([] : List Int).length 0] 32) rfl ((bF hi).trans ((bT h_17)))
   have h_16 := hp 16 rfl
   refine S_eff rfl ?_
   have hs := hS.open_ (.v (t := 9) 17 rfl h_17 (.v (t := 37) 16 rfl h_16 .nil))
   refine w_store (m := 12) (cs' := [.string s6.Network, .string s6.Station, .string s6.Location, .string s6.Channel, .int .i64 (w64 (1000000000000 + (w64 (250000 * rv45.1)))), .int .i64 rv52.1, .int .i64 rv37.1.Num, .int .i64 rv37.1.Den, .int .i64 rv59.1, .int .i64 rv64.1, .int .i64 rv69.1, .slice none ([] : List Int).length 0]) hs hw 6 rfl rfl rfl Try.sizeOf32 rfl rfl rfl rfl trivial ?_
   intro a w hs hw
   refine wpList_nil ?_
   refine then_normal ?_
   exact ⟨b50, b57, b73, k47, k54, k61, k66, k71, p46, p53, p60, p65, p70, S, hS.close0 (.v (t := 9) 17 rfl h_17 (.v (t := 37) 16 rfl h_16 .nil)) hs rfl, hw.ft [0, 1, 2, 3, 4, 5, 6] [0, 1, 2, 3, 4, 5, 6, 7, 8, 9, 10, 11, 12, 13, 14, 15] (by decide) rfl rfl⟩
  ·intro l a w hl ⟨b50, b57, b73, k47, k54, k61, k66, k71, p46, p53, p60, p65, p70, S, hS, hw⟩
   have hw := hw.yes 15 rfl (hl 15 (by decide))
   have hw := hw.fixR 1 (r' := .box b2 [.slice p70 rv69.2.L.length k71, .int .i64 rv69.2.At] 60) rfl (bT (hl 15 (by decide)))
   have hw := hw.fixR 6 (r' := .box b73 [.string s6.Network, .string s6.Station, .string s6.Location, .string s6.Channel, .int .i64 (w64 (1000000000000 + (w64 (250000 * rv45.1)))), .int .i64 rv52.1, .int .i64 rv37.1.Num, .int .i64 rv37.1.Den, .int .i64 rv59.1, .int .i64 rv64.1, .int .i64 rv69.1, .slice none ([] : List Int).length 0] 32) rfl (bT (hl 18 (by decide)))
   have hs := hS.on (.b (t := 0) rfl (.b (t := 2) rfl (.b (t := 6) rfl (.v (t := 9) 17 rfl (hl 17 (by decide)) .nil))))
   have hw := hw.addE (e := SlA (α := Int) none 0 0 []) nil_sl
   exact ⟨S, b73, k71, p70, (hs.wk rfl), (hw.ft [1, 2, 6] [1, 0] (by decide) rfl rfl)⟩
 ·rintro a w ⟨Sv74, b73, k71, p70, hs, hw⟩
  refine then_normal ?_
  refine wp_seq ?_
  refine wp_seq ?_
  refine wp_region_lit ?_
  refine st_val hs (y_move rfl) trivial rfl rfl fun a hs => ?_
  refine st_val hs (y_move rfl) trivial rfl rfl fun a hs => ?_
  obtain ⟨rv157, h156, hsh⟩ := bind_t hsh
  refine st_callR hs (made_Dice_Next_ok h156 hw.dom (hw.ins [0] (by decide) rfl) (hw.envAt 0 rfl)) (do_call Try.call16 rfl) trivial rfl rfl ?_
  intro v164 Sv161 w a h162 h163 hs
  obtain ⟨p158, k159, rfl, h165, h160⟩ := h163
  have hw := hw.callO [0] [1, 2] (by decide) rfl h162 h165
  have hw := hw.addE (e := SlA p158 rv157.2.L.length k159 rv157.2.L) h160
  refine st_val hs (y_add rfl rfl) trivial rfl rfl fun a hs => ?_
  obtain ⟨i167, h166, hsh⟩ := bind_t hsh
  refine st_val hs (y_assignI rfl h166) trivial rfl rfl fun a hs => ?_
  refine wpList_nil ?_
  refine then_normal ?_
  obtain ⟨e232, h280, hsh⟩ := bind_t hsh
  refine wp_join (fun a w => ∃ (p233 : Option Addr) (k234 : Nat) (c235 : List Value) (p236 : Option Addr) (k237 : Nat) (Sv238 : Nat → Prop), Sl 54 [(6, .pointer (some ⟨b9, 0, none⟩)), (9, .pointer (some ⟨b73, 0, none⟩))] a ∧ Wd ⟨w0, S0, blks [.box b2 [.slice p3 d1.L.length k4, .int .i64 d1.At] 60]⟩ Sv238 [.box b2 [.slice p233 e232.1.length k234, .int .i64 e232.2.1] 60, .box b9 [.string ByteArray.empty, .string ByteArray.empty, .string ByteArray.empty, .string ByteArray.empty, .int .i64 0, .int .i64 0, .int .i64 0, .int .i64 0, .int .i64 0, .int .i64 0, .int .i64 0, .slice none ([] : List Int).length 0] 32, .box b73 [.string s6.Network, .string s6.Station, .string s6.Location, .string s6.Channel, .int .i64 (w64 (1000000000000 + (w64 (250000 * rv45.1)))), .int .i64 rv52.1, .int .i64 rv37.1.Num, .int .i64 rv37.1.Den, .int .i64 rv59.1, .int .i64 rv64.1, .int .i64 rv69.1, .slice p236 e232.2.2.length k237] 32, .row p236 e232.2.2.length k237 c235 3 1] [SlA p233 e232.1.length k234 e232.1, SlA none ([] : List Int).length 0 ([] : List Int), RowA c235 e232.2.2] w) ?_ ?_
  ·refine wp_block ?_
   have hw := hw.nilRow Int 3
   refine wp_while (fun sv168 a w => ∃ (p207 : Option Addr) (k208 : Nat) (c209 : List Value) (p210 : Option Addr) (k211 : Nat) (Sv212 : Nat → Prop), Sl 54 [(0, .pointer (some ⟨b2, 0, none⟩)), (6, .pointer (some ⟨b9, 0, none⟩)), (9, .pointer (some ⟨b73, 0, none⟩)), (10, .int .i64 sv168.2.2.2)] a ∧ Wd ⟨w0, S0, blks [.box b2 [.slice p3 d1.L.length k4, .int .i64 d1.At] 60]⟩ Sv212 [.box b2 [.slice p207 sv168.1.length k208, .int .i64 sv168.2.1] 60, .box b9 [.string ByteArray.empty, .string ByteArray.empty, .string ByteArray.empty, .string ByteArray.empty, .int .i64 0, .int .i64 0, .int .i64 0, .int .i64 0, .int .i64 0, .int .i64 0, .int .i64 0, .slice none ([] : List Int).length 0] 32, .box b73 [.string s6.Network, .string s6.Station, .string s6.Location, .string s6.Channel, .int .i64 (w64 (1000000000000 + (w64 (250000 * rv45.1)))), .int .i64 rv52.1, .int .i64 rv37.1.Num, .int .i64 rv37.1.Den, .int .i64 rv59.1, .int .i64 rv64.1, .int .i64 rv69.1, .slice p210 sv168.2.2.1.length k211] 32, .row p210 sv168.2.2.1.length k211 c209 3 1] [SlA p207 sv168.1.length k208 sv168.1, SlA none ([] : List Int).length 0 ([] : List Int), RowA c209 sv168.2.2.1] w) (rv157.2.L, rv157.2.At, ([] : List Int), i167) h280 ⟨p158, k159, [], none, 0, Sv161, (hs.wk rfl), (hw.ft [1, 2, 3, 0] [1, 3, 0] (by decide) rfl rfl)⟩ ?_
   clear h280
   repeat clear hsh
   rintro sv168 a w tv230 ⟨p207, k208, c209, p210, k211, Sv212, hs, hw⟩ hsh hd229
   delta made_Dice_Record_l1 at hsh
   refine wp_seq ?_
   refine wp_seq ?_
   refine wp_region_lit ?_
   refine st_val hs (y_move rfl) trivial rfl rfl fun a hs => ?_
   refine st_val hs (y_gtr rfl rfl) trivial rfl rfl fun a hs => ?_
   refine wpList_nil ?_
   refine then_normal ?_
   refine wp_cond_split (hs.ev rfl) (fun h240 => ?_) (fun h240 => ?_)
   ·have hsh := ite_t hsh h240
    refine wp_skip ?_
    refine then_normal ?_
    refine wp_seq ?_
    refine wp_block ?_
    obtain ⟨rv255, h254, hsh⟩ := bind_t hsh
    obtain ⟨l262, h261, hsh⟩ := bind_t hsh
    refine wp_only (fun a w => ∃ (Sv266 : Nat → Prop) (c265 : List Value) (k257 : Nat) (k264 : Nat) (p256 : Option Addr) (p263 : Option Addr), Sl 54 [(0, .pointer (some ⟨b2, 0, none⟩)), (6, .pointer (some ⟨b9, 0, none⟩)), (9, .pointer (some ⟨b73, 0, none⟩)), (10, .int .i64 sv168.2.2.2)] a ∧ Wd ⟨w0, S0, blks [.box b2 [.slice p3 d1.L.length k4, .int .i64 d1.At] 60]⟩ Sv266 [.box b2 [.slice p256 rv255.2.L.length k257, .int .i64 rv255.2.At] 60, .box b9 [.string ByteArray.empty, .string ByteArray.empty, .string ByteArray.empty, .string ByteArray.empty, .int .i64 0, .int .i64 0, .int .i64 0, .int .i64 0, .int .i64 0, .int .i64 0, .int .i64 0, .slice none ([] : List Int).length 0] 32, .box b73 [.string s6.Network, .string s6.Station, .string s6.Location, .string s6.Channel, .int .i64 (w64 (1000000000000 + (w64 (250000 * rv45.1)))), .int .i64 rv52.1, .int .i64 rv37.1.Num, .int .i64 rv37.1.Den, .int .i64 rv59.1, .int .i64 rv64.1, .int .i64 rv69.1, .slice p263 l262.length k264] 32, .row p263 l262.length k264 c265 3 1] [SlA p256 rv255.2.L.length k257 rv255.2.L, SlA none ([] : List Int).length 0 ([] : List Int), RowA c265 l262] w) ?_ ?_
    ·refine h_b (C := Cls [.box b9 [.string ByteArray.empty, .string ByteArray.empty, .string ByteArray.empty, .string ByteArray.empty, .int .i64 0, .int .i64 0, .int .i64 0, .int .i64 0, .int .i64 0, .int .i64 0, .int .i64 0, .slice none ([] : List Int).length 0] 32] []) (by kernel_rfl) rfl (hw.drew.cs [1] [] rfl rfl) fun hC => ?_
     have hw := hw.drew
     refine h_g hs 0 rfl (by kernel_rfl) rfl rfl hC rfl (fun w hC => y_fieldAddr (o' := 11) Try.runUnderlying32 rfl Try.sizeOf22 rfl rfl rfl) fun a hs => ?_
     refine h_g hs 2 rfl (by kernel_rfl) rfl rfl hC rfl (fun w hC => y_move rfl) fun a hs => ?_
     refine h_all (rs := [1, 3]) (by kernel_rfl) rfl ?_
     refine AllH.cons rfl ?_ ?_
     ·refine st_val hs (y_loadB1 (hw.ownAt 2 rfl) rfl Try.isAgg22 rfl) trivial rfl rfl fun a hs => ?_
      refine h_nx (hw.cs [1] [] rfl rfl) fun hC => ?_
      refine h_one (i := 3) (by kernel_rfl) rfl ?_
      refine st_callR hs (made_Dice_Next_ok h254 hw.dom (hw.ins [0] (by decide) rfl) (hw.envAt 0 rfl)) (do_call Try.call16 rfl) trivial rfl rfl ?_
      intro v270 Sv267 w a h268 h269 hs
      obtain ⟨p256, k257, rfl, h271, h258⟩ := h269
      have hw := hw.callO [0] [1, 2, 3] (by decide) rfl h268 h271
      have hw := hw.addE (e := SlA p256 rv255.2.L.length k257 rv255.2.L) h258
      refine h_nx (hw.cs [1] [] rfl rfl) fun hC => ?_
      refine h_one (i := 4) (by kernel_rfl) rfl ?_
      refine w_litSlice (α := Int) (vs := [.int .i64 rv255.1]) (cs := [.int .i64 rv255.1]) (xs := ([rv255.1] : List Int)) hs hw El22 rfl rfl rfl rfl rfl rfl ⟨⟨_, rfl, rfl⟩, rfl⟩ rfl trivial rfl fun b260 a w hs hw => ?_
      refine h_nx (hw.cs [2] [] rfl rfl) fun hC => ?_
      refine h_st (C' := Cls [.box b9 [.string ByteArray.empty, .string ByteArray.empty, .string ByteArray.empty, .string ByteArray.empty, .int .i64 0, .int .i64 0, .int .i64 0, .int .i64 0, .int .i64 0, .int .i64 0, .int .i64 0, .slice none ([] : List Int).length 0] 32, .row (some ⟨b260, 0, none⟩) ([rv255.1] : List Int).length ([rv255.1] : List Int).length [.int .i64 rv255.1] 3 1] []) (fun _ h => by exact h.sub [0] (Sel.of rfl) (AllIn.of [] rfl)) (hw.cs [2, 0] [] rfl rfl) fun hC => ?_
      refine h_one (i := 5) (by kernel_rfl) rfl ?_
      refine w_appendR (α := Int) hs hw El22 4 rfl rfl rfl 4 rfl 0 rfl 0 rfl h261 rfl trivial ?_
      intro p263 k264 c265 a w hs hw
      refine h_nx (hw.cs [2, 0] [] rfl rfl) fun hC => ?_
      refine h_g hs 6 rfl (by kernel_rfl) rfl rfl hC rfl (fun w hC => y_fieldAddr (o' := 11) Try.runUnderlying32 rfl Try.sizeOf22 rfl rfl rfl) fun a hs => ?_
      refine h_one (i := 7) (by kernel_rfl) rfl ?_
      refine w_store (m := 1) (cs' := [.string s6.Network, .string s6.Station, .string s6.Location, .string s6.Channel, .int .i64 (w64 (1000000000000 + (w64 (250000 * rv45.1)))), .int .i64 rv52.1, .int .i64 rv37.1.Num, .int .i64 rv37.1.Den, .int .i64 rv59.1, .int .i64 rv64.1, .int .i64 rv69.1, .slice p263 l262.length k264]) hs hw 3 rfl rfl rfl Try.sizeOf22 rfl rfl rfl rfl trivial ?_
      intro a w hs hw
      refine h_nx (hw.cs [2, 0] [] rfl rfl) fun hC => ?_
      refine h_done (by kernel_rfl) ?_
      exact ⟨Sv267, c265, k257, k264, p256, p263, (hs.wk rfl), (hw.ft [1, 2, 3, 4] [2, 4, 0] (by decide) rfl rfl)⟩
     refine AllH.cons rfl ?_ ?_
     ·refine st_callR hs (made_Dice_Next_ok h254 hw.dom (hw.ins [0] (by decide) rfl) (hw.envAt 0 rfl)) (do_call Try.call16 rfl) trivial rfl rfl ?_
      intro v275 Sv272 w a h273 h274 hs
      obtain ⟨p256, k257, rfl, h276, h258⟩ := h274
      have hw := hw.callO [0] [1, 2, 3] (by decide) rfl h273 h276
      have hw := hw.addE (e := SlA p256 rv255.2.L.length k257 rv255.2.L) h258
      refine h_nx (hw.cs [1] [] rfl rfl) fun hC => ?_
      refine h_all (rs := [1, 4]) (by kernel_rfl) rfl ?_
      refine AllH.cons rfl ?_ ?_
      ·refine st_val hs (y_loadB1 (hw.ownAt 2 rfl) rfl Try.isAgg22 rfl) trivial rfl rfl fun a hs => ?_
       refine h_nx (hw.cs [1] [] rfl rfl) fun hC => ?_
       refine h_one (i := 4) (by kernel_rfl) rfl ?_
       refine w_litSlice (α := Int) (vs := [.int .i64 rv255.1]) (cs := [.int .i64 rv255.1]) (xs := ([rv255.1] : List Int)) hs hw El22 rfl rfl rfl rfl rfl rfl ⟨⟨_, rfl, rfl⟩, rfl⟩ rfl trivial rfl fun b260 a w hs hw => ?_
       refine h_nx (hw.cs [2] [] rfl rfl) fun hC => ?_
       refine h_st (C' := Cls [.box b9 [.string ByteArray.empty, .string ByteArray.empty, .string ByteArray.empty, .string ByteArray.empty, .int .i64 0, .int .i64 0, .int .i64 0, .int .i64 0, .int .i64 0, .int .i64 0, .int .i64 0, .slice none ([] : List Int).length 0] 32, .row (some ⟨b260, 0, none⟩) ([rv255.1] : List Int).length ([rv255.1] : List Int).length [.int .i64 rv255.1] 3 1] []) (fun _ h => by exact h.sub [0] (Sel.of rfl) (AllIn.of [] rfl)) (hw.cs [2, 0] [] rfl rfl) fun hC => ?_
       refine h_one (i := 5) (by kernel_rfl) rfl ?_
       refine w_appendR (α := Int) hs hw El22 4 rfl rfl rfl 4 rfl 0 rfl 0 rfl h261 rfl trivial ?_
       intro p263 k264 c265 a w hs hw
       refine h_nx (hw.cs [2, 0] [] rfl rfl) fun hC => ?_
       refine h_g hs 6 rfl (by kernel_rfl) rfl rfl hC rfl (fun w hC => y_fieldAddr (o' := 11) Try.runUnderlying32 rfl Try.sizeOf22 rfl rfl rfl) fun a hs => ?_
       refine h_one (i := 7) (by kernel_rfl) rfl ?_
       refine w_store (m := 1) (cs' := [.string s6.Network, .string s6.Station, .string s6.Location, .string s6.Channel, .int .i64 (w64 (1000000000000 + (w64 (250000 * rv45.1)))), .int .i64 rv52.1, .int .i64 rv37.1.Num, .int .i64 rv37.1.Den, .int .i64 rv59.1, .int .i64 rv64.1, .int .i64 rv69.1, .slice p263 l262.length k264]) hs hw 3 rfl rfl rfl Try.sizeOf22 rfl rfl rfl rfl trivial ?_
       intro a w hs hw
       refine h_nx (hw.cs [2, 0] [] rfl rfl) fun hC => ?_
       refine h_done (by kernel_rfl) ?_
       exact ⟨Sv272, c265, k257, k264, p256, p263, (hs.wk rfl), (hw.ft [1, 2, 3, 4] [2, 4, 0] (by decide) rfl rfl)⟩
      refine AllH.cons rfl ?_ ?_
      ·refine w_litSlice (α := Int) (vs := [.int .i64 rv255.1]) (cs := [.int .i64 rv255.1]) (xs := ([rv255.1] : List Int)) hs hw El22 rfl rfl rfl rfl rfl rfl ⟨⟨_, rfl, rfl⟩, rfl⟩ rfl trivial rfl fun b260 a w hs hw => ?_
       refine h_nx (hw.cs [2] [] rfl rfl) fun hC => ?_
       refine h_st (C' := Cls [.box b9 [.string ByteArray.empty, .string ByteArray.empty, .string ByteArray.empty, .string ByteArray.empty, .int .i64 0, .int .i64 0, .int .i64 0, .int .i64 0, .int .i64 0, .int .i64 0, .int .i64 0, .slice none ([] : List Int).length 0] 32, .row (some ⟨b260, 0, none⟩) ([rv255.1] : List Int).length ([rv255.1] : List Int).length [.int .i64 rv255.1] 3 1] []) (fun _ h => by exact h.sub [0] (Sel.of rfl) (AllIn.of [] rfl)) (hw.cs [2, 0] [] rfl rfl) fun hC => ?_
       refine h_one (i := 1) (by kernel_rfl) rfl ?_
       refine st_val hs (y_loadB1 (hw.ownAt 3 rfl) rfl Try.isAgg22 rfl) trivial rfl rfl fun a hs => ?_
       refine h_nx (hw.cs [2, 0] [] rfl rfl) fun hC => ?_
       refine h_one (i := 5) (by kernel_rfl) rfl ?_
       refine w_appendR (α := Int) hs hw El22 4 rfl rfl rfl 4 rfl 0 rfl 0 rfl h261 rfl trivial ?_
       intro p263 k264 c265 a w hs hw
       refine h_nx (hw.cs [2, 0] [] rfl rfl) fun hC => ?_
       refine h_g hs 6 rfl (by kernel_rfl) rfl rfl hC rfl (fun w hC => y_fieldAddr (o' := 11) Try.runUnderlying32 rfl Try.sizeOf22 rfl rfl rfl) fun a hs => ?_
       refine h_one (i := 7) (by kernel_rfl) rfl ?_
       refine w_store (m := 1) (cs' := [.string s6.Network, .string s6.Station, .string s6.Location, .string s6.Channel, .int .i64 (w64 (1000000000000 + (w64 (250000 * rv45.1)))), .int .i64 rv52.1, .int .i64 rv37.1.Num, .int .i64 rv37.1.Den, .int .i64 rv59.1, .int .i64 rv64.1, .int .i64 rv69.1, .slice p263 l262.length k264]) hs hw 3 rfl rfl rfl Try.sizeOf22 rfl rfl rfl rfl trivial ?_
       intro a w hs hw
       refine h_nx (hw.cs [2, 0] [] rfl rfl) fun hC => ?_
       refine h_done (by kernel_rfl) ?_
       exact ⟨Sv272, c265, k257, k264, p256, p263, (hs.wk rfl), (hw.ft [1, 2, 3, 4] [2, 4, 0] (by decide) rfl rfl)⟩
      exact AllH.nil
     exact AllH.nil
    ·rintro a w ⟨Sv266, c265, k257, k264, p256, p263, hs, hw⟩
     refine blk_normal ?_
     refine then_normal ?_
     refine wp_region_lit ?_
     refine st_val hs (y_move rfl) trivial rfl rfl fun a hs => ?_
     refine st_val hs (y_sub rfl rfl) trivial rfl rfl fun a hs => ?_
     obtain ⟨i278, h277, hsh⟩ := bind_t hsh
     refine st_val hs (y_assignI rfl h277) trivial rfl rfl fun a hs => ?_
     refine wpList_nil ?_
     refine then_normal ?_
     exact ⟨_, (Option.some.inj hsh).symm, p256, k257, c265, p263, k264, Sv266, (hs.wk rfl), (hw.ft [0, 1, 2, 3] [0, 1, 2] (by decide) rfl rfl)⟩
   ·have hsh := ite_f hsh h240
    refine wp_exit ?_
    refine then_exit ?_
    refine then_exit ?_
    refine blk_exit ?_
    have hsh := Option.some.inj hsh
    subst hsh
    have h279 := hd229 _ rfl
    subst h279
    refine then_normal ?_
    exact ⟨p207, k208, c209, p210, k211, Sv212, (hs.wk rfl), (hw.ft [0, 1, 2, 3] [0, 1, 2] (by decide) rfl rfl)⟩
  ·rintro a w ⟨p233, k234, c235, p236, k237, Sv238, hs, hw⟩
   refine then_normal ?_
   refine wp_seq ?_
   refine wp_region_lit ?_
   refine st_val hs (y_loadBA (hw.ownAt 2 rfl) rfl Try.isAgg32 Try.sizeOf32 rfl rfl) trivial rfl rfl fun a hs => ?_
   refine w_store (m := 12) (cs' := [.string s6.Network, .string s6.Station, .string s6.Location, .string s6.Channel, .int .i64 (w64 (1000000000000 + (w64 (250000 * rv45.1)))), .int .i64 rv52.1, .int .i64 rv37.1.Num, .int .i64 rv37.1.Den, .int .i64 rv59.1, .int .i64 rv64.1, .int .i64 rv69.1, .slice p236 e232.2.2.length k237]) hs hw 1 rfl rfl rfl Try.sizeOf32 rfl rfl rfl rfl trivial ?_
   intro a w hs hw
   refine wpList_nil ?_
   refine then_normal ?_
   have hsh := Option.some.inj hsh
   subst hsh
   refine wp_ret ?_
   exact ret1 hs rfl (rv_cell hw 1 rfl rfl Try.isAgg32 Try.sizeOf32 rfl) (hw.ret ⟨p236, k237, c235, p233, k234, rfl, (hw.outs [3, 0] (by decide) rfl), (hw.envAt 2 rfl), (hw.envAt 0 rfl)⟩)

abbrev made_Dice_Records_rd (w0 : World) (X : List Nat) (b2 : Nat) (r : ((List Record) × Dice)) : (Nat → Prop) → World → Value → Prop := fun S w v => ∃ (p0_0 : Option Addr) (k0_0 : Nat) (c0_0 : List Value) (pq0_0 : Option Addr) (kq0_0 : Nat), v = .slice p0_0 r.1.length k0_0 ∧ Outs X w0 S w [.row p0_0 r.1.length k0_0 c0_0 32 12, .box b2 [.slice pq0_0 r.2.L.length kq0_0, .int .i64 r.2.At] 60] ∧ (RowA c0_0 r.1).p S w ∧ (SlA pq0_0 r.2.L.length kq0_0 r.2.L).p S w
set_option maxHeartbeats 4000000 in
set_option maxRecDepth 100000 in
theorem made_Dice_Records_ok {w0 : World} {S0 : Nat → Prop} {b2 : Nat} {p3 : Option Addr} {k4 : Nat} {d1 : Dice} {n6 : Int} {r : ((List Record) × Dice)} (hsh : made_Dice_Records d1 n6 = some r) (hS : ∀ b, S0 b → b < w0.heap.size) (hin : Ins S0 w0 [.box b2 [.slice p3 d1.L.length k4, .int .i64 d1.At] 60]) (h5 : (SlA p3 d1.L.length k4 d1.L).p S0 w0) : Calls Try.prog 22 #[.pointer (some ⟨b2, 0, none⟩), .int .i64 n6] w0 (Ret (blks [.box b2 [.slice p3 d1.L.length k4, .int .i64 d1.At] 60]) w0 S0 (made_Dice_Records_rd w0 (blks [.box b2 [.slice p3 d1.L.length k4, .int .i64 d1.At] 60]) b2 r)) := by
 refine calls_of_wp Try.func22 rfl ?_
 have hs := Sl.enter #[.pointer (some ⟨b2, 0, none⟩), .int .i64 n6] 48 [(0, .pointer (some ⟨b2, 0, none⟩)), (1, .int .i64 n6)] rfl ⟨rfl, rfl, trivial⟩
 have hw := Wd.enterI hS hin
 have hw := hw.addE h5
 delta made_Dice_Records at hsh
 refine wp_seq ?_
 refine wp_region_lit ?_
 refine st_val hs (y_assign rfl) trivial rfl rfl fun a hs => ?_
 refine wpList_nil ?_
 refine then_normal ?_
 refine wp_seq ?_
 refine wp_region_lit ?_
 refine st_val hs (y_move rfl) trivial rfl rfl fun a hs => ?_
 obtain ⟨rv8, h7, hsh⟩ := bind_t hsh
 refine st_callR hs (made_Dice_Source_ok h7 hw.dom (hw.ins [0] (by decide) rfl) (hw.envAt 0 rfl)) (do_call Try.call11 rfl) trivial rfl rfl ?_
 intro v15 Sv12 w a h13 h14 hs
 obtain ⟨p9, k10, rfl, h16, h11⟩ := h14
 have hw := hw.callO [0] [] (by decide) rfl h13 h16
 have hw := hw.addE (e := SlA p9 rv8.2.L.length k10 rv8.2.L) h11
 refine w_alloc (cs := [.string ByteArray.empty, .string ByteArray.empty, .string ByteArray.empty, .string ByteArray.empty]) hs hw Try.zeroValue28 rfl rfl trivial ?_
 intro b17 a w hs hw
 refine w_store (m := 4) (cs' := [.string rv8.1.Network, .string rv8.1.Station, .string rv8.1.Location, .string rv8.1.Channel]) hs hw 0 rfl rfl rfl Try.sizeOf28 rfl rfl rfl rfl trivial ?_
 intro a w hs hw
 refine wpList_nil ?_
 refine then_normal ?_
 refine wp_seq ?_
 refine wp_region_lit ?_
 refine st_val hs (y_assign rfl) trivial rfl rfl fun a hs => ?_
 refine wpList_nil ?_
 refine then_normal ?_
 refine wp_seq ?_
 refine wp_seq ?_
 refine wp_region_lit ?_
 refine st_val hs (y_move rfl) trivial rfl rfl fun a hs => ?_
 refine st_val hs (y_move rfl) trivial rfl rfl fun a hs => ?_
 refine st_val hs (y_add rfl rfl) trivial rfl rfl fun a hs => ?_
 obtain ⟨rv19, h18, hsh⟩ := bind_t hsh
 refine st_callR hs (made_Dice_Next_ok h18 hw.dom (hw.ins [1] (by decide) rfl) (hw.envAt 0 rfl)) (do_call Try.call16 rfl) trivial rfl rfl ?_
 intro v26 Sv23 w a h24 h25 hs
 obtain ⟨p20, k21, rfl, h27, h22⟩ := h25
 have hw := hw.callO [1] [0] (by decide) rfl h24 h27
 have hw := hw.addE (e := SlA p20 rv19.2.L.length k21 rv19.2.L) h22
 refine st_val hs (y_assign rfl) trivial rfl rfl fun a hs => ?_
 refine wpList_nil ?_
 refine then_normal ?_
 obtain ⟨e374, h642, hsh⟩ := bind_t hsh
 refine wp_join (fun a w => ∃ (p375 : Option Addr) (k376 : Nat) (c377 : List Value) (p378 : Option Addr) (k379 : Nat) (Sv380 : Nat → Prop), Sl 48 [(6, .slice p378 e374.2.2.length k379)] a ∧ Wd ⟨w0, S0, blks [.box b2 [.slice p3 d1.L.length k4, .int .i64 d1.At] 60]⟩ Sv380 [.box b2 [.slice p375 e374.1.length k376, .int .i64 e374.2.1] 60, .row p378 e374.2.2.length k379 c377 32 12] [SlA p375 e374.1.length k376 e374.1, RowA c377 e374.2.2] w) ?_ ?_
 ·refine wp_block ?_
  have hw := hw.nilRow Record 32
  refine wp_while (fun sv28 a w => ∃ (p255 : Option Addr) (k256 : Nat) (c257 : List Value) (p258 : Option Addr) (k259 : Nat) (Sv260 : Nat → Prop), Sl 48 [(0, .pointer (some ⟨b2, 0, none⟩)), (5, .pointer (some ⟨b17, 0, none⟩)), (6, .slice p258 sv28.2.2.1.length k259), (7, .int .i64 sv28.2.2.2)] a ∧ Wd ⟨w0, S0, blks [.box b2 [.slice p3 d1.L.length k4, .int .i64 d1.At] 60]⟩ Sv260 [.box b2 [.slice p255 sv28.1.length k256, .int .i64 sv28.2.1] 60, .box b17 [.string rv8.1.Network, .string rv8.1.Station, .string rv8.1.Location, .string rv8.1.Channel] 28, .row p258 sv28.2.2.1.length k259 c257 32 12] [SlA p255 sv28.1.length k256 sv28.1, RowA c257 sv28.2.2.1] w) (rv19.2.L, rv19.2.At, ([] : List Record), rv19.1) h642 ⟨p20, k21, [], none, 0, Sv23, (hs.wk rfl), (hw.ft [1, 2, 0] [1, 0] (by decide) rfl rfl)⟩ ?_
  clear h642
  repeat clear hsh
  rintro sv28 a w tv372 ⟨p255, k256, c257, p258, k259, Sv260, hs, hw⟩ hsh hd371
  delta made_Dice_Records_l1 at hsh
  refine wp_seq ?_
  refine wp_seq ?_
  refine wp_region_lit ?_
  refine st_val hs (y_move rfl) trivial rfl rfl fun a hs => ?_
  refine st_val hs (y_gtr rfl rfl) trivial rfl rfl fun a hs => ?_
  refine wpList_nil ?_
  refine then_normal ?_
  refine wp_cond_split (hs.ev rfl) (fun h382 => ?_) (fun h382 => ?_)
  ·have hsh := ite_t hsh h382
   refine wp_skip ?_
   refine then_normal ?_
   refine wp_seq ?_
   refine wp_block ?_
   refine wp_seq ?_
   refine wp_region_lit ?_
   refine st_val hs (y_move rfl) trivial rfl rfl fun a hs => ?_
   refine st_val hs (y_loadBA (hw.ownAt 1 rfl) rfl Try.isAgg28 Try.sizeOf28 rfl rfl) trivial rfl rfl fun a hs => ?_
   obtain ⟨rv491, h490, hsh⟩ := bind_t hsh
   refine st_callR hs (made_Dice_Record_ok h490 hw.dom (hw.ins [0] (by decide) rfl) (hw.envAt 0 rfl)) (do_call Try.call10 rfl) trivial rfl rfl ?_
   intro v502 Sv499 w a h500 h501 hs
   obtain ⟨p492, k493, c495, p496, k497, rfl, h503, h494, h498⟩ := h501
   have hw := hw.callO [0] [1, 2] (by decide) rfl h500 h503
   have hw := hw.addE (e := RowA c495 rv491.1.Samples) h494
   have hw := hw.addE (e := SlA p496 rv491.2.L.length k497 rv491.2.L) h498
   refine w_alloc (cs := [.string ByteArray.empty, .string ByteArray.empty, .string ByteArray.empty, .string ByteArray.empty, .int .i64 0, .int .i64 0, .int .i64 0, .int .i64 0, .int .i64 0, .int .i64 0, .int .i64 0, .slice none ([] : List Int).length 0]) hs hw Try.zeroValue32 rfl rfl trivial ?_
   intro b504 a w hs hw
   refine w_store (m := 12) (cs' := [.string rv491.1.Source.Network, .string rv491.1.Source.Station, .string rv491.1.Source.Location, .string rv491.1.Source.Channel, .int .i64 rv491.1.Start, .int .i64 rv491.1.First, .int .i64 rv491.1.Rate.Num, .int .i64 rv491.1.Rate.Den, .int .i64 rv491.1.Error, .int .i64 rv491.1.Run, .int .i64 rv491.1.Seq, .slice p492 rv491.1.Samples.length k493]) hs hw 0 rfl rfl rfl Try.sizeOf32 rfl rfl rfl rfl trivial ?_
   intro a w hs hw
   refine wpList_nil ?_
   refine then_normal ?_
   refine wp_seq ?_
   refine wp_seq ?_
   refine wp_region_lit ?_
   refine st_val hs (y_move rfl) trivial rfl rfl fun a hs => ?_
   refine st_val hs (y_len Try.runUnderlying51 rfl) trivial rfl rfl fun a hs => ?_
   refine st_val hs (y_gtr rfl rfl) trivial rfl rfl fun a hs => ?_
   refine st_val hs (y_move rfl) trivial rfl rfl fun a hs => ?_
   obtain ⟨c516, hc516, hsh⟩ := bind_t hsh
   refine wpl_join 4 (fun a w => ∃ (p517 : Option Addr) (k518 : Nat) (Sv519 : Nat → Prop), Sl 48 [(0, .pointer (some ⟨b2, 0, none⟩)), (5, .pointer (some ⟨b17, 0, none⟩)), (6, .slice p258 sv28.2.2.1.length k259), (7, .int .i64 sv28.2.2.2), (8, .pointer (some ⟨b504, 0, none⟩)), (29, .bool c516.2.2)] a ∧ Wd ⟨w0, S0, blks [.box b2 [.slice p3 d1.L.length k4, .int .i64 d1.At] 60]⟩ Sv519 [.box b2 [.slice p517 c516.1.length k518, .int .i64 c516.2.1] 60, .box b17 [.string rv8.1.Network, .string rv8.1.Station, .string rv8.1.Location, .string rv8.1.Channel] 28, .box b504 [.string rv491.1.Source.Network, .string rv491.1.Source.Station, .string rv491.1.Source.Location, .string rv491.1.Source.Channel, .int .i64 rv491.1.Start, .int .i64 rv491.1.First, .int .i64 rv491.1.Rate.Num, .int .i64 rv491.1.Rate.Den, .int .i64 rv491.1.Error, .int .i64 rv491.1.Run, .int .i64 rv491.1.Seq, .slice p492 rv491.1.Samples.length k493] 32, .row p492 rv491.1.Samples.length k493 c495 3 1, .row p258 sv28.2.2.1.length k259 c257 32 12] [SlA p517 c516.1.length k518 c516.1, RowA c495 rv491.1.Samples, RowA c257 sv28.2.2.1] w) ?_ ?_
   ·rcases Bool.eq_false_or_eq_true (decide (0 < (sv28.2.2.1.length : Int))) with h515 | h515
    ·have hs := hs.fix 25 (.bool true) rfl (vb h515)
     have hsh := ite_t hc516 h515
     refine st_val hs (y_move rfl) ⟨_, rfl, rfl⟩ rfl rfl fun a hs => ?_
     obtain ⟨rv521, h520, hsh⟩ := bind_t hsh
     refine st_callR hs (made_Dice_Next_ok h520 hw.dom (hw.ins [2] (by decide) rfl) (hw.envAt 0 rfl)) (do_call Try.call16 rfl) ⟨_, rfl, rfl⟩ rfl rfl ?_
     intro v528 Sv525 w a h526 h527 hs
     obtain ⟨p522, k523, rfl, h529, h524⟩ := h527
     have hw := hw.callO [2] [0, 1, 3, 4] (by decide) rfl h526 h529
     have hw := hw.addE (e := SlA p522 rv521.2.L.length k523 rv521.2.L) h524
     refine st_val hs (y_eql rfl rfl) ⟨_, rfl, rfl⟩ rfl rfl fun a hs => ?_
     refine st_val hs (y_pickT rfl rfl) trivial rfl rfl fun a hs => ?_
     refine wpList_nil ?_
     have hsh := Option.some.inj hsh
     subst hsh
     refine then_normal ?_
     exact ⟨p522, k523, Sv525, (hs.wk rfl), (hw.ft [0, 3, 1, 2, 4] [0, 2, 4] (by decide) rfl rfl)⟩
    ·have hs := hs.fix 25 (.bool false) rfl (vb h515)
     have hsh := ite_f hc516 h515
     refine st_skip hs rfl rfl rfl rfl rfl fun a hs => ?_
     refine st_skip hs rfl rfl rfl rfl rfl fun a hs => ?_
     refine st_skip hs rfl rfl rfl rfl rfl fun a hs => ?_
     refine st_val hs (y_pickF rfl rfl) trivial rfl rfl fun a hs => ?_
     refine wpList_nil ?_
     have hsh := Option.some.inj hsh
     subst hsh
     refine then_normal ?_
     exact ⟨p496, k497, Sv499, (hs.wk rfl), (hw.ft [2, 3, 0, 1, 4] [0, 1, 3] (by decide) rfl rfl)⟩
   ·rintro a w ⟨p517, k518, Sv519, hs, hw⟩
    refine wpList_nil ?_
    refine then_normal ?_
    refine wp_join (fun a w => ∃ (x576 : (List Int)) (x577 : Int) (x578 : ByteArray) (x579 : ByteArray) (x580 : ByteArray) (x581 : ByteArray) (x582 : Int) (x583 : Int) (x584 : Int) (x585 : Int) (x586 : Int) (x587 : Int) (x588 : Int) (x589 : (List Int)) (p571 : Option Addr) (k572 : Nat) (p573 : Option Addr) (k574 : Nat) (Sv575 : Nat → Prop), made_Dice_Records_j1 sv28 x576 x577 x578 x579 x580 x581 x582 x583 x584 x585 x586 x587 x588 x589 = some tv372 ∧ Sl 48 [(0, .pointer (some ⟨b2, 0, none⟩)), (5, .pointer (some ⟨b17, 0, none⟩)), (6, .slice p258 sv28.2.2.1.length k259), (7, .int .i64 sv28.2.2.2), (8, .pointer (some ⟨b504, 0, none⟩))] a ∧ Wd ⟨w0, S0, blks [.box b2 [.slice p3 d1.L.length k4, .int .i64 d1.At] 60]⟩ Sv575 [.box b2 [.slice p571 x576.length k572, .int .i64 x577] 60, .box b17 [.string rv8.1.Network, .string rv8.1.Station, .string rv8.1.Location, .string rv8.1.Channel] 28, .box b504 [.string x578, .string x579, .string x580, .string x581, .int .i64 x582, .int .i64 x583, .int .i64 x584, .int .i64 x585, .int .i64 x586, .int .i64 x587, .int .i64 x588, .slice p573 x589.length k574] 32, .row p258 sv28.2.2.1.length k259 c257 32 12] [SlA p571 x576.length k572 x576, SlA p573 x589.length k574 x589, RowA c257 sv28.2.2.1] w) ?_ ?_
    ·refine wp_cond_split (hs.ev rfl) (fun h599 => ?_) (fun h599 => ?_)
     ·have hsh := ite_t hsh h599
      refine wp_seq ?_
      refine wp_region_lit ?_
      refine st_val hs (y_move rfl) trivial rfl rfl fun a hs => ?_
      refine st_val hs (y_move rfl) trivial rfl rfl fun a hs => ?_
      refine st_val hs (y_move rfl) trivial rfl rfl fun a hs => ?_
      refine st_val hs (y_len Try.runUnderlying51 rfl) trivial rfl rfl fun a hs => ?_
      obtain ⟨rv601, h600, hsh⟩ := bind_t hsh
      refine st_callR hs (made_Dice_Next_ok h600 hw.dom (hw.ins [0] (by decide) rfl) (hw.envAt 0 rfl)) (do_call Try.call16 rfl) trivial rfl rfl ?_
      intro v608 Sv605 w a h606 h607 hs
      obtain ⟨p602, k603, rfl, h609, h604⟩ := h607
      have hw := hw.callO [0] [1, 2, 3, 4] (by decide) rfl h606 h609
      have hw := hw.addE (e := SlA p602 rv601.2.L.length k603 rv601.2.L) h604
      obtain ⟨x612, h610, hsh⟩ := bind_t hsh
      obtain ⟨b619, q616, c617, h620, h613, h614, h618, h611⟩ := hw.elemRV (α := Record) 4 rfl 3 rfl h610
      have hsv621 := hs
      have hwv622 := hw
      subst h620
      have hs := hsv621
      have hw := hwv622
      obtain ⟨_, _, _, _, _, _, _, _, _, _, _, _, rfl, rfl, rfl, rfl, rfl, rfl, rfl, rfl, rfl, rfl, rfl, rfl, ⟨p623, n624, k625, rfl, h626⟩⟩ := h611
      obtain rfl := h626.1
      have hw := hw.addE (e := SlA p623 _ k625 x612.Samples) h626
      refine st_val hs (y_indexAt Try.runUnderlying51 Try.sizeOf32 rfl rfl h613.1 h613.2 h614) trivial rfl rfl fun a hs => ?_
      refine st_val hs (y_loadQA (j := 0) (hw.ownAt 4 rfl) rfl Try.isAgg32 Try.sizeOf32 h618 rfl rfl) trivial rfl rfl fun a hs => ?_
      refine w_store (m := 12) (cs' := [.string x612.Source.Network, .string x612.Source.Station, .string x612.Source.Location, .string x612.Source.Channel, .int .i64 x612.Start, .int .i64 x612.First, .int .i64 x612.Rate.Num, .int .i64 x612.Rate.Den, .int .i64 x612.Error, .int .i64 x612.Run, .int .i64 x612.Seq, .slice p623 x612.Samples.length k625]) hs hw 2 rfl rfl rfl Try.sizeOf32 rfl rfl rfl rfl trivial ?_
      intro a w hs hw
      refine wpList_nil ?_
      refine then_normal ?_
      refine wp_region_lit ?_
      refine st_val hs (y_move rfl) trivial rfl rfl fun a hs => ?_
      refine st_val hs (y_fieldAddr (o' := 10) Try.runUnderlying32 rfl Try.sizeOf3 rfl rfl rfl) trivial rfl rfl fun a hs => ?_
      refine st_val hs (y_loadB1 (hw.ownAt 2 rfl) rfl Try.isAgg3 rfl) trivial rfl rfl fun a hs => ?_
      refine w_litSlice (α := Int) (vs := [.int .i64 x612.Seq, .int .i64 9]) (cs := [.int .i64 x612.Seq, .int .i64 9]) (xs := ([x612.Seq, 9] : List Int)) hs hw El22 rfl rfl rfl rfl rfl rfl ⟨⟨_, rfl, rfl⟩, ⟨⟨_, rfl, rfl⟩, rfl⟩⟩ rfl trivial rfl fun b628 a w hs hw => ?_
      obtain ⟨rv630, h629, hsh⟩ := bind_t hsh
      obtain ⟨Sv634, hw⟩ := w_share (α := Int) hw 0 rfl 0 rfl
      refine st_callR hs (made_Dice_Pick_ok h629 hw.dom (hw.ins [0] (by decide) rfl) (hw.envAt 3 rfl) (hw.envAt 0 rfl)) (do_call Try.call36 rfl) trivial rfl rfl ?_
      intro v638 Sv635 w a h636 h637 hs
      obtain ⟨p631, k632, rfl, h639, h633⟩ := h637
      have hw := hw.callO [0] [1, 2, 3, 4] (by decide) rfl h636 h639
      have hw := hw.addE (e := SlA p631 rv630.2.L.length k632 rv630.2.L) h633
      refine st_val hs (y_fieldAddr (o' := 10) Try.runUnderlying32 rfl Try.sizeOf3 rfl rfl rfl) trivial rfl rfl fun a hs => ?_
      refine w_store (m := 1) (cs' := [.string x612.Source.Network, .string x612.Source.Station, .string x612.Source.Location, .string x612.Source.Channel, .int .i64 x612.Start, .int .i64 x612.First, .int .i64 x612.Rate.Num, .int .i64 x612.Rate.Den, .int .i64 x612.Error, .int .i64 x612.Run, .int .i64 rv630.1, .slice p623 x612.Samples.length k625]) hs hw 2 rfl rfl rfl Try.sizeOf3 rfl rfl rfl rfl trivial ?_
      intro a w hs hw
      refine wpList_nil ?_
      refine then_normal ?_
      exact ⟨rv630.2.L, rv630.2.At, x612.Source.Network, x612.Source.Station, x612.Source.Location, x612.Source.Channel, x612.Start, x612.First, x612.Rate.Num, x612.Rate.Den, x612.Error, x612.Run, rv630.1, x612.Samples, p631, k632, p623, k625, Sv635, hsh, (hs.wk rfl), (hw.ft [0, 1, 2, 4] [0, 3, 7] (by decide) rfl rfl)⟩
     ·have hsh := ite_f hsh h599
      refine wp_skip ?_
      refine then_normal ?_
      obtain ⟨Sv640, hw⟩ := w_share (α := Int) hw 3 rfl 1 rfl
      exact ⟨c516.1, c516.2.1, rv491.1.Source.Network, rv491.1.Source.Station, rv491.1.Source.Location, rv491.1.Source.Channel, rv491.1.Start, rv491.1.First, rv491.1.Rate.Num, rv491.1.Rate.Den, rv491.1.Error, rv491.1.Run, rv491.1.Seq, rv491.1.Samples, p517, k518, p492, k493, Sv640, hsh, (hs.wk rfl), (hw.ft [0, 1, 2, 3] [1, 0, 3] (by decide) rfl rfl)⟩
    ·rintro a w ⟨x576, x577, x578, x579, x580, x581, x582, x583, x584, x585, x586, x587, x588, x589, p571, k572, p573, k574, Sv575, hsh, hs, hw⟩
     delta made_Dice_Records_j1 at hsh
     refine then_normal ?_
     refine wp_region_lit ?_
     refine st_val hs (y_move rfl) trivial rfl rfl fun a hs => ?_
     refine st_val hs (y_loadBA (hw.ownAt 2 rfl) rfl Try.isAgg32 Try.sizeOf32 rfl rfl) trivial rfl rfl fun a hs => ?_
     refine w_litSlice (α := Record) (vs := [.agg #[.string x578, .string x579, .string x580, .string x581, .int .i64 x582, .int .i64 x583, .int .i64 x584, .int .i64 x585, .int .i64 x586, .int .i64 x587, .int .i64 x588, .slice p573 x589.length k574]]) (cs := [.string x578, .string x579, .string x580, .string x581, .int .i64 x582, .int .i64 x583, .int .i64 x584, .int .i64 x585, .int .i64 x586, .int .i64 x587, .int .i64 x588, .slice p573 x589.length k574]) (xs := ([(⟨(⟨x578, x579, x580, x581⟩ : SourceID), x582, x583, (⟨x584, x585⟩ : Rate), x586, x587, x588, x589⟩ : Record)] : List Record)) hs hw El51 rfl rfl rfl rfl rfl rfl ⟨⟨_, _, _, _, _, _, _, _, _, _, _, _, rfl, rfl, rfl, rfl, rfl, rfl, rfl, rfl, rfl, rfl, rfl, rfl, ⟨_, _, _, rfl, hw.envAt 1 rfl⟩⟩, rfl⟩ rfl trivial rfl fun b591 a w hs hw => ?_
     obtain ⟨l593, h592, hsh⟩ := bind_t hsh
     refine w_appendR (α := Record) hs hw El51 4 rfl rfl rfl 3 rfl 0 rfl 0 rfl h592 rfl trivial ?_
     intro p594 k595 c596 a w hs hw
     refine st_val hs (y_assign rfl) trivial rfl rfl fun a hs => ?_
     refine wpList_nil ?_
     refine blk_normal ?_
     refine then_normal ?_
     refine wp_region_lit ?_
     refine st_val hs (y_move rfl) trivial rfl rfl fun a hs => ?_
     refine st_val hs (y_sub rfl rfl) trivial rfl rfl fun a hs => ?_
     obtain ⟨i598, h597, hsh⟩ := bind_t hsh
     refine st_val hs (y_assignI rfl h597) trivial rfl rfl fun a hs => ?_
     refine wpList_nil ?_
     refine then_normal ?_
     exact ⟨_, (Option.some.inj hsh).symm, p571, k572, c596, p594, k595, Sv575, (hs.wk rfl), (hw.ft [1, 2, 4] [2, 0] (by decide) rfl rfl)⟩
  ·have hsh := ite_f hsh h382
   refine wp_exit ?_
   refine then_exit ?_
   refine then_exit ?_
   refine blk_exit ?_
   have hsh := Option.some.inj hsh
   subst hsh
   have h641 := hd371 _ rfl
   subst h641
   refine then_normal ?_
   exact ⟨p255, k256, c257, p258, k259, Sv260, (hs.wk rfl), (hw.ft [0, 2] [0, 1] (by decide) rfl rfl)⟩
 ·rintro a w ⟨p375, k376, c377, p378, k379, Sv380, hs, hw⟩
  refine then_normal ?_
  refine wp_seq ?_
  refine wp_region_lit ?_
  refine st_val hs (y_move rfl) trivial rfl rfl fun a hs => ?_
  refine st_val hs (y_assign rfl) trivial rfl rfl fun a hs => ?_
  refine wpList_nil ?_
  refine then_normal ?_
  have hsh := Option.some.inj hsh
  subst hsh
  refine wp_ret ?_
  exact ret1 hs rfl (rv_tmp rfl) (hw.ret ⟨p378, k379, c377, p375, k376, rfl, (hw.outs [1, 0] (by decide) rfl), (hw.envAt 1 rfl), (hw.envAt 0 rfl)⟩)

abbrev cmp_isNaN_string_rd (w0 : World) (X : List Nat) (r : Bool) : (Nat → Prop) → World → Value → Prop := fun S w v => v = .bool r
set_option maxHeartbeats 4000000 in
set_option maxRecDepth 100000 in
theorem cmp_isNaN_string_ok {w0 : World} {S0 : Nat → Prop} {x1 : ByteArray} {r : Bool} (hsh : cmp_isNaN_string x1 = some r) (hS : ∀ b, S0 b → b < w0.heap.size) : Calls Try.prog 77 #[.string x1] w0 (Ret ([]) w0 S0 (cmp_isNaN_string_rd w0 ([]) r)) := by
 refine calls_of_wp Try.func77 rfl ?_
 have hs := Sl.enter #[.string x1] 6 [(0, .string x1)] rfl ⟨rfl, trivial⟩
 have hw := Wd.enter (E := []) hS (fun _ h => (by cases h))
 delta cmp_isNaN_string at hsh
 refine wp_seq ?_
 refine wp_region_lit ?_
 refine st_val hs (y_assign rfl) trivial rfl rfl fun a hs => ?_
 refine wpList_nil ?_
 refine then_normal ?_
 refine wp_seq ?_
 refine wp_region_lit ?_
 refine st_val hs (y_move rfl) trivial rfl rfl fun a hs => ?_
 refine st_val hs (y_move rfl) trivial rfl rfl fun a hs => ?_
 refine st_val hs (y_neqS rfl rfl) trivial rfl rfl fun a hs => ?_
 refine st_val hs (y_assign rfl) trivial rfl rfl fun a hs => ?_
 refine wpList_nil ?_
 refine then_normal ?_
 have hsh := Option.some.inj hsh
 subst hsh
 refine wp_ret ?_
 exact ret1 hs rfl (rv_tmp rfl) (hw.ret rfl)

abbrev cmp_Compare_string_rd (w0 : World) (X : List Nat) (r : Int) : (Nat → Prop) → World → Value → Prop := fun S w v => v = .int .i64 r
set_option maxHeartbeats 4000000 in
set_option maxRecDepth 100000 in
theorem cmp_Compare_string_ok {w0 : World} {S0 : Nat → Prop} {x1 : ByteArray} {y2 : ByteArray} {r : Int} (hsh : cmp_Compare_string x1 y2 = some r) (hS : ∀ b, S0 b → b < w0.heap.size) : Calls Try.prog 67 #[.string x1, .string y2] w0 (Ret ([]) w0 S0 (cmp_Compare_string_rd w0 ([]) r)) := by
 refine calls_of_wp Try.func67 rfl ?_
 have hs := Sl.enter #[.string x1, .string y2] 20 [(0, .string x1), (1, .string y2)] rfl ⟨rfl, rfl, trivial⟩
 have hw := Wd.enter (E := []) hS (fun _ h => (by cases h))
 delta cmp_Compare_string at hsh
 refine wp_seq ?_
 refine wp_region_lit ?_
 refine st_val hs (y_assign rfl) trivial rfl rfl fun a hs => ?_
 refine wpList_nil ?_
 refine then_normal ?_
 refine wp_seq ?_
 refine wp_region_lit ?_
 refine st_val hs (y_move rfl) trivial rfl rfl fun a hs => ?_
 obtain ⟨rv4, h3, hsh⟩ := bind_t hsh
 refine st_callR hs (cmp_isNaN_string_ok h3 hw.bdom) (do_call Try.call77 rfl) trivial rfl rfl ?_
 intro v8 Sv5 w a h6 h7 hs
 subst h7
 have hw := hw.callB h6
 refine st_val hs (y_assign rfl) trivial rfl rfl fun a hs => ?_
 refine wpList_nil ?_
 refine then_normal ?_
 refine wp_seq ?_
 refine wp_region_lit ?_
 refine st_val hs (y_move rfl) trivial rfl rfl fun a hs => ?_
 obtain ⟨rv11, h10, hsh⟩ := bind_t hsh
 refine st_callR hs (cmp_isNaN_string_ok h10 hw.bdom) (do_call Try.call77 rfl) trivial rfl rfl ?_
 intro v15 Sv12 w a h13 h14 hs
 subst h14
 have hw := hw.callB h13
 refine st_val hs (y_assign rfl) trivial rfl rfl fun a hs => ?_
 refine wpList_nil ?_
 refine then_normal ?_
 refine wp_seq ?_
 refine wp_seq ?_
 refine wp_region_lit ?_
 refine st_val hs (y_move rfl) trivial rfl rfl fun a hs => ?_
 refine wpList_nil ?_
 refine then_normal ?_
 refine wp_cond_split (hs.ev rfl) (fun h19 => ?_) (fun h19 => ?_)
 ·have hsh := ite_t hsh h19
  refine wp_seq ?_
  refine wp_seq ?_
  refine wp_region_lit ?_
  refine st_val hs (y_move rfl) trivial rfl rfl fun a hs => ?_
  refine wpList_nil ?_
  refine then_normal ?_
  refine wp_cond_split (hs.ev rfl) (fun h21 => ?_) (fun h21 => ?_)
  ·have hsh := ite_t hsh h21
   refine wp_seq ?_
   refine wp_region_lit ?_
   refine st_val hs (y_assign rfl) trivial rfl rfl fun a hs => ?_
   refine wpList_nil ?_
   refine then_normal ?_
   have hsh := Option.some.inj hsh
   subst hsh
   refine wp_ret ?_
   refine then_ret ?_
   refine then_ret ?_
   exact ret1 hs rfl (rv_tmp rfl) (hw.ret rfl)
  ·have hsh := ite_f hsh h21
   refine wp_skip ?_
   refine then_normal ?_
   refine wp_seq ?_
   refine wp_region_lit ?_
   refine st_val hs (y_assign rfl) trivial rfl rfl fun a hs => ?_
   refine wpList_nil ?_
   refine then_normal ?_
   have hsh := Option.some.inj hsh
   subst hsh
   refine wp_ret ?_
   refine then_ret ?_
   exact ret1 hs rfl (rv_tmp rfl) (hw.ret rfl)
 ·have hsh := ite_f hsh h19
  refine wp_skip ?_
  refine then_normal ?_
  refine wp_seq ?_
  refine wp_seq ?_
  refine wp_region_lit ?_
  refine st_val hs (y_move rfl) trivial rfl rfl fun a hs => ?_
  refine wpList_nil ?_
  refine then_normal ?_
  refine wp_cond_split (hs.ev rfl) (fun h23 => ?_) (fun h23 => ?_)
  ·have hsh := ite_t hsh h23
   refine wp_seq ?_
   refine wp_region_lit ?_
   refine st_val hs (y_assign rfl) trivial rfl rfl fun a hs => ?_
   refine wpList_nil ?_
   refine then_normal ?_
   have hsh := Option.some.inj hsh
   subst hsh
   refine wp_ret ?_
   refine then_ret ?_
   exact ret1 hs rfl (rv_tmp rfl) (hw.ret rfl)
  ·have hsh := ite_f hsh h23
   refine wp_skip ?_
   refine then_normal ?_
   refine wp_seq ?_
   refine wp_seq ?_
   refine wp_region_lit ?_
   refine st_val hs (y_move rfl) trivial rfl rfl fun a hs => ?_
   refine st_val hs (y_move rfl) trivial rfl rfl fun a hs => ?_
   refine st_val hs (y_lssS rfl rfl) trivial rfl rfl fun a hs => ?_
   refine wpList_nil ?_
   refine then_normal ?_
   refine wp_cond_split (hs.ev rfl) (fun h25 => ?_) (fun h25 => ?_)
   ·have hsh := ite_t hsh h25
    refine wp_seq ?_
    refine wp_region_lit ?_
    refine st_val hs (y_assign rfl) trivial rfl rfl fun a hs => ?_
    refine wpList_nil ?_
    refine then_normal ?_
    have hsh := Option.some.inj hsh
    subst hsh
    refine wp_ret ?_
    refine then_ret ?_
    exact ret1 hs rfl (rv_tmp rfl) (hw.ret rfl)
   ·have hsh := ite_f hsh h25
    refine wp_skip ?_
    refine then_normal ?_
    refine wp_seq ?_
    refine wp_seq ?_
    refine wp_region_lit ?_
    refine st_val hs (y_move rfl) trivial rfl rfl fun a hs => ?_
    refine st_val hs (y_move rfl) trivial rfl rfl fun a hs => ?_
    refine st_val hs (y_gtrS rfl rfl) trivial rfl rfl fun a hs => ?_
    refine wpList_nil ?_
    refine then_normal ?_
    refine wp_cond_split (hs.ev rfl) (fun h27 => ?_) (fun h27 => ?_)
    ·have hsh := ite_t hsh h27
     refine wp_seq ?_
     refine wp_region_lit ?_
     refine st_val hs (y_assign rfl) trivial rfl rfl fun a hs => ?_
     refine wpList_nil ?_
     refine then_normal ?_
     have hsh := Option.some.inj hsh
     subst hsh
     refine wp_ret ?_
     refine then_ret ?_
     exact ret1 hs rfl (rv_tmp rfl) (hw.ret rfl)
    ·have hsh := ite_f hsh h27
     refine wp_skip ?_
     refine then_normal ?_
     refine wp_seq ?_
     refine wp_region_lit ?_
     refine st_val hs (y_assign rfl) trivial rfl rfl fun a hs => ?_
     refine wpList_nil ?_
     refine then_normal ?_
     have hsh := Option.some.inj hsh
     subst hsh
     refine wp_ret ?_
     exact ret1 hs rfl (rv_tmp rfl) (hw.ret rfl)

abbrev cmp_Or_int_rd (w0 : World) (X : List Nat) (r : Int) : (Nat → Prop) → World → Value → Prop := fun S w v => v = .int .i64 r
set_option maxHeartbeats 4000000 in
set_option maxRecDepth 100000 in
theorem cmp_Or_int_ok {w0 : World} {S0 : Nat → Prop} {p2 : Option Addr} {k3 : Nat} {vals1 : (List Int)} {r : Int} (hsh : cmp_Or_int vals1 = some r) (hS : ∀ b, S0 b → b < w0.heap.size) (h4 : (SlA p2 vals1.length k3 vals1).p S0 w0) : Calls Try.prog 47 #[.slice p2 vals1.length k3] w0 (Ret ([]) w0 S0 (cmp_Or_int_rd w0 ([]) r)) := by
 refine calls_of_wp Try.func47 rfl ?_
 have hs := Sl.enter #[.slice p2 vals1.length k3] 18 [(0, .slice p2 vals1.length k3)] rfl ⟨rfl, trivial⟩
 have hw := Wd.enter (E := []) hS (fun _ h => (by cases h))
 have hw := hw.addE h4
 delta cmp_Or_int at hsh
 refine wp_seq ?_
 refine wp_region_lit ?_
 refine st_val hs (y_assign rfl) trivial rfl rfl fun a hs => ?_
 refine wpList_nil ?_
 refine then_normal ?_
 refine wp_seq ?_
 refine wp_region_lit ?_
 refine st_val hs (y_assign rfl) trivial rfl rfl fun a hs => ?_
 refine wpList_nil ?_
 refine then_normal ?_
 refine wp_seq ?_
 refine wp_seq ?_
 refine wp_region_lit ?_
 refine st_val hs (y_move rfl) trivial rfl rfl fun a hs => ?_
 refine st_val hs (y_len Try.runUnderlying22 rfl) trivial rfl rfl fun a hs => ?_
 refine st_val hs (y_move rfl) trivial rfl rfl fun a hs => ?_
 refine wpList_nil ?_
 refine then_normal ?_
 refine wp_block ?_
 refine wp_while (fun sv55 a w => ∃ (Sv87 : Nat → Prop), Sl 18 [(3, .int .i64 0), (6, .slice p2 vals1.length k3), (7, .int .i64 (vals1.length : Int)), (8, .int .i64 sv55)] a ∧ Wd ⟨w0, S0, []⟩ Sv87 [] [SlA p2 vals1.length k3 vals1] w) 0 hsh ⟨S0, (hs.wk rfl), (hw.ft [] [0] (by decide) rfl rfl)⟩ ?_
 repeat clear hsh
 rintro sv55 a w tv104 ⟨Sv87, hs, hw⟩ hsh hd103
 delta cmp_Or_int_l2 at hsh
 refine wp_seq ?_
 refine wp_region_lit ?_
 refine st_val hs (y_lss rfl rfl) trivial rfl rfl fun a hs => ?_
 refine wpList_nil ?_
 refine then_normal ?_
 refine wp_seq ?_
 refine wp_cond_split (hs.ev rfl) (fun h108 => ?_) (fun h108 => ?_)
 ·have hsh := ite_t hsh h108
  refine wp_skip ?_
  refine then_normal ?_
  refine wp_seq ?_
  refine wp_block ?_
  refine wp_seq ?_
  refine wp_region_lit ?_
  obtain ⟨x125, h123, hsh⟩ := bind_t hsh
  obtain ⟨b131, o132, q129, c130, h133, h126, h127, h128, h124⟩ := hw.elemV 0 rfl h123
  have hsv134 := hs
  have hwv135 := hw
  subst h133
  have hs := hsv134
  have hw := hwv135
  obtain ⟨_, rfl, rfl⟩ := h124
  have hw := hw.addE h128
  refine st_val hs (y_indexAt Try.runUnderlying22 Try.sizeOf3 rfl rfl h126.1 h126.2 h127) trivial rfl rfl fun a hs => ?_
  refine st_val hs (y_loadE1 (j := 0) (hw.ceAt 0 rfl) rfl Try.isAgg3 rfl) trivial rfl rfl fun a hs => ?_
  refine st_val hs (y_assign rfl) trivial rfl rfl fun a hs => ?_
  refine wpList_nil ?_
  refine then_normal ?_
  refine wp_seq ?_
  refine wp_region_lit ?_
  refine st_val hs (y_move rfl) trivial rfl rfl fun a hs => ?_
  refine st_val hs (y_move rfl) trivial rfl rfl fun a hs => ?_
  refine st_val hs (y_neq rfl rfl) trivial rfl rfl fun a hs => ?_
  refine wpList_nil ?_
  refine then_normal ?_
  refine wp_cond_split (hs.ev rfl) (fun h137 => ?_) (fun h137 => ?_)
  ·have hsh := ite_t hsh h137
   refine wp_seq ?_
   refine wp_region_lit ?_
   refine st_val hs (y_move rfl) trivial rfl rfl fun a hs => ?_
   refine st_val hs (y_assign rfl) trivial rfl rfl fun a hs => ?_
   refine wpList_nil ?_
   refine then_normal ?_
   have hsh := Option.some.inj hsh
   subst hsh
   have h138 := hd103 _ rfl
   subst h138
   refine wp_ret ?_
   refine blk_ret ?_
   refine then_ret ?_
   refine then_ret ?_
   refine blk_ret ?_
   refine then_ret ?_
   exact ret1 hs rfl (rv_tmp rfl) (hw.ret rfl)
  ·have hsh := ite_f hsh h137
   refine wp_skip ?_
   refine blk_normal ?_
   refine then_normal ?_
   refine wp_region_lit ?_
   refine st_val hs (y_add rfl rfl) trivial rfl rfl fun a hs => ?_
   refine st_val hs (y_move rfl) trivial rfl rfl fun a hs => ?_
   refine wpList_nil ?_
   refine then_normal ?_
   exact ⟨_, (Option.some.inj hsh).symm, Sv87, (hs.wk rfl), (hw.ft [] [1] (by decide) rfl rfl)⟩
 ·have hsh := ite_f hsh h108
  obtain ⟨rv139, hsh, h140⟩ := map_t hsh
  have h140 := (hd103 _ h140.symm).symm
  subst h140
  refine wp_exit ?_
  refine then_exit ?_
  refine then_exit ?_
  refine blk_exit ?_
  refine then_normal ?_
  refine wp_seq ?_
  refine wp_region_lit ?_
  refine st_val hs (y_move rfl) trivial rfl rfl fun a hs => ?_
  refine st_val hs (y_assign rfl) trivial rfl rfl fun a hs => ?_
  refine wpList_nil ?_
  refine then_normal ?_
  have hsh := Option.some.inj hsh
  subst hsh
  refine wp_ret ?_
  exact ret1 hs rfl (rv_tmp rfl) (hw.ret rfl)

abbrev source_Compare_rd (w0 : World) (X : List Nat) (r : Int) : (Nat → Prop) → World → Value → Prop := fun S w v => v = .int .i64 r
set_option maxHeartbeats 4000000 in
set_option maxRecDepth 100000 in
theorem source_Compare_ok {w0 : World} {S0 : Nat → Prop} {a1 : SourceID} {b2 : SourceID} {r : Int} (hsh : source_Compare a1 b2 = some r) (hS : ∀ b, S0 b → b < w0.heap.size) : Calls Try.prog 48 #[.agg #[.string a1.Network, .string a1.Station, .string a1.Location, .string a1.Channel], .agg #[.string b2.Network, .string b2.Station, .string b2.Location, .string b2.Channel]] w0 (Ret ([]) w0 S0 (source_Compare_rd w0 ([]) r)) := by
 refine calls_of_wp Try.func48 rfl ?_
 have hs := Sl.enter #[.agg #[.string a1.Network, .string a1.Station, .string a1.Location, .string a1.Channel], .agg #[.string b2.Network, .string b2.Station, .string b2.Location, .string b2.Channel]] 27 [(0, .agg #[.string a1.Network, .string a1.Station, .string a1.Location, .string a1.Channel]), (1, .agg #[.string b2.Network, .string b2.Station, .string b2.Location, .string b2.Channel])] rfl ⟨rfl, rfl, trivial⟩
 have hw := Wd.enter (E := []) hS (fun _ h => (by cases h))
 delta source_Compare at hsh
 refine wp_seq ?_
 refine wp_region_lit ?_
 refine w_box (cs := [.string a1.Network, .string a1.Station, .string a1.Location, .string a1.Channel]) hs hw rfl rfl rfl trivial ?_
 intro b3 a w hs hw
 refine w_box (cs := [.string b2.Network, .string b2.Station, .string b2.Location, .string b2.Channel]) hs hw rfl rfl rfl trivial ?_
 intro b4 a w hs hw
 refine st_val hs (y_assign rfl) trivial rfl rfl fun a hs => ?_
 refine wpList_nil ?_
 refine then_normal ?_
 refine wp_seq ?_
 obtain ⟨rv6, h5, hsh⟩ := bind_t hsh
 obtain ⟨rv8, h7, hsh⟩ := bind_t hsh
 obtain ⟨rv10, h9, hsh⟩ := bind_t hsh
 obtain ⟨rv12, h11, hsh⟩ := bind_t hsh
 obtain ⟨rv16, h15, hsh⟩ := bind_t hsh
 refine wp_only (fun a w => ∃ (Sv17 : Nat → Prop), Sl 27 [(4, .int .i64 rv16)] a ∧ Wd ⟨w0, S0, []⟩ Sv17 [] [] w) ?_ ?_
 ·refine h_b (C := Cls [.box b4 [.string b2.Network, .string b2.Station, .string b2.Location, .string b2.Channel] 28, .box b3 [.string a1.Network, .string a1.Station, .string a1.Location, .string a1.Channel] 28] []) (by kernel_rfl) rfl (hw.drew.cs [0, 1] [] rfl rfl) fun hC => ?_
  have hw := hw.drew
  refine h_g hs 0 rfl (by kernel_rfl) rfl rfl hC rfl (fun w hC => y_fieldAddr (o' := 0) Try.runUnderlying28 rfl Try.sizeOf9 rfl rfl rfl) fun a hs => ?_
  refine h_g hs 1 rfl (by kernel_rfl) rfl rfl hC rfl (fun w hC => y_loadB1 (hC.ownAt 1 rfl) rfl Try.isAgg9 rfl) fun a hs => ?_
  refine h_g hs 2 rfl (by kernel_rfl) rfl rfl hC rfl (fun w hC => y_fieldAddr (o' := 0) Try.runUnderlying28 rfl Try.sizeOf9 rfl rfl rfl) fun a hs => ?_
  refine h_g hs 3 rfl (by kernel_rfl) rfl rfl hC rfl (fun w hC => y_loadB1 (hC.ownAt 0 rfl) rfl Try.isAgg9 rfl) fun a hs => ?_
  refine h_g hs 5 rfl (by kernel_rfl) rfl rfl hC rfl (fun w hC => y_fieldAddr (o' := 1) Try.runUnderlying28 rfl Try.sizeOf9 rfl rfl rfl) fun a hs => ?_
  refine h_g hs 6 rfl (by kernel_rfl) rfl rfl hC rfl (fun w hC => y_loadB1 (hC.ownAt 1 rfl) rfl Try.isAgg9 rfl) fun a hs => ?_
  refine h_g hs 7 rfl (by kernel_rfl) rfl rfl hC rfl (fun w hC => y_fieldAddr (o' := 1) Try.runUnderlying28 rfl Try.sizeOf9 rfl rfl rfl) fun a hs => ?_
  refine h_g hs 8 rfl (by kernel_rfl) rfl rfl hC rfl (fun w hC => y_loadB1 (hC.ownAt 0 rfl) rfl Try.isAgg9 rfl) fun a hs => ?_
  refine h_g hs 10 rfl (by kernel_rfl) rfl rfl hC rfl (fun w hC => y_fieldAddr (o' := 2) Try.runUnderlying28 rfl Try.sizeOf9 rfl rfl rfl) fun a hs => ?_
  refine h_g hs 11 rfl (by kernel_rfl) rfl rfl hC rfl (fun w hC => y_loadB1 (hC.ownAt 1 rfl) rfl Try.isAgg9 rfl) fun a hs => ?_
  refine h_g hs 12 rfl (by kernel_rfl) rfl rfl hC rfl (fun w hC => y_fieldAddr (o' := 2) Try.runUnderlying28 rfl Try.sizeOf9 rfl rfl rfl) fun a hs => ?_
  refine h_g hs 13 rfl (by kernel_rfl) rfl rfl hC rfl (fun w hC => y_loadB1 (hC.ownAt 0 rfl) rfl Try.isAgg9 rfl) fun a hs => ?_
  refine h_g hs 15 rfl (by kernel_rfl) rfl rfl hC rfl (fun w hC => y_fieldAddr (o' := 3) Try.runUnderlying28 rfl Try.sizeOf9 rfl rfl rfl) fun a hs => ?_
  refine h_g hs 16 rfl (by kernel_rfl) rfl rfl hC rfl (fun w hC => y_loadB1 (hC.ownAt 1 rfl) rfl Try.isAgg9 rfl) fun a hs => ?_
  refine h_g hs 17 rfl (by kernel_rfl) rfl rfl hC rfl (fun w hC => y_fieldAddr (o' := 3) Try.runUnderlying28 rfl Try.sizeOf9 rfl rfl rfl) fun a hs => ?_
  refine h_g hs 18 rfl (by kernel_rfl) rfl rfl hC rfl (fun w hC => y_loadB1 (hC.ownAt 0 rfl) rfl Try.isAgg9 rfl) fun a hs => ?_
  refine h_one (i := 4) (by kernel_rfl) rfl ?_
  refine st_callR hs (cmp_Compare_string_ok h5 hw.bdom) (do_call Try.call67 rfl) trivial rfl rfl ?_
  intro v21 Sv18 w a h19 h20 hs
  subst h20
  have hw := hw.callB h19
  refine h_nx (hw.cs [0, 1] [] rfl rfl) fun hC => ?_
  refine h_one (i := 9) (by kernel_rfl) rfl ?_
  refine st_callR hs (cmp_Compare_string_ok h7 hw.bdom) (do_call Try.call67 rfl) trivial rfl rfl ?_
  intro v26 Sv23 w a h24 h25 hs
  subst h25
  have hw := hw.callB h24
  refine h_nx (hw.cs [0, 1] [] rfl rfl) fun hC => ?_
  refine h_one (i := 14) (by kernel_rfl) rfl ?_
  refine st_callR hs (cmp_Compare_string_ok h9 hw.bdom) (do_call Try.call67 rfl) trivial rfl rfl ?_
  intro v31 Sv28 w a h29 h30 hs
  subst h30
  have hw := hw.callB h29
  refine h_nx (hw.cs [0, 1] [] rfl rfl) fun hC => ?_
  refine h_one (i := 19) (by kernel_rfl) rfl ?_
  refine st_callR hs (cmp_Compare_string_ok h11 hw.bdom) (do_call Try.call67 rfl) trivial rfl rfl ?_
  intro v36 Sv33 w a h34 h35 hs
  subst h35
  have hw := hw.callB h34
  refine h_nx (hw.cs [0, 1] [] rfl rfl) fun hC => ?_
  refine h_one (i := 20) (by kernel_rfl) rfl ?_
  refine w_litSlice (α := Int) (vs := [.int .i64 rv6, .int .i64 rv8, .int .i64 rv10, .int .i64 rv12]) (cs := [.int .i64 rv6, .int .i64 rv8, .int .i64 rv10, .int .i64 rv12]) (xs := ([rv6, rv8, rv10, rv12] : List Int)) hs hw El22 rfl rfl rfl rfl rfl rfl ⟨⟨_, rfl, rfl⟩, ⟨⟨_, rfl, rfl⟩, ⟨⟨_, rfl, rfl⟩, ⟨⟨_, rfl, rfl⟩, rfl⟩⟩⟩⟩ rfl trivial rfl fun b14 a w hs hw => ?_
  refine h_nx (hw.cs [1, 2] [] rfl rfl) fun hC => ?_
  refine h_st (C' := Cls [.box b4 [.string b2.Network, .string b2.Station, .string b2.Location, .string b2.Channel] 28, .box b3 [.string a1.Network, .string a1.Station, .string a1.Location, .string a1.Channel] 28, .row (some ⟨b14, 0, none⟩) ([rv6, rv8, rv10, rv12] : List Int).length ([rv6, rv8, rv10, rv12] : List Int).length [.int .i64 rv6, .int .i64 rv8, .int .i64 rv10, .int .i64 rv12] 3 1] []) (fun _ h => by exact h.sub [0, 1] (Sel.of rfl) (AllIn.of [] rfl)) (hw.cs [1, 2, 0] [] rfl rfl) fun hC => ?_
  refine h_one (i := 21) (by kernel_rfl) rfl ?_
  refine st_callR hs (cmp_Or_int_ok h15 hw.bdom (hw.bRow 0 rfl 0 rfl)) (do_call Try.call47 rfl) trivial rfl rfl ?_
  intro v41 Sv38 w a h39 h40 hs
  subst h40
  have hw := hw.callB h39
  refine h_nx (hw.cs [1, 2, 0] [] rfl rfl) fun hC => ?_
  refine h_g hs 22 rfl (by kernel_rfl) rfl rfl hC rfl (fun w hC => y_assign rfl) fun a hs => ?_
  refine h_done (by kernel_rfl) ?_
  exact ⟨S0, (hs.wk rfl), (hw.ft [] [] (by decide) rfl rfl)⟩
 ·rintro a w ⟨Sv17, hs, hw⟩
  refine then_normal ?_
  have hsh := Option.some.inj hsh
  subst hsh
  refine wp_ret ?_
  exact ret1 hs rfl (rv_tmp rfl) (hw.ret rfl)

abbrev record_begin_rd (w0 : World) (X : List Nat) (r : Int) : (Nat → Prop) → World → Value → Prop := fun S w v => v = .int .i64 r
set_option maxHeartbeats 4000000 in
set_option maxRecDepth 100000 in
theorem record_begin_ok {w0 : World} {S0 : Nat → Prop} {p2 : Option Addr} {k3 : Nat} {r1 : Record} {r : Int} (hsh : record_begin r1 = some r) (hS : ∀ b, S0 b → b < w0.heap.size) (h4 : (SlA p2 r1.Samples.length k3 r1.Samples).p S0 w0) : Calls Try.prog 50 #[.agg #[.string r1.Source.Network, .string r1.Source.Station, .string r1.Source.Location, .string r1.Source.Channel, .int .i64 r1.Start, .int .i64 r1.First, .int .i64 r1.Rate.Num, .int .i64 r1.Rate.Den, .int .i64 r1.Error, .int .i64 r1.Run, .int .i64 r1.Seq, .slice p2 r1.Samples.length k3]] w0 (Ret ([]) w0 S0 (record_begin_rd w0 ([]) r)) := by
 refine calls_of_wp Try.func50 rfl ?_
 have hs := Sl.enter #[.agg #[.string r1.Source.Network, .string r1.Source.Station, .string r1.Source.Location, .string r1.Source.Channel, .int .i64 r1.Start, .int .i64 r1.First, .int .i64 r1.Rate.Num, .int .i64 r1.Rate.Den, .int .i64 r1.Error, .int .i64 r1.Run, .int .i64 r1.Seq, .slice p2 r1.Samples.length k3]] 8 [(0, .agg #[.string r1.Source.Network, .string r1.Source.Station, .string r1.Source.Location, .string r1.Source.Channel, .int .i64 r1.Start, .int .i64 r1.First, .int .i64 r1.Rate.Num, .int .i64 r1.Rate.Den, .int .i64 r1.Error, .int .i64 r1.Run, .int .i64 r1.Seq, .slice p2 r1.Samples.length k3])] rfl ⟨rfl, trivial⟩
 have hw := Wd.enter (E := []) hS (fun _ h => (by cases h))
 have hw := hw.addE h4
 delta record_begin at hsh
 refine wp_seq ?_
 refine wp_region_lit ?_
 refine w_box (cs := [.string r1.Source.Network, .string r1.Source.Station, .string r1.Source.Location, .string r1.Source.Channel, .int .i64 r1.Start, .int .i64 r1.First, .int .i64 r1.Rate.Num, .int .i64 r1.Rate.Den, .int .i64 r1.Error, .int .i64 r1.Run, .int .i64 r1.Seq, .slice p2 r1.Samples.length k3]) hs hw rfl rfl rfl trivial ?_
 intro b5 a w hs hw
 refine st_val hs (y_assign rfl) trivial rfl rfl fun a hs => ?_
 refine wpList_nil ?_
 refine then_normal ?_
 refine wp_seq ?_
 refine wp_seq ?_
 refine wp_region_lit ?_
 refine st_val hs (y_loadBA (hw.ownAt 0 rfl) rfl Try.isAgg32 Try.sizeOf32 rfl rfl) trivial rfl rfl fun a hs => ?_
 obtain ⟨rv7, h6, hsh⟩ := bind_t hsh
 refine st_callR hs (record_Valid_ok h6 hw.bdom (hw.bE 0 rfl)) (do_call Try.call26 rfl) trivial rfl rfl ?_
 intro v11 Sv8 w a h9 h10 hs
 subst h10
 have hw := hw.callB h9
 refine st_val hs (y_not rfl) trivial rfl rfl fun a hs => ?_
 refine wpList_nil ?_
 refine then_normal ?_
 refine wp_cond_split (hs.ev rfl) (fun h14 => ?_) (fun h14 => ?_)
 ·have hsh := ite_t hsh h14
  refine wp_seq ?_
  refine wp_region_lit ?_
  refine st_val hs (y_assign rfl) trivial rfl rfl fun a hs => ?_
  refine wpList_nil ?_
  refine then_normal ?_
  have hsh := Option.some.inj hsh
  subst hsh
  refine wp_ret ?_
  refine then_ret ?_
  exact ret1 hs rfl (rv_tmp rfl) (hw.ret rfl)
 ·have hsh := ite_f hsh h14
  refine wp_skip ?_
  refine then_normal ?_
  refine wp_seq ?_
  refine wp_region_lit ?_
  refine st_val hs (y_loadBA (hw.ownAt 0 rfl) rfl Try.isAgg32 Try.sizeOf32 rfl rfl) trivial rfl rfl fun a hs => ?_
  obtain ⟨rv16, h15, hsh⟩ := bind_t hsh
  refine st_callR hs (record_time_ok h15 hw.bdom (hw.bE 0 rfl)) (do_call Try.call38 rfl) trivial rfl rfl ?_
  intro v20 Sv17 w a h18 h19 hs
  subst h19
  have hw := hw.callB h18
  refine st_val hs (y_assign rfl) trivial rfl rfl fun a hs => ?_
  refine wpList_nil ?_
  refine then_normal ?_
  have hsh := Option.some.inj hsh
  subst hsh
  refine wp_ret ?_
  exact ret1 hs rfl (rv_tmp rfl) (hw.ret rfl)

abbrev cmp_isNaN_int_rd (w0 : World) (X : List Nat) (r : Bool) : (Nat → Prop) → World → Value → Prop := fun S w v => v = .bool r
set_option maxHeartbeats 4000000 in
set_option maxRecDepth 100000 in
theorem cmp_isNaN_int_ok {w0 : World} {S0 : Nat → Prop} {x1 : Int} {r : Bool} (hsh : cmp_isNaN_int x1 = some r) (hS : ∀ b, S0 b → b < w0.heap.size) : Calls Try.prog 68 #[.int .i64 x1] w0 (Ret ([]) w0 S0 (cmp_isNaN_int_rd w0 ([]) r)) := by
 refine calls_of_wp Try.func68 rfl ?_
 have hs := Sl.enter #[.int .i64 x1] 6 [(0, .int .i64 x1)] rfl ⟨rfl, trivial⟩
 have hw := Wd.enter (E := []) hS (fun _ h => (by cases h))
 delta cmp_isNaN_int at hsh
 refine wp_seq ?_
 refine wp_region_lit ?_
 refine st_val hs (y_assign rfl) trivial rfl rfl fun a hs => ?_
 refine wpList_nil ?_
 refine then_normal ?_
 refine wp_seq ?_
 refine wp_region_lit ?_
 refine st_val hs (y_move rfl) trivial rfl rfl fun a hs => ?_
 refine st_val hs (y_move rfl) trivial rfl rfl fun a hs => ?_
 refine st_val hs (y_neq rfl rfl) trivial rfl rfl fun a hs => ?_
 refine st_val hs (y_assign rfl) trivial rfl rfl fun a hs => ?_
 refine wpList_nil ?_
 refine then_normal ?_
 have hsh := Option.some.inj hsh
 subst hsh
 refine wp_ret ?_
 exact ret1 hs rfl (rv_tmp rfl) (hw.ret rfl)

abbrev cmp_Compare_int_rd (w0 : World) (X : List Nat) (r : Int) : (Nat → Prop) → World → Value → Prop := fun S w v => v = .int .i64 r
set_option maxHeartbeats 4000000 in
set_option maxRecDepth 100000 in
theorem cmp_Compare_int_ok {w0 : World} {S0 : Nat → Prop} {x1 : Int} {y2 : Int} {r : Int} (hsh : cmp_Compare_int x1 y2 = some r) (hS : ∀ b, S0 b → b < w0.heap.size) : Calls Try.prog 49 #[.int .i64 x1, .int .i64 y2] w0 (Ret ([]) w0 S0 (cmp_Compare_int_rd w0 ([]) r)) := by
 refine calls_of_wp Try.func49 rfl ?_
 have hs := Sl.enter #[.int .i64 x1, .int .i64 y2] 20 [(0, .int .i64 x1), (1, .int .i64 y2)] rfl ⟨rfl, rfl, trivial⟩
 have hw := Wd.enter (E := []) hS (fun _ h => (by cases h))
 delta cmp_Compare_int at hsh
 refine wp_seq ?_
 refine wp_region_lit ?_
 refine st_val hs (y_assign rfl) trivial rfl rfl fun a hs => ?_
 refine wpList_nil ?_
 refine then_normal ?_
 refine wp_seq ?_
 refine wp_region_lit ?_
 refine st_val hs (y_move rfl) trivial rfl rfl fun a hs => ?_
 obtain ⟨rv4, h3, hsh⟩ := bind_t hsh
 refine st_callR hs (cmp_isNaN_int_ok h3 hw.bdom) (do_call Try.call68 rfl) trivial rfl rfl ?_
 intro v8 Sv5 w a h6 h7 hs
 subst h7
 have hw := hw.callB h6
 refine st_val hs (y_assign rfl) trivial rfl rfl fun a hs => ?_
 refine wpList_nil ?_
 refine then_normal ?_
 refine wp_seq ?_
 refine wp_region_lit ?_
 refine st_val hs (y_move rfl) trivial rfl rfl fun a hs => ?_
 obtain ⟨rv11, h10, hsh⟩ := bind_t hsh
 refine st_callR hs (cmp_isNaN_int_ok h10 hw.bdom) (do_call Try.call68 rfl) trivial rfl rfl ?_
 intro v15 Sv12 w a h13 h14 hs
 subst h14
 have hw := hw.callB h13
 refine st_val hs (y_assign rfl) trivial rfl rfl fun a hs => ?_
 refine wpList_nil ?_
 refine then_normal ?_
 refine wp_seq ?_
 refine wp_seq ?_
 refine wp_region_lit ?_
 refine st_val hs (y_move rfl) trivial rfl rfl fun a hs => ?_
 refine wpList_nil ?_
 refine then_normal ?_
 refine wp_cond_split (hs.ev rfl) (fun h19 => ?_) (fun h19 => ?_)
 ·have hsh := ite_t hsh h19
  refine wp_seq ?_
  refine wp_seq ?_
  refine wp_region_lit ?_
  refine st_val hs (y_move rfl) trivial rfl rfl fun a hs => ?_
  refine wpList_nil ?_
  refine then_normal ?_
  refine wp_cond_split (hs.ev rfl) (fun h21 => ?_) (fun h21 => ?_)
  ·have hsh := ite_t hsh h21
   refine wp_seq ?_
   refine wp_region_lit ?_
   refine st_val hs (y_assign rfl) trivial rfl rfl fun a hs => ?_
   refine wpList_nil ?_
   refine then_normal ?_
   have hsh := Option.some.inj hsh
   subst hsh
   refine wp_ret ?_
   refine then_ret ?_
   refine then_ret ?_
   exact ret1 hs rfl (rv_tmp rfl) (hw.ret rfl)
  ·have hsh := ite_f hsh h21
   refine wp_skip ?_
   refine then_normal ?_
   refine wp_seq ?_
   refine wp_region_lit ?_
   refine st_val hs (y_assign rfl) trivial rfl rfl fun a hs => ?_
   refine wpList_nil ?_
   refine then_normal ?_
   have hsh := Option.some.inj hsh
   subst hsh
   refine wp_ret ?_
   refine then_ret ?_
   exact ret1 hs rfl (rv_tmp rfl) (hw.ret rfl)
 ·have hsh := ite_f hsh h19
  refine wp_skip ?_
  refine then_normal ?_
  refine wp_seq ?_
  refine wp_seq ?_
  refine wp_region_lit ?_
  refine st_val hs (y_move rfl) trivial rfl rfl fun a hs => ?_
  refine wpList_nil ?_
  refine then_normal ?_
  refine wp_cond_split (hs.ev rfl) (fun h23 => ?_) (fun h23 => ?_)
  ·have hsh := ite_t hsh h23
   refine wp_seq ?_
   refine wp_region_lit ?_
   refine st_val hs (y_assign rfl) trivial rfl rfl fun a hs => ?_
   refine wpList_nil ?_
   refine then_normal ?_
   have hsh := Option.some.inj hsh
   subst hsh
   refine wp_ret ?_
   refine then_ret ?_
   exact ret1 hs rfl (rv_tmp rfl) (hw.ret rfl)
  ·have hsh := ite_f hsh h23
   refine wp_skip ?_
   refine then_normal ?_
   refine wp_seq ?_
   refine wp_seq ?_
   refine wp_region_lit ?_
   refine st_val hs (y_move rfl) trivial rfl rfl fun a hs => ?_
   refine st_val hs (y_move rfl) trivial rfl rfl fun a hs => ?_
   refine st_val hs (y_lss rfl rfl) trivial rfl rfl fun a hs => ?_
   refine wpList_nil ?_
   refine then_normal ?_
   refine wp_cond_split (hs.ev rfl) (fun h25 => ?_) (fun h25 => ?_)
   ·have hsh := ite_t hsh h25
    refine wp_seq ?_
    refine wp_region_lit ?_
    refine st_val hs (y_assign rfl) trivial rfl rfl fun a hs => ?_
    refine wpList_nil ?_
    refine then_normal ?_
    have hsh := Option.some.inj hsh
    subst hsh
    refine wp_ret ?_
    refine then_ret ?_
    exact ret1 hs rfl (rv_tmp rfl) (hw.ret rfl)
   ·have hsh := ite_f hsh h25
    refine wp_skip ?_
    refine then_normal ?_
    refine wp_seq ?_
    refine wp_seq ?_
    refine wp_region_lit ?_
    refine st_val hs (y_move rfl) trivial rfl rfl fun a hs => ?_
    refine st_val hs (y_move rfl) trivial rfl rfl fun a hs => ?_
    refine st_val hs (y_gtr rfl rfl) trivial rfl rfl fun a hs => ?_
    refine wpList_nil ?_
    refine then_normal ?_
    refine wp_cond_split (hs.ev rfl) (fun h27 => ?_) (fun h27 => ?_)
    ·have hsh := ite_t hsh h27
     refine wp_seq ?_
     refine wp_region_lit ?_
     refine st_val hs (y_assign rfl) trivial rfl rfl fun a hs => ?_
     refine wpList_nil ?_
     refine then_normal ?_
     have hsh := Option.some.inj hsh
     subst hsh
     refine wp_ret ?_
     refine then_ret ?_
     exact ret1 hs rfl (rv_tmp rfl) (hw.ret rfl)
    ·have hsh := ite_f hsh h27
     refine wp_skip ?_
     refine then_normal ?_
     refine wp_seq ?_
     refine wp_region_lit ?_
     refine st_val hs (y_assign rfl) trivial rfl rfl fun a hs => ?_
     refine wpList_nil ?_
     refine then_normal ?_
     have hsh := Option.some.inj hsh
     subst hsh
     refine wp_ret ?_
     exact ret1 hs rfl (rv_tmp rfl) (hw.ret rfl)

abbrev slices_Compare_Lint_int_rd (w0 : World) (X : List Nat) (r : Int) : (Nat → Prop) → World → Value → Prop := fun S w v => v = .int .i64 r
set_option maxHeartbeats 4000000 in
set_option maxRecDepth 100000 in
theorem slices_Compare_Lint_int_ok {w0 : World} {S0 : Nat → Prop} {p2 : Option Addr} {k3 : Nat} {p6 : Option Addr} {k7 : Nat} {s1_1 : (List Int)} {s2_5 : (List Int)} {r : Int} (hsh : slices_Compare_Lint_int s1_1 s2_5 = some r) (hS : ∀ b, S0 b → b < w0.heap.size) (h4 : (SlA p2 s1_1.length k3 s1_1).p S0 w0) (h8 : (SlA p6 s2_5.length k7 s2_5).p S0 w0) : Calls Try.prog 51 #[.slice p2 s1_1.length k3, .slice p6 s2_5.length k7] w0 (Ret ([]) w0 S0 (slices_Compare_Lint_int_rd w0 ([]) r)) := by
 refine calls_of_wp Try.func51 rfl ?_
 have hs := Sl.enter #[.slice p2 s1_1.length k3, .slice p6 s2_5.length k7] 36 [(0, .slice p2 s1_1.length k3), (1, .slice p6 s2_5.length k7)] rfl ⟨rfl, rfl, trivial⟩
 have hw := Wd.enter (E := []) hS (fun _ h => (by cases h))
 have hw := hw.addE h4
 have hw := hw.addE h8
 delta slices_Compare_Lint_int at hsh
 refine wp_seq ?_
 refine wp_region_lit ?_
 refine st_val hs (y_assign rfl) trivial rfl rfl fun a hs => ?_
 refine wpList_nil ?_
 refine then_normal ?_
 refine wp_seq ?_
 refine wp_seq ?_
 refine wp_region_lit ?_
 refine st_val hs (y_move rfl) trivial rfl rfl fun a hs => ?_
 refine st_val hs (y_len Try.runUnderlying22 rfl) trivial rfl rfl fun a hs => ?_
 refine st_val hs (y_move rfl) trivial rfl rfl fun a hs => ?_
 refine wpList_nil ?_
 refine then_normal ?_
 refine wp_block ?_
 refine wp_while (fun sv122 a w => ∃ (Sv196 : Nat → Prop), Sl 36 [(0, .slice p2 s1_1.length k3), (1, .slice p6 s2_5.length k7), (9, .slice p2 s1_1.length k3), (10, .int .i64 (s1_1.length : Int)), (11, .int .i64 sv122)] a ∧ Wd ⟨w0, S0, []⟩ Sv196 [] [SlA p2 s1_1.length k3 s1_1, SlA p6 s2_5.length k7 s2_5] w) 0 hsh ⟨S0, (hs.wk rfl), (hw.ft [] [1, 0] (by decide) rfl rfl)⟩ ?_
 repeat clear hsh
 rintro sv122 a w tv234 ⟨Sv196, hs, hw⟩ hsh hd233
 delta slices_Compare_Lint_int_l2 at hsh
 refine wp_seq ?_
 refine wp_region_lit ?_
 refine st_val hs (y_lss rfl rfl) trivial rfl rfl fun a hs => ?_
 refine wpList_nil ?_
 refine then_normal ?_
 refine wp_seq ?_
 refine wp_cond_split (hs.ev rfl) (fun h238 => ?_) (fun h238 => ?_)
 ·have hsh := ite_t hsh h238
  refine wp_skip ?_
  refine then_normal ?_
  refine wp_seq ?_
  refine wp_block ?_
  refine wp_seq ?_
  refine wp_region_lit ?_
  refine st_val hs (y_move rfl) trivial rfl rfl fun a hs => ?_
  obtain ⟨x276, h274, hsh⟩ := bind_t hsh
  obtain ⟨b282, o283, q280, c281, h284, h277, h278, h279, h275⟩ := hw.elemV 0 rfl h274
  have hsv285 := hs
  have hwv286 := hw
  subst h284
  have hs := hsv285
  have hw := hwv286
  obtain ⟨_, rfl, rfl⟩ := h275
  have hw := hw.addE h279
  refine st_val hs (y_indexAt Try.runUnderlying22 Try.sizeOf3 rfl rfl h277.1 h277.2 h278) trivial rfl rfl fun a hs => ?_
  refine st_val hs (y_loadE1 (j := 0) (hw.ceAt 0 rfl) rfl Try.isAgg3 rfl) trivial rfl rfl fun a hs => ?_
  refine st_val hs (y_assign rfl) trivial rfl rfl fun a hs => ?_
  refine st_val hs (y_assign rfl) trivial rfl rfl fun a hs => ?_
  refine wpList_nil ?_
  refine then_normal ?_
  refine wp_seq ?_
  refine wp_seq ?_
  refine wp_region_lit ?_
  refine st_val hs (y_move rfl) trivial rfl rfl fun a hs => ?_
  refine st_val hs (y_move rfl) trivial rfl rfl fun a hs => ?_
  refine st_val hs (y_len Try.runUnderlying22 rfl) trivial rfl rfl fun a hs => ?_
  refine st_val hs (y_geq rfl rfl) trivial rfl rfl fun a hs => ?_
  refine wpList_nil ?_
  refine then_normal ?_
  refine wp_cond_split (hs.ev rfl) (fun h288 => ?_) (fun h288 => ?_)
  ·have hsh := ite_t hsh h288
   refine wp_seq ?_
   refine wp_region_lit ?_
   refine st_val hs (y_assign rfl) trivial rfl rfl fun a hs => ?_
   refine wpList_nil ?_
   refine then_normal ?_
   have hsh := Option.some.inj hsh
   subst hsh
   have h289 := hd233 _ rfl
   subst h289
   refine wp_ret ?_
   refine then_ret ?_
   refine blk_ret ?_
   refine then_ret ?_
   refine then_ret ?_
   refine blk_ret ?_
   refine then_ret ?_
   exact ret1 hs rfl (rv_tmp rfl) (hw.ret rfl)
  ·have hsh := ite_f hsh h288
   refine wp_skip ?_
   refine then_normal ?_
   refine wp_seq ?_
   refine wp_region_lit ?_
   refine st_val hs (y_move rfl) trivial rfl rfl fun a hs => ?_
   refine st_val hs (y_move rfl) trivial rfl rfl fun a hs => ?_
   obtain ⟨x292, h290, hsh⟩ := bind_t hsh
   obtain ⟨b298, o299, q296, c297, h300, h293, h294, h295, h291⟩ := hw.elemV 2 rfl h290
   have hsv301 := hs
   have hwv302 := hw
   subst h300
   have hs := hsv301
   have hw := hwv302
   obtain ⟨_, rfl, rfl⟩ := h291
   have hw := hw.addE h295
   refine st_val hs (y_indexAt Try.runUnderlying22 Try.sizeOf3 rfl rfl h293.1 h293.2 h294) trivial rfl rfl fun a hs => ?_
   refine st_val hs (y_loadE1 (j := 0) (hw.ceAt 0 rfl) rfl Try.isAgg3 rfl) trivial rfl rfl fun a hs => ?_
   refine st_val hs (y_assign rfl) trivial rfl rfl fun a hs => ?_
   refine wpList_nil ?_
   refine then_normal ?_
   refine wp_seq ?_
   refine wp_region_lit ?_
   refine st_val hs (y_move rfl) trivial rfl rfl fun a hs => ?_
   refine st_val hs (y_move rfl) trivial rfl rfl fun a hs => ?_
   obtain ⟨rv304, h303, hsh⟩ := bind_t hsh
   refine st_callR hs (cmp_Compare_int_ok h303 hw.bdom) (do_call Try.call49 rfl) trivial rfl rfl ?_
   intro v308 Sv305 w a h306 h307 hs
   subst h307
   have hw := hw.callB h306
   refine st_val hs (y_assign rfl) trivial rfl rfl fun a hs => ?_
   refine wpList_nil ?_
   refine then_normal ?_
   refine wp_seq ?_
   refine wp_region_lit ?_
   refine st_val hs (y_move rfl) trivial rfl rfl fun a hs => ?_
   refine st_val hs (y_neq rfl rfl) trivial rfl rfl fun a hs => ?_
   refine wpList_nil ?_
   refine then_normal ?_
   refine wp_cond_split (hs.ev rfl) (fun h311 => ?_) (fun h311 => ?_)
   ·have hsh := ite_t hsh h311
    refine wp_seq ?_
    refine wp_region_lit ?_
    refine st_val hs (y_move rfl) trivial rfl rfl fun a hs => ?_
    refine st_val hs (y_assign rfl) trivial rfl rfl fun a hs => ?_
    refine wpList_nil ?_
    refine then_normal ?_
    have hsh := Option.some.inj hsh
    subst hsh
    have h312 := hd233 _ rfl
    subst h312
    refine wp_ret ?_
    refine blk_ret ?_
    refine then_ret ?_
    refine then_ret ?_
    refine blk_ret ?_
    refine then_ret ?_
    exact ret1 hs rfl (rv_tmp rfl) (hw.ret rfl)
   ·have hsh := ite_f hsh h311
    refine wp_skip ?_
    refine blk_normal ?_
    refine then_normal ?_
    refine wp_region_lit ?_
    refine st_val hs (y_add rfl rfl) trivial rfl rfl fun a hs => ?_
    refine st_val hs (y_move rfl) trivial rfl rfl fun a hs => ?_
    refine wpList_nil ?_
    refine then_normal ?_
    exact ⟨_, (Option.some.inj hsh).symm, Sv196, (hs.wk rfl), (hw.ft [] [2, 3] (by decide) rfl rfl)⟩
 ·have hsh := ite_f hsh h238
  obtain ⟨rv315, hsh, h316⟩ := map_t hsh
  have h316 := (hd233 _ h316.symm).symm
  subst h316
  refine wp_exit ?_
  refine then_exit ?_
  refine then_exit ?_
  refine blk_exit ?_
  refine then_normal ?_
  refine wp_seq ?_
  refine wp_seq ?_
  refine wp_region_lit ?_
  refine st_val hs (y_move rfl) trivial rfl rfl fun a hs => ?_
  refine st_val hs (y_len Try.runUnderlying22 rfl) trivial rfl rfl fun a hs => ?_
  refine st_val hs (y_move rfl) trivial rfl rfl fun a hs => ?_
  refine st_val hs (y_len Try.runUnderlying22 rfl) trivial rfl rfl fun a hs => ?_
  refine st_val hs (y_lss rfl rfl) trivial rfl rfl fun a hs => ?_
  refine wpList_nil ?_
  refine then_normal ?_
  refine wp_cond_split (hs.ev rfl) (fun h314 => ?_) (fun h314 => ?_)
  ·have hsh := ite_t hsh h314
   refine wp_seq ?_
   refine wp_region_lit ?_
   refine st_val hs (y_assign rfl) trivial rfl rfl fun a hs => ?_
   refine wpList_nil ?_
   refine then_normal ?_
   have hsh := Option.some.inj hsh
   subst hsh
   refine wp_ret ?_
   refine then_ret ?_
   exact ret1 hs rfl (rv_tmp rfl) (hw.ret rfl)
  ·have hsh := ite_f hsh h314
   refine wp_skip ?_
   refine then_normal ?_
   refine wp_seq ?_
   refine wp_region_lit ?_
   refine st_val hs (y_assign rfl) trivial rfl rfl fun a hs => ?_
   refine wpList_nil ?_
   refine then_normal ?_
   have hsh := Option.some.inj hsh
   subst hsh
   refine wp_ret ?_
   exact ret1 hs rfl (rv_tmp rfl) (hw.ret rfl)

abbrev record_Compare_rd (w0 : World) (X : List Nat) (r : Int) : (Nat → Prop) → World → Value → Prop := fun S w v => v = .int .i64 r
set_option maxHeartbeats 4000000 in
set_option maxRecDepth 100000 in
theorem record_Compare_ok {w0 : World} {S0 : Nat → Prop} {p2 : Option Addr} {k3 : Nat} {p6 : Option Addr} {k7 : Nat} {a1 : Record} {b5 : Record} {r : Int} (hsh : record_Compare a1 b5 = some r) (hS : ∀ b, S0 b → b < w0.heap.size) (h4 : (SlA p2 a1.Samples.length k3 a1.Samples).p S0 w0) (h8 : (SlA p6 b5.Samples.length k7 b5.Samples).p S0 w0) : Calls Try.prog 23 #[.agg #[.string a1.Source.Network, .string a1.Source.Station, .string a1.Source.Location, .string a1.Source.Channel, .int .i64 a1.Start, .int .i64 a1.First, .int .i64 a1.Rate.Num, .int .i64 a1.Rate.Den, .int .i64 a1.Error, .int .i64 a1.Run, .int .i64 a1.Seq, .slice p2 a1.Samples.length k3], .agg #[.string b5.Source.Network, .string b5.Source.Station, .string b5.Source.Location, .string b5.Source.Channel, .int .i64 b5.Start, .int .i64 b5.First, .int .i64 b5.Rate.Num, .int .i64 b5.Rate.Den, .int .i64 b5.Error, .int .i64 b5.Run, .int .i64 b5.Seq, .slice p6 b5.Samples.length k7]] w0 (Ret ([]) w0 S0 (record_Compare_rd w0 ([]) r)) := by
 refine calls_of_wp Try.func23 rfl ?_
 have hs := Sl.enter #[.agg #[.string a1.Source.Network, .string a1.Source.Station, .string a1.Source.Location, .string a1.Source.Channel, .int .i64 a1.Start, .int .i64 a1.First, .int .i64 a1.Rate.Num, .int .i64 a1.Rate.Den, .int .i64 a1.Error, .int .i64 a1.Run, .int .i64 a1.Seq, .slice p2 a1.Samples.length k3], .agg #[.string b5.Source.Network, .string b5.Source.Station, .string b5.Source.Location, .string b5.Source.Channel, .int .i64 b5.Start, .int .i64 b5.First, .int .i64 b5.Rate.Num, .int .i64 b5.Rate.Den, .int .i64 b5.Error, .int .i64 b5.Run, .int .i64 b5.Seq, .slice p6 b5.Samples.length k7]] 68 [(0, .agg #[.string a1.Source.Network, .string a1.Source.Station, .string a1.Source.Location, .string a1.Source.Channel, .int .i64 a1.Start, .int .i64 a1.First, .int .i64 a1.Rate.Num, .int .i64 a1.Rate.Den, .int .i64 a1.Error, .int .i64 a1.Run, .int .i64 a1.Seq, .slice p2 a1.Samples.length k3]), (1, .agg #[.string b5.Source.Network, .string b5.Source.Station, .string b5.Source.Location, .string b5.Source.Channel, .int .i64 b5.Start, .int .i64 b5.First, .int .i64 b5.Rate.Num, .int .i64 b5.Rate.Den, .int .i64 b5.Error, .int .i64 b5.Run, .int .i64 b5.Seq, .slice p6 b5.Samples.length k7])] rfl ⟨rfl, rfl, trivial⟩
 have hw := Wd.enter (E := []) hS (fun _ h => (by cases h))
 have hw := hw.addE h4
 have hw := hw.addE h8
 delta record_Compare at hsh
 refine wp_seq ?_
 refine wp_region_lit ?_
 refine w_box (cs := [.string a1.Source.Network, .string a1.Source.Station, .string a1.Source.Location, .string a1.Source.Channel, .int .i64 a1.Start, .int .i64 a1.First, .int .i64 a1.Rate.Num, .int .i64 a1.Rate.Den, .int .i64 a1.Error, .int .i64 a1.Run, .int .i64 a1.Seq, .slice p2 a1.Samples.length k3]) hs hw rfl rfl rfl trivial ?_
 intro b9 a w hs hw
 refine w_box (cs := [.string b5.Source.Network, .string b5.Source.Station, .string b5.Source.Location, .string b5.Source.Channel, .int .i64 b5.Start, .int .i64 b5.First, .int .i64 b5.Rate.Num, .int .i64 b5.Rate.Den, .int .i64 b5.Error, .int .i64 b5.Run, .int .i64 b5.Seq, .slice p6 b5.Samples.length k7]) hs hw rfl rfl rfl trivial ?_
 intro b10 a w hs hw
 refine st_val hs (y_assign rfl) trivial rfl rfl fun a hs => ?_
 refine wpList_nil ?_
 refine then_normal ?_
 refine wp_seq ?_
 obtain ⟨rv12, h11, hsh⟩ := bind_t hsh
 obtain ⟨rv14, h13, hsh⟩ := bind_t hsh
 obtain ⟨rv16, h15, hsh⟩ := bind_t hsh
 obtain ⟨rv18, h17, hsh⟩ := bind_t hsh
 obtain ⟨rv20, h19, hsh⟩ := bind_t hsh
 obtain ⟨rv22, h21, hsh⟩ := bind_t hsh
 obtain ⟨rv24, h23, hsh⟩ := bind_t hsh
 obtain ⟨rv26, h25, hsh⟩ := bind_t hsh
 obtain ⟨rv28, h27, hsh⟩ := bind_t hsh
 obtain ⟨rv30, h29, hsh⟩ := bind_t hsh
 obtain ⟨rv32, h31, hsh⟩ := bind_t hsh
 obtain ⟨rv34, h33, hsh⟩ := bind_t hsh
 obtain ⟨rv36, h35, hsh⟩ := bind_t hsh
 obtain ⟨rv40, h39, hsh⟩ := bind_t hsh
 refine wp_only (fun a w => ∃ (Sv41 : Nat → Prop), Sl 68 [(4, .int .i64 rv40)] a ∧ Wd ⟨w0, S0, []⟩ Sv41 [] [] w) ?_ ?_
 ·refine h_b (C := Cls [.box b10 [.string b5.Source.Network, .string b5.Source.Station, .string b5.Source.Location, .string b5.Source.Channel, .int .i64 b5.Start, .int .i64 b5.First, .int .i64 b5.Rate.Num, .int .i64 b5.Rate.Den, .int .i64 b5.Error, .int .i64 b5.Run, .int .i64 b5.Seq, .slice p6 b5.Samples.length k7] 32, .box b9 [.string a1.Source.Network, .string a1.Source.Station, .string a1.Source.Location, .string a1.Source.Channel, .int .i64 a1.Start, .int .i64 a1.First, .int .i64 a1.Rate.Num, .int .i64 a1.Rate.Den, .int .i64 a1.Error, .int .i64 a1.Run, .int .i64 a1.Seq, .slice p2 a1.Samples.length k3] 32] []) (by kernel_rfl) rfl (hw.drew.cs [0, 1] [] rfl rfl) fun hC => ?_
  have hw := hw.drew
  refine h_g hs 0 rfl (by kernel_rfl) rfl rfl hC rfl (fun w hC => y_fieldAddr (o' := 0) Try.runUnderlying32 rfl Try.sizeOf28 rfl rfl rfl) fun a hs => ?_
  refine h_g hs 1 rfl (by kernel_rfl) rfl rfl hC rfl (fun w hC => y_loadBA (hC.ownAt 1 rfl) rfl Try.isAgg28 Try.sizeOf28 rfl rfl) fun a hs => ?_
  refine h_g hs 2 rfl (by kernel_rfl) rfl rfl hC rfl (fun w hC => y_fieldAddr (o' := 0) Try.runUnderlying32 rfl Try.sizeOf28 rfl rfl rfl) fun a hs => ?_
  refine h_g hs 3 rfl (by kernel_rfl) rfl rfl hC rfl (fun w hC => y_loadBA (hC.ownAt 0 rfl) rfl Try.isAgg28 Try.sizeOf28 rfl rfl) fun a hs => ?_
  refine h_g hs 5 rfl (by kernel_rfl) rfl rfl hC rfl (fun w hC => y_loadBA (hC.ownAt 1 rfl) rfl Try.isAgg32 Try.sizeOf32 rfl rfl) fun a hs => ?_
  refine h_g hs 7 rfl (by kernel_rfl) rfl rfl hC rfl (fun w hC => y_loadBA (hC.ownAt 0 rfl) rfl Try.isAgg32 Try.sizeOf32 rfl rfl) fun a hs => ?_
  refine h_g hs 10 rfl (by kernel_rfl) rfl rfl hC rfl (fun w hC => y_fieldAddr (o' := 4) Try.runUnderlying32 rfl Try.sizeOf3 rfl rfl rfl) fun a hs => ?_
  refine h_g hs 11 rfl (by kernel_rfl) rfl rfl hC rfl (fun w hC => y_loadB1 (hC.ownAt 1 rfl) rfl Try.isAgg3 rfl) fun a hs => ?_
  refine h_g hs 12 rfl (by kernel_rfl) rfl rfl hC rfl (fun w hC => y_fieldAddr (o' := 4) Try.runUnderlying32 rfl Try.sizeOf3 rfl rfl rfl) fun a hs => ?_
  refine h_g hs 13 rfl (by kernel_rfl) rfl rfl hC rfl (fun w hC => y_loadB1 (hC.ownAt 0 rfl) rfl Try.isAgg3 rfl) fun a hs => ?_
  refine h_g hs 15 rfl (by kernel_rfl) rfl rfl hC rfl (fun w hC => y_fieldAddr (o' := 5) Try.runUnderlying32 rfl Try.sizeOf3 rfl rfl rfl) fun a hs => ?_
  refine h_g hs 16 rfl (by kernel_rfl) rfl rfl hC rfl (fun w hC => y_loadB1 (hC.ownAt 1 rfl) rfl Try.isAgg3 rfl) fun a hs => ?_
  refine h_g hs 17 rfl (by kernel_rfl) rfl rfl hC rfl (fun w hC => y_fieldAddr (o' := 5) Try.runUnderlying32 rfl Try.sizeOf3 rfl rfl rfl) fun a hs => ?_
  refine h_g hs 18 rfl (by kernel_rfl) rfl rfl hC rfl (fun w hC => y_loadB1 (hC.ownAt 0 rfl) rfl Try.isAgg3 rfl) fun a hs => ?_
  refine h_g hs 20 rfl (by kernel_rfl) rfl rfl hC rfl (fun w hC => y_fieldAddr (o' := 6) Try.runUnderlying32 rfl Try.sizeOf30 rfl rfl rfl) fun a hs => ?_
  refine h_g hs 21 rfl (by kernel_rfl) rfl rfl hC rfl (fun w hC => y_fieldAddr (o' := 6) Try.runUnderlying30 rfl Try.sizeOf3 rfl rfl rfl) fun a hs => ?_
  refine h_g hs 22 rfl (by kernel_rfl) rfl rfl hC rfl (fun w hC => y_loadB1 (hC.ownAt 1 rfl) rfl Try.isAgg3 rfl) fun a hs => ?_
  refine h_g hs 23 rfl (by kernel_rfl) rfl rfl hC rfl (fun w hC => y_fieldAddr (o' := 6) Try.runUnderlying32 rfl Try.sizeOf30 rfl rfl rfl) fun a hs => ?_
  refine h_g hs 24 rfl (by kernel_rfl) rfl rfl hC rfl (fun w hC => y_fieldAddr (o' := 6) Try.runUnderlying30 rfl Try.sizeOf3 rfl rfl rfl) fun a hs => ?_
  refine h_g hs 25 rfl (by kernel_rfl) rfl rfl hC rfl (fun w hC => y_loadB1 (hC.ownAt 0 rfl) rfl Try.isAgg3 rfl) fun a hs => ?_
  refine h_g hs 27 rfl (by kernel_rfl) rfl rfl hC rfl (fun w hC => y_fieldAddr (o' := 6) Try.runUnderlying32 rfl Try.sizeOf30 rfl rfl rfl) fun a hs => ?_
  refine h_g hs 28 rfl (by kernel_rfl) rfl rfl hC rfl (fun w hC => y_fieldAddr (o' := 7) Try.runUnderlying30 rfl Try.sizeOf3 rfl rfl rfl) fun a hs => ?_
  refine h_g hs 29 rfl (by kernel_rfl) rfl rfl hC rfl (fun w hC => y_loadB1 (hC.ownAt 1 rfl) rfl Try.isAgg3 rfl) fun a hs => ?_
  refine h_g hs 30 rfl (by kernel_rfl) rfl rfl hC rfl (fun w hC => y_fieldAddr (o' := 6) Try.runUnderlying32 rfl Try.sizeOf30 rfl rfl rfl) fun a hs => ?_
  refine h_g hs 31 rfl (by kernel_rfl) rfl rfl hC rfl (fun w hC => y_fieldAddr (o' := 7) Try.runUnderlying30 rfl Try.sizeOf3 rfl rfl rfl) fun a hs => ?_
  refine h_g hs 32 rfl (by kernel_rfl) rfl rfl hC rfl (fun w hC => y_loadB1 (hC.ownAt 0 rfl) rfl Try.isAgg3 rfl) fun a hs => ?_
  refine h_g hs 34 rfl (by kernel_rfl) rfl rfl hC rfl (fun w hC => y_fieldAddr (o' := 8) Try.runUnderlying32 rfl Try.sizeOf3 rfl rfl rfl) fun a hs => ?_
  refine h_g hs 35 rfl (by kernel_rfl) rfl rfl hC rfl (fun w hC => y_loadB1 (hC.ownAt 1 rfl) rfl Try.isAgg3 rfl) fun a hs => ?_
  refine h_g hs 36 rfl (by kernel_rfl) rfl rfl hC rfl (fun w hC => y_fieldAddr (o' := 8) Try.runUnderlying32 rfl Try.sizeOf3 rfl rfl rfl) fun a hs => ?_
  refine h_g hs 37 rfl (by kernel_rfl) rfl rfl hC rfl (fun w hC => y_loadB1 (hC.ownAt 0 rfl) rfl Try.isAgg3 rfl) fun a hs => ?_
  refine h_g hs 39 rfl (by kernel_rfl) rfl rfl hC rfl (fun w hC => y_fieldAddr (o' := 9) Try.runUnderlying32 rfl Try.sizeOf3 rfl rfl rfl) fun a hs => ?_
  refine h_g hs 40 rfl (by kernel_rfl) rfl rfl hC rfl (fun w hC => y_loadB1 (hC.ownAt 1 rfl) rfl Try.isAgg3 rfl) fun a hs => ?_
  refine h_g hs 41 rfl (by kernel_rfl) rfl rfl hC rfl (fun w hC => y_fieldAddr (o' := 9) Try.runUnderlying32 rfl Try.sizeOf3 rfl rfl rfl) fun a hs => ?_
  refine h_g hs 42 rfl (by kernel_rfl) rfl rfl hC rfl (fun w hC => y_loadB1 (hC.ownAt 0 rfl) rfl Try.isAgg3 rfl) fun a hs => ?_
  refine h_g hs 44 rfl (by kernel_rfl) rfl rfl hC rfl (fun w hC => y_fieldAddr (o' := 10) Try.runUnderlying32 rfl Try.sizeOf3 rfl rfl rfl) fun a hs => ?_
  refine h_g hs 45 rfl (by kernel_rfl) rfl rfl hC rfl (fun w hC => y_loadB1 (hC.ownAt 1 rfl) rfl Try.isAgg3 rfl) fun a hs => ?_
  refine h_g hs 46 rfl (by kernel_rfl) rfl rfl hC rfl (fun w hC => y_fieldAddr (o' := 10) Try.runUnderlying32 rfl Try.sizeOf3 rfl rfl rfl) fun a hs => ?_
  refine h_g hs 47 rfl (by kernel_rfl) rfl rfl hC rfl (fun w hC => y_loadB1 (hC.ownAt 0 rfl) rfl Try.isAgg3 rfl) fun a hs => ?_
  refine h_g hs 49 rfl (by kernel_rfl) rfl rfl hC rfl (fun w hC => y_fieldAddr (o' := 11) Try.runUnderlying32 rfl Try.sizeOf22 rfl rfl rfl) fun a hs => ?_
  refine h_g hs 50 rfl (by kernel_rfl) rfl rfl hC rfl (fun w hC => y_loadB1 (hC.ownAt 1 rfl) rfl Try.isAgg22 rfl) fun a hs => ?_
  refine h_g hs 51 rfl (by kernel_rfl) rfl rfl hC rfl (fun w hC => y_len Try.runUnderlying22 rfl) fun a hs => ?_
  refine h_g hs 52 rfl (by kernel_rfl) rfl rfl hC rfl (fun w hC => y_fieldAddr (o' := 11) Try.runUnderlying32 rfl Try.sizeOf22 rfl rfl rfl) fun a hs => ?_
  refine h_g hs 53 rfl (by kernel_rfl) rfl rfl hC rfl (fun w hC => y_loadB1 (hC.ownAt 0 rfl) rfl Try.isAgg22 rfl) fun a hs => ?_
  refine h_g hs 54 rfl (by kernel_rfl) rfl rfl hC rfl (fun w hC => y_len Try.runUnderlying22 rfl) fun a hs => ?_
  refine h_g hs 56 rfl (by kernel_rfl) rfl rfl hC rfl (fun w hC => y_fieldAddr (o' := 11) Try.runUnderlying32 rfl Try.sizeOf22 rfl rfl rfl) fun a hs => ?_
  refine h_g hs 57 rfl (by kernel_rfl) rfl rfl hC rfl (fun w hC => y_loadB1 (hC.ownAt 1 rfl) rfl Try.isAgg22 rfl) fun a hs => ?_
  refine h_g hs 58 rfl (by kernel_rfl) rfl rfl hC rfl (fun w hC => y_fieldAddr (o' := 11) Try.runUnderlying32 rfl Try.sizeOf22 rfl rfl rfl) fun a hs => ?_
  refine h_g hs 59 rfl (by kernel_rfl) rfl rfl hC rfl (fun w hC => y_loadB1 (hC.ownAt 0 rfl) rfl Try.isAgg22 rfl) fun a hs => ?_
  refine h_one (i := 4) (by kernel_rfl) rfl ?_
  refine st_callR hs (source_Compare_ok h11 hw.bdom) (do_call Try.call48 rfl) trivial rfl rfl ?_
  intro v45 Sv42 w a h43 h44 hs
  subst h44
  have hw := hw.callB h43
  refine h_nx (hw.cs [0, 1] [] rfl rfl) fun hC => ?_
  refine h_one (i := 6) (by kernel_rfl) rfl ?_
  refine st_callR hs (record_begin_ok h13 hw.bdom (hw.bE 1 rfl)) (do_call Try.call50 rfl) trivial rfl rfl ?_
  intro v50 Sv47 w a h48 h49 hs
  subst h49
  have hw := hw.callB h48
  refine h_nx (hw.cs [0, 1] [] rfl rfl) fun hC => ?_
  refine h_one (i := 8) (by kernel_rfl) rfl ?_
  refine st_callR hs (record_begin_ok h15 hw.bdom (hw.bE 0 rfl)) (do_call Try.call50 rfl) trivial rfl rfl ?_
  intro v55 Sv52 w a h53 h54 hs
  subst h54
  have hw := hw.callB h53
  refine h_nx (hw.cs [0, 1] [] rfl rfl) fun hC => ?_
  refine h_one (i := 9) (by kernel_rfl) rfl ?_
  refine st_callR hs (cmp_Compare_int_ok h17 hw.bdom) (do_call Try.call49 rfl) trivial rfl rfl ?_
  intro v60 Sv57 w a h58 h59 hs
  subst h59
  have hw := hw.callB h58
  refine h_nx (hw.cs [0, 1] [] rfl rfl) fun hC => ?_
  refine h_one (i := 14) (by kernel_rfl) rfl ?_
  refine st_callR hs (cmp_Compare_int_ok h19 hw.bdom) (do_call Try.call49 rfl) trivial rfl rfl ?_
  intro v65 Sv62 w a h63 h64 hs
  subst h64
  have hw := hw.callB h63
  refine h_nx (hw.cs [0, 1] [] rfl rfl) fun hC => ?_
  refine h_one (i := 19) (by kernel_rfl) rfl ?_
  refine st_callR hs (cmp_Compare_int_ok h21 hw.bdom) (do_call Try.call49 rfl) trivial rfl rfl ?_
  intro v70 Sv67 w a h68 h69 hs
  subst h69
  have hw := hw.callB h68
  refine h_nx (hw.cs [0, 1] [] rfl rfl) fun hC => ?_
  refine h_one (i := 26) (by kernel_rfl) rfl ?_
  refine st_callR hs (cmp_Compare_int_ok h23 hw.bdom) (do_call Try.call49 rfl) trivial rfl rfl ?_
  intro v75 Sv72 w a h73 h74 hs
  subst h74
  have hw := hw.callB h73
  refine h_nx (hw.cs [0, 1] [] rfl rfl) fun hC => ?_
  refine h_one (i := 33) (by kernel_rfl) rfl ?_
  refine st_callR hs (cmp_Compare_int_ok h25 hw.bdom) (do_call Try.call49 rfl) trivial rfl rfl ?_
  intro v80 Sv77 w a h78 h79 hs
  subst h79
  have hw := hw.callB h78
  refine h_nx (hw.cs [0, 1] [] rfl rfl) fun hC => ?_
  refine h_one (i := 38) (by kernel_rfl) rfl ?_
  refine st_callR hs (cmp_Compare_int_ok h27 hw.bdom) (do_call Try.call49 rfl) trivial rfl rfl ?_
  intro v85 Sv82 w a h83 h84 hs
  subst h84
  have hw := hw.callB h83
  refine h_nx (hw.cs [0, 1] [] rfl rfl) fun hC => ?_
  refine h_one (i := 43) (by kernel_rfl) rfl ?_
  refine st_callR hs (cmp_Compare_int_ok h29 hw.bdom) (do_call Try.call49 rfl) trivial rfl rfl ?_
  intro v90 Sv87 w a h88 h89 hs
  subst h89
  have hw := hw.callB h88
  refine h_nx (hw.cs [0, 1] [] rfl rfl) fun hC => ?_
  refine h_one (i := 48) (by kernel_rfl) rfl ?_
  refine st_callR hs (cmp_Compare_int_ok h31 hw.bdom) (do_call Try.call49 rfl) trivial rfl rfl ?_
  intro v95 Sv92 w a h93 h94 hs
  subst h94
  have hw := hw.callB h93
  refine h_nx (hw.cs [0, 1] [] rfl rfl) fun hC => ?_
  refine h_one (i := 55) (by kernel_rfl) rfl ?_
  refine st_callR hs (cmp_Compare_int_ok h33 hw.bdom) (do_call Try.call49 rfl) trivial rfl rfl ?_
  intro v100 Sv97 w a h98 h99 hs
  subst h99
  have hw := hw.callB h98
  refine h_nx (hw.cs [0, 1] [] rfl rfl) fun hC => ?_
  refine h_one (i := 60) (by kernel_rfl) rfl ?_
  refine st_callR hs (slices_Compare_Lint_int_ok h35 hw.bdom (hw.bE 1 rfl) (hw.bE 0 rfl)) (do_call Try.call51 rfl) trivial rfl rfl ?_
  intro v105 Sv102 w a h103 h104 hs
  subst h104
  have hw := hw.callB h103
  refine h_nx (hw.cs [0, 1] [] rfl rfl) fun hC => ?_
  refine h_one (i := 61) (by kernel_rfl) rfl ?_
  refine w_litSlice (α := Int) (vs := [.int .i64 rv12, .int .i64 rv18, .int .i64 rv20, .int .i64 rv22, .int .i64 rv24, .int .i64 rv26, .int .i64 rv28, .int .i64 rv30, .int .i64 rv32, .int .i64 rv34, .int .i64 rv36]) (cs := [.int .i64 rv12, .int .i64 rv18, .int .i64 rv20, .int .i64 rv22, .int .i64 rv24, .int .i64 rv26, .int .i64 rv28, .int .i64 rv30, .int .i64 rv32, .int .i64 rv34, .int .i64 rv36]) (xs := ([rv12, rv18, rv20, rv22, rv24, rv26, rv28, rv30, rv32, rv34, rv36] : List Int)) hs hw El22 rfl rfl rfl rfl rfl rfl ⟨⟨_, rfl, rfl⟩, ⟨⟨_, rfl, rfl⟩, ⟨⟨_, rfl, rfl⟩, ⟨⟨_, rfl, rfl⟩, ⟨⟨_, rfl, rfl⟩, ⟨⟨_, rfl, rfl⟩, ⟨⟨_, rfl, rfl⟩, ⟨⟨_, rfl, rfl⟩, ⟨⟨_, rfl, rfl⟩, ⟨⟨_, rfl, rfl⟩, ⟨⟨_, rfl, rfl⟩, rfl⟩⟩⟩⟩⟩⟩⟩⟩⟩⟩⟩ rfl trivial rfl fun b38 a w hs hw => ?_
  refine h_nx (hw.cs [1, 2] [] rfl rfl) fun hC => ?_
  refine h_st (C' := Cls [.box b10 [.string b5.Source.Network, .string b5.Source.Station, .string b5.Source.Location, .string b5.Source.Channel, .int .i64 b5.Start, .int .i64 b5.First, .int .i64 b5.Rate.Num, .int .i64 b5.Rate.Den, .int .i64 b5.Error, .int .i64 b5.Run, .int .i64 b5.Seq, .slice p6 b5.Samples.length k7] 32, .box b9 [.string a1.Source.Network, .string a1.Source.Station, .string a1.Source.Location, .string a1.Source.Channel, .int .i64 a1.Start, .int .i64 a1.First, .int .i64 a1.Rate.Num, .int .i64 a1.Rate.Den, .int .i64 a1.Error, .int .i64 a1.Run, .int .i64 a1.Seq, .slice p2 a1.Samples.length k3] 32, .row (some ⟨b38, 0, none⟩) ([rv12, rv18, rv20, rv22, rv24, rv26, rv28, rv30, rv32, rv34, rv36] : List Int).length ([rv12, rv18, rv20, rv22, rv24, rv26, rv28, rv30, rv32, rv34, rv36] : List Int).length [.int .i64 rv12, .int .i64 rv18, .int .i64 rv20, .int .i64 rv22, .int .i64 rv24, .int .i64 rv26, .int .i64 rv28, .int .i64 rv30, .int .i64 rv32, .int .i64 rv34, .int .i64 rv36] 3 1] []) (fun _ h => by exact h.sub [0, 1] (Sel.of rfl) (AllIn.of [] rfl)) (hw.cs [1, 2, 0] [] rfl rfl) fun hC => ?_
  refine h_one (i := 62) (by kernel_rfl) rfl ?_
  refine st_callR hs (cmp_Or_int_ok h39 hw.bdom (hw.bRow 0 rfl 0 rfl)) (do_call Try.call47 rfl) trivial rfl rfl ?_
  intro v110 Sv107 w a h108 h109 hs
  subst h109
  have hw := hw.callB h108
  refine h_nx (hw.cs [1, 2, 0] [] rfl rfl) fun hC => ?_
  refine h_g hs 63 rfl (by kernel_rfl) rfl rfl hC rfl (fun w hC => y_assign rfl) fun a hs => ?_
  refine h_done (by kernel_rfl) ?_
  exact ⟨S0, (hs.wk rfl), (hw.ft [] [] (by decide) rfl rfl)⟩
 ·rintro a w ⟨Sv41, hs, hw⟩
  refine then_normal ?_
  have hsh := Option.some.inj hsh
  subst hsh
  refine wp_ret ?_
  exact ret1 hs rfl (rv_tmp rfl) (hw.ret rfl)

abbrev slices_Equal_Lint_int_rd (w0 : World) (X : List Nat) (r : Bool) : (Nat → Prop) → World → Value → Prop := fun S w v => v = .bool r
set_option maxHeartbeats 4000000 in
set_option maxRecDepth 100000 in
theorem slices_Equal_Lint_int_ok {w0 : World} {S0 : Nat → Prop} {p2 : Option Addr} {k3 : Nat} {p6 : Option Addr} {k7 : Nat} {s1_1 : (List Int)} {s2_5 : (List Int)} {r : Bool} (hsh : slices_Equal_Lint_int s1_1 s2_5 = some r) (hS : ∀ b, S0 b → b < w0.heap.size) (h4 : (SlA p2 s1_1.length k3 s1_1).p S0 w0) (h8 : (SlA p6 s2_5.length k7 s2_5).p S0 w0) : Calls Try.prog 40 #[.slice p2 s1_1.length k3, .slice p6 s2_5.length k7] w0 (Ret ([]) w0 S0 (slices_Equal_Lint_int_rd w0 ([]) r)) := by
 refine calls_of_wp Try.func40 rfl ?_
 have hs := Sl.enter #[.slice p2 s1_1.length k3, .slice p6 s2_5.length k7] 26 [(0, .slice p2 s1_1.length k3), (1, .slice p6 s2_5.length k7)] rfl ⟨rfl, rfl, trivial⟩
 have hw := Wd.enter (E := []) hS (fun _ h => (by cases h))
 have hw := hw.addE h4
 have hw := hw.addE h8
 delta slices_Equal_Lint_int at hsh
 refine wp_seq ?_
 refine wp_region_lit ?_
 refine st_val hs (y_assign rfl) trivial rfl rfl fun a hs => ?_
 refine wpList_nil ?_
 refine then_normal ?_
 refine wp_seq ?_
 refine wp_seq ?_
 refine wp_region_lit ?_
 refine st_val hs (y_move rfl) trivial rfl rfl fun a hs => ?_
 refine st_val hs (y_len Try.runUnderlying22 rfl) trivial rfl rfl fun a hs => ?_
 refine st_val hs (y_move rfl) trivial rfl rfl fun a hs => ?_
 refine st_val hs (y_len Try.runUnderlying22 rfl) trivial rfl rfl fun a hs => ?_
 refine st_val hs (y_neq rfl rfl) trivial rfl rfl fun a hs => ?_
 refine wpList_nil ?_
 refine then_normal ?_
 refine wp_cond_split (hs.ev rfl) (fun h10 => ?_) (fun h10 => ?_)
 ·have hsh := ite_t hsh h10
  refine wp_seq ?_
  refine wp_region_lit ?_
  refine st_val hs (y_assign rfl) trivial rfl rfl fun a hs => ?_
  refine wpList_nil ?_
  refine then_normal ?_
  have hsh := Option.some.inj hsh
  subst hsh
  refine wp_ret ?_
  refine then_ret ?_
  exact ret1 hs rfl (rv_tmp rfl) (hw.ret rfl)
 ·have hsh := ite_f hsh h10
  refine wp_skip ?_
  refine then_normal ?_
  refine wp_seq ?_
  refine wp_seq ?_
  refine wp_region_lit ?_
  refine st_val hs (y_move rfl) trivial rfl rfl fun a hs => ?_
  refine st_val hs (y_len Try.runUnderlying22 rfl) trivial rfl rfl fun a hs => ?_
  refine st_val hs (y_move rfl) trivial rfl rfl fun a hs => ?_
  refine wpList_nil ?_
  refine then_normal ?_
  refine wp_block ?_
  refine wp_while (fun sv103 a w => ∃ (Sv163 : Nat → Prop), Sl 26 [(0, .slice p2 s1_1.length k3), (1, .slice p6 s2_5.length k7), (12, .int .i64 (s1_1.length : Int)), (13, .int .i64 sv103)] a ∧ Wd ⟨w0, S0, []⟩ Sv163 [] [SlA p2 s1_1.length k3 s1_1, SlA p6 s2_5.length k7 s2_5] w) 0 hsh ⟨S0, (hs.wk rfl), (hw.ft [] [1, 0] (by decide) rfl rfl)⟩ ?_
  repeat clear hsh
  rintro sv103 a w tv194 ⟨Sv163, hs, hw⟩ hsh hd193
  delta slices_Equal_Lint_int_l2 at hsh
  refine wp_seq ?_
  refine wp_region_lit ?_
  refine st_val hs (y_lss rfl rfl) trivial rfl rfl fun a hs => ?_
  refine wpList_nil ?_
  refine then_normal ?_
  refine wp_seq ?_
  refine wp_cond_split (hs.ev rfl) (fun h198 => ?_) (fun h198 => ?_)
  ·have hsh := ite_t hsh h198
   refine wp_skip ?_
   refine then_normal ?_
   refine wp_seq ?_
   refine wp_block ?_
   refine wp_seq ?_
   refine wp_region_lit ?_
   refine st_val hs (y_move rfl) trivial rfl rfl fun a hs => ?_
   refine st_val hs (y_assign rfl) trivial rfl rfl fun a hs => ?_
   refine wpList_nil ?_
   refine then_normal ?_
   refine wp_seq ?_
   obtain ⟨x229, h227, hsh⟩ := bind_t hsh
   obtain ⟨b235, o236, q233, c234, h237, h230, h231, h232, h228⟩ := hw.elemV 0 rfl h227
   have hsv238 := hs
   have hwv239 := hw
   subst h237
   have hs := hsv238
   have hw := hwv239
   obtain ⟨_, rfl, rfl⟩ := h228
   have hw := hw.addE h232
   obtain ⟨x242, h240, hsh⟩ := bind_t hsh
   obtain ⟨b248, o249, q246, c247, h250, h243, h244, h245, h241⟩ := hw.elemV 2 rfl h240
   have hsv251 := hs
   have hwv252 := hw
   subst h250
   have hs := hsv251
   have hw := hwv252
   obtain ⟨_, rfl, rfl⟩ := h241
   have hw := hw.addE h245
   refine wp_only (fun a w => ∃ (Sv253 : Nat → Prop), Sl 26 [(0, .slice (some ⟨b235, o236, none⟩) s1_1.length k3), (1, .slice (some ⟨b248, o249, none⟩) s2_5.length k7), (12, .int .i64 (s1_1.length : Int)), (13, .int .i64 sv103), (24, .bool (x229 != x242))] a ∧ Wd ⟨w0, S0, []⟩ Sv253 [] [SlA (some ⟨b235, o236, none⟩) s1_1.length k3 s1_1, SlA (some ⟨b248, o249, none⟩) s2_5.length k7 s2_5] w) ?_ ?_
   ·refine h_b (C := Cls [] [CeA b248 q246 [.int .i64 x242], CeA b235 q233 [.int .i64 x229]]) (by kernel_rfl) rfl (hw.drew.cs [] [0, 1] rfl rfl) fun hC => ?_
    have hw := hw.drew
    refine h_g hs 0 rfl (by kernel_rfl) rfl rfl hC rfl (fun w hC => y_move rfl) fun a hs => ?_
    refine h_g hs 1 rfl (by kernel_rfl) rfl rfl hC rfl (fun w hC => y_move rfl) fun a hs => ?_
    refine h_g hs 2 rfl (by kernel_rfl) rfl rfl hC rfl (fun w hC => y_indexAt Try.runUnderlying22 Try.sizeOf3 rfl rfl h230.1 h230.2 h231) fun a hs => ?_
    refine h_g hs 3 rfl (by kernel_rfl) rfl rfl hC rfl (fun w hC => y_loadE1 (j := 0) (hC.ceAt 1 rfl) rfl Try.isAgg3 rfl) fun a hs => ?_
    refine h_g hs 4 rfl (by kernel_rfl) rfl rfl hC rfl (fun w hC => y_move rfl) fun a hs => ?_
    refine h_g hs 5 rfl (by kernel_rfl) rfl rfl hC rfl (fun w hC => y_move rfl) fun a hs => ?_
    refine h_g hs 6 rfl (by kernel_rfl) rfl rfl hC rfl (fun w hC => y_indexAt Try.runUnderlying22 Try.sizeOf3 rfl rfl h243.1 h243.2 h244) fun a hs => ?_
    refine h_g hs 7 rfl (by kernel_rfl) rfl rfl hC rfl (fun w hC => y_loadE1 (j := 0) (hC.ceAt 0 rfl) rfl Try.isAgg3 rfl) fun a hs => ?_
    refine h_g hs 8 rfl (by kernel_rfl) rfl rfl hC rfl (fun w hC => y_neq rfl rfl) fun a hs => ?_
    refine h_done (by kernel_rfl) ?_
    exact ⟨Sv163, (hs.wk rfl), (hw.ft [] [2, 3] (by decide) rfl rfl)⟩
   ·rintro a w ⟨Sv253, hs, hw⟩
    refine then_normal ?_
    refine wp_cond_split (hs.ev rfl) (fun h255 => ?_) (fun h255 => ?_)
    ·have hsh := ite_t hsh h255
     refine wp_seq ?_
     refine wp_region_lit ?_
     refine st_val hs (y_assign rfl) trivial rfl rfl fun a hs => ?_
     refine wpList_nil ?_
     refine then_normal ?_
     have hsh := Option.some.inj hsh
     subst hsh
     have h256 := hd193 _ rfl
     subst h256
     refine wp_ret ?_
     refine blk_ret ?_
     refine then_ret ?_
     refine then_ret ?_
     refine blk_ret ?_
     refine then_ret ?_
     exact ret1 hs rfl (rv_tmp rfl) (hw.ret rfl)
    ·have hsh := ite_f hsh h255
     refine wp_skip ?_
     refine blk_normal ?_
     refine then_normal ?_
     refine wp_region_lit ?_
     refine st_val hs (y_add rfl rfl) trivial rfl rfl fun a hs => ?_
     refine st_val hs (y_move rfl) trivial rfl rfl fun a hs => ?_
     refine wpList_nil ?_
     refine then_normal ?_
     exact ⟨_, (Option.some.inj hsh).symm, Sv253, (hs.wk rfl), (hw.ft [] [0, 1] (by decide) rfl rfl)⟩
  ·have hsh := ite_f hsh h198
   obtain ⟨rv257, hsh, h258⟩ := map_t hsh
   have h258 := (hd193 _ h258.symm).symm
   subst h258
   refine wp_exit ?_
   refine then_exit ?_
   refine then_exit ?_
   refine blk_exit ?_
   refine then_normal ?_
   refine wp_seq ?_
   refine wp_region_lit ?_
   refine st_val hs (y_assign rfl) trivial rfl rfl fun a hs => ?_
   refine wpList_nil ?_
   refine then_normal ?_
   have hsh := Option.some.inj hsh
   subst hsh
   refine wp_ret ?_
   exact ret1 hs rfl (rv_tmp rfl) (hw.ret rfl)

abbrev record_Same_rd (w0 : World) (X : List Nat) (r : Bool) : (Nat → Prop) → World → Value → Prop := fun S w v => v = .bool r
set_option maxHeartbeats 4000000 in
set_option maxRecDepth 100000 in
theorem record_Same_ok {w0 : World} {S0 : Nat → Prop} {p2 : Option Addr} {k3 : Nat} {p6 : Option Addr} {k7 : Nat} {a1 : Record} {b5 : Record} {r : Bool} (hsh : record_Same a1 b5 = some r) (hS : ∀ b, S0 b → b < w0.heap.size) (h4 : (SlA p2 a1.Samples.length k3 a1.Samples).p S0 w0) (h8 : (SlA p6 b5.Samples.length k7 b5.Samples).p S0 w0) : Calls Try.prog 17 #[.agg #[.string a1.Source.Network, .string a1.Source.Station, .string a1.Source.Location, .string a1.Source.Channel, .int .i64 a1.Start, .int .i64 a1.First, .int .i64 a1.Rate.Num, .int .i64 a1.Rate.Den, .int .i64 a1.Error, .int .i64 a1.Run, .int .i64 a1.Seq, .slice p2 a1.Samples.length k3], .agg #[.string b5.Source.Network, .string b5.Source.Station, .string b5.Source.Location, .string b5.Source.Channel, .int .i64 b5.Start, .int .i64 b5.First, .int .i64 b5.Rate.Num, .int .i64 b5.Rate.Den, .int .i64 b5.Error, .int .i64 b5.Run, .int .i64 b5.Seq, .slice p6 b5.Samples.length k7]] w0 (Ret ([]) w0 S0 (record_Same_rd w0 ([]) r)) := by
 refine calls_of_wp Try.func17 rfl ?_
 have hs := Sl.enter #[.agg #[.string a1.Source.Network, .string a1.Source.Station, .string a1.Source.Location, .string a1.Source.Channel, .int .i64 a1.Start, .int .i64 a1.First, .int .i64 a1.Rate.Num, .int .i64 a1.Rate.Den, .int .i64 a1.Error, .int .i64 a1.Run, .int .i64 a1.Seq, .slice p2 a1.Samples.length k3], .agg #[.string b5.Source.Network, .string b5.Source.Station, .string b5.Source.Location, .string b5.Source.Channel, .int .i64 b5.Start, .int .i64 b5.First, .int .i64 b5.Rate.Num, .int .i64 b5.Rate.Den, .int .i64 b5.Error, .int .i64 b5.Run, .int .i64 b5.Seq, .slice p6 b5.Samples.length k7]] 59 [(0, .agg #[.string a1.Source.Network, .string a1.Source.Station, .string a1.Source.Location, .string a1.Source.Channel, .int .i64 a1.Start, .int .i64 a1.First, .int .i64 a1.Rate.Num, .int .i64 a1.Rate.Den, .int .i64 a1.Error, .int .i64 a1.Run, .int .i64 a1.Seq, .slice p2 a1.Samples.length k3]), (1, .agg #[.string b5.Source.Network, .string b5.Source.Station, .string b5.Source.Location, .string b5.Source.Channel, .int .i64 b5.Start, .int .i64 b5.First, .int .i64 b5.Rate.Num, .int .i64 b5.Rate.Den, .int .i64 b5.Error, .int .i64 b5.Run, .int .i64 b5.Seq, .slice p6 b5.Samples.length k7])] rfl ⟨rfl, rfl, trivial⟩
 have hw := Wd.enter (E := []) hS (fun _ h => (by cases h))
 have hw := hw.addE h4
 have hw := hw.addE h8
 delta record_Same at hsh
 refine wp_seq ?_
 refine wp_region_lit ?_
 refine w_box (cs := [.string a1.Source.Network, .string a1.Source.Station, .string a1.Source.Location, .string a1.Source.Channel, .int .i64 a1.Start, .int .i64 a1.First, .int .i64 a1.Rate.Num, .int .i64 a1.Rate.Den, .int .i64 a1.Error, .int .i64 a1.Run, .int .i64 a1.Seq, .slice p2 a1.Samples.length k3]) hs hw rfl rfl rfl trivial ?_
 intro b9 a w hs hw
 refine w_box (cs := [.string b5.Source.Network, .string b5.Source.Station, .string b5.Source.Location, .string b5.Source.Channel, .int .i64 b5.Start, .int .i64 b5.First, .int .i64 b5.Rate.Num, .int .i64 b5.Rate.Den, .int .i64 b5.Error, .int .i64 b5.Run, .int .i64 b5.Seq, .slice p6 b5.Samples.length k7]) hs hw rfl rfl rfl trivial ?_
 intro b10 a w hs hw
 refine st_val hs (y_assign rfl) trivial rfl rfl fun a hs => ?_
 refine wpList_nil ?_
 refine then_normal ?_
 refine wp_seq ?_
 refine wp_region_lit ?_
 refine st_val hs (y_fieldAddr (o' := 0) Try.runUnderlying32 rfl Try.sizeOf28 rfl rfl rfl) trivial rfl rfl fun a hs => ?_
 refine st_val hs (y_loadBA (hw.ownAt 1 rfl) rfl Try.isAgg28 Try.sizeOf28 rfl rfl) trivial rfl rfl fun a hs => ?_
 refine st_val hs (y_fieldAddr (o' := 0) Try.runUnderlying32 rfl Try.sizeOf28 rfl rfl rfl) trivial rfl rfl fun a hs => ?_
 refine st_val hs (y_loadBA (hw.ownAt 0 rfl) rfl Try.isAgg28 Try.sizeOf28 rfl rfl) trivial rfl rfl fun a hs => ?_
 refine st_val hs (y_eqlA (by kernel_rfl) rfl rfl (eqv_struct Try.runUnderlying28 (by kernel_rfl) (EqF.cons1 rfl Try.isAgg9 rfl rfl (eqv_str Try.runUnderlying9) (EqF.cons1 rfl Try.isAgg9 rfl rfl (eqv_str Try.runUnderlying9) (EqF.cons1 rfl Try.isAgg9 rfl rfl (eqv_str Try.runUnderlying9) (EqF.cons1 rfl Try.isAgg9 rfl rfl (eqv_str Try.runUnderlying9) EqF.nil)))))) trivial rfl rfl fun a hs => ?_
 refine st_val hs (y_move rfl) trivial rfl rfl fun a hs => ?_
 refine wpl_join 6 (fun a w1 => w = w1 ∧ Sl 59 [(2, .pointer (some ⟨b9, 0, none⟩)), (3, .pointer (some ⟨b10, 0, none⟩)), (16, .bool (((a1.Source.Network == b5.Source.Network) && ((a1.Source.Station == b5.Source.Station) && ((a1.Source.Location == b5.Source.Location) && ((a1.Source.Channel == b5.Source.Channel) && true)))) && (a1.Start == b5.Start)))] a) ?_ ?_
 ·rcases Bool.eq_false_or_eq_true ((a1.Source.Network == b5.Source.Network) && ((a1.Source.Station == b5.Source.Station) && ((a1.Source.Location == b5.Source.Location) && ((a1.Source.Channel == b5.Source.Channel) && true)))) with h11 | h11
  ·have hs := hs.fix 10 (.bool true) rfl (vb h11)
   refine st_val hs (y_fieldAddr (o' := 4) Try.runUnderlying32 rfl Try.sizeOf3 rfl rfl rfl) ⟨_, rfl, rfl⟩ rfl rfl fun a hs => ?_
   refine st_val hs (y_loadB1 (hw.ownAt 1 rfl) rfl Try.isAgg3 rfl) ⟨_, rfl, rfl⟩ rfl rfl fun a hs => ?_
   refine st_val hs (y_fieldAddr (o' := 4) Try.runUnderlying32 rfl Try.sizeOf3 rfl rfl rfl) ⟨_, rfl, rfl⟩ rfl rfl fun a hs => ?_
   refine st_val hs (y_loadB1 (hw.ownAt 0 rfl) rfl Try.isAgg3 rfl) ⟨_, rfl, rfl⟩ rfl rfl fun a hs => ?_
   refine st_val hs (y_eql rfl rfl) ⟨_, rfl, rfl⟩ rfl rfl fun a hs => ?_
   refine st_val hs (y_pickT rfl rfl) trivial rfl rfl fun a hs => ?_
   refine wpList_nil ?_
   refine then_normal ?_
   exact ⟨rfl, (hs.fix 16 (.bool (((a1.Source.Network == b5.Source.Network) && ((a1.Source.Station == b5.Source.Station) && ((a1.Source.Location == b5.Source.Location) && ((a1.Source.Channel == b5.Source.Channel) && true)))) && (a1.Start == b5.Start))) rfl (and_t h11)).weaken _ ⟨rfl, rfl, rfl, trivial⟩⟩
  ·have hs := hs.fix 10 (.bool false) rfl (vb h11)
   refine st_skip hs rfl rfl rfl rfl rfl fun a hs => ?_
   refine st_skip hs rfl rfl rfl rfl rfl fun a hs => ?_
   refine st_skip hs rfl rfl rfl rfl rfl fun a hs => ?_
   refine st_skip hs rfl rfl rfl rfl rfl fun a hs => ?_
   refine st_skip hs rfl rfl rfl rfl rfl fun a hs => ?_
   refine st_val hs (y_pickF rfl rfl) trivial rfl rfl fun a hs => ?_
   refine wpList_nil ?_
   refine then_normal ?_
   exact ⟨rfl, (hs.fix 16 (.bool (((a1.Source.Network == b5.Source.Network) && ((a1.Source.Station == b5.Source.Station) && ((a1.Source.Location == b5.Source.Location) && ((a1.Source.Channel == b5.Source.Channel) && true)))) && (a1.Start == b5.Start))) rfl (and_f h11)).weaken _ ⟨rfl, rfl, rfl, trivial⟩⟩
 ·rintro a w1 ⟨h39, hs⟩
  subst h39
  refine st_val hs (y_move rfl) trivial rfl rfl fun a hs => ?_
  refine wpl_join 6 (fun a w1 => w = w1 ∧ Sl 59 [(2, .pointer (some ⟨b9, 0, none⟩)), (3, .pointer (some ⟨b10, 0, none⟩)), (23, .bool ((((a1.Source.Network == b5.Source.Network) && ((a1.Source.Station == b5.Source.Station) && ((a1.Source.Location == b5.Source.Location) && ((a1.Source.Channel == b5.Source.Channel) && true)))) && (a1.Start == b5.Start)) && (a1.First == b5.First)))] a) ?_ ?_
  ·rcases Bool.eq_false_or_eq_true (((a1.Source.Network == b5.Source.Network) && ((a1.Source.Station == b5.Source.Station) && ((a1.Source.Location == b5.Source.Location) && ((a1.Source.Channel == b5.Source.Channel) && true)))) && (a1.Start == b5.Start)) with h12 | h12
   ·have hs := hs.fix 17 (.bool true) rfl (vb h12)
    refine st_val hs (y_fieldAddr (o' := 5) Try.runUnderlying32 rfl Try.sizeOf3 rfl rfl rfl) ⟨_, rfl, rfl⟩ rfl rfl fun a hs => ?_
    refine st_val hs (y_loadB1 (hw.ownAt 1 rfl) rfl Try.isAgg3 rfl) ⟨_, rfl, rfl⟩ rfl rfl fun a hs => ?_
    refine st_val hs (y_fieldAddr (o' := 5) Try.runUnderlying32 rfl Try.sizeOf3 rfl rfl rfl) ⟨_, rfl, rfl⟩ rfl rfl fun a hs => ?_
    refine st_val hs (y_loadB1 (hw.ownAt 0 rfl) rfl Try.isAgg3 rfl) ⟨_, rfl, rfl⟩ rfl rfl fun a hs => ?_
    refine st_val hs (y_eql rfl rfl) ⟨_, rfl, rfl⟩ rfl rfl fun a hs => ?_
    refine st_val hs (y_pickT rfl rfl) trivial rfl rfl fun a hs => ?_
    refine wpList_nil ?_
    refine then_normal ?_
    exact ⟨rfl, (hs.fix 23 (.bool ((((a1.Source.Network == b5.Source.Network) && ((a1.Source.Station == b5.Source.Station) && ((a1.Source.Location == b5.Source.Location) && ((a1.Source.Channel == b5.Source.Channel) && true)))) && (a1.Start == b5.Start)) && (a1.First == b5.First))) rfl (and_t h12)).weaken _ ⟨rfl, rfl, rfl, trivial⟩⟩
   ·have hs := hs.fix 17 (.bool false) rfl (vb h12)
    refine st_skip hs rfl rfl rfl rfl rfl fun a hs => ?_
    refine st_skip hs rfl rfl rfl rfl rfl fun a hs => ?_
    refine st_skip hs rfl rfl rfl rfl rfl fun a hs => ?_
    refine st_skip hs rfl rfl rfl rfl rfl fun a hs => ?_
    refine st_skip hs rfl rfl rfl rfl rfl fun a hs => ?_
    refine st_val hs (y_pickF rfl rfl) trivial rfl rfl fun a hs => ?_
    refine wpList_nil ?_
    refine then_normal ?_
    exact ⟨rfl, (hs.fix 23 (.bool ((((a1.Source.Network == b5.Source.Network) && ((a1.Source.Station == b5.Source.Station) && ((a1.Source.Location == b5.Source.Location) && ((a1.Source.Channel == b5.Source.Channel) && true)))) && (a1.Start == b5.Start)) && (a1.First == b5.First))) rfl (and_f h12)).weaken _ ⟨rfl, rfl, rfl, trivial⟩⟩
  ·rintro a w1 ⟨h38, hs⟩
   subst h38
   refine st_val hs (y_move rfl) trivial rfl rfl fun a hs => ?_
   refine wpl_join 6 (fun a w1 => w = w1 ∧ Sl 59 [(2, .pointer (some ⟨b9, 0, none⟩)), (3, .pointer (some ⟨b10, 0, none⟩)), (30, .bool (((((a1.Source.Network == b5.Source.Network) && ((a1.Source.Station == b5.Source.Station) && ((a1.Source.Location == b5.Source.Location) && ((a1.Source.Channel == b5.Source.Channel) && true)))) && (a1.Start == b5.Start)) && (a1.First == b5.First)) && ((a1.Rate.Num == b5.Rate.Num) && ((a1.Rate.Den == b5.Rate.Den) && true))))] a) ?_ ?_
   ·rcases Bool.eq_false_or_eq_true ((((a1.Source.Network == b5.Source.Network) && ((a1.Source.Station == b5.Source.Station) && ((a1.Source.Location == b5.Source.Location) && ((a1.Source.Channel == b5.Source.Channel) && true)))) && (a1.Start == b5.Start)) && (a1.First == b5.First)) with h13 | h13
    ·have hs := hs.fix 24 (.bool true) rfl (vb h13)
     refine st_val hs (y_fieldAddr (o' := 6) Try.runUnderlying32 rfl Try.sizeOf30 rfl rfl rfl) ⟨_, rfl, rfl⟩ rfl rfl fun a hs => ?_
     refine st_val hs (y_loadBA (hw.ownAt 1 rfl) rfl Try.isAgg30 Try.sizeOf30 rfl rfl) ⟨_, rfl, rfl⟩ rfl rfl fun a hs => ?_
     refine st_val hs (y_fieldAddr (o' := 6) Try.runUnderlying32 rfl Try.sizeOf30 rfl rfl rfl) ⟨_, rfl, rfl⟩ rfl rfl fun a hs => ?_
     refine st_val hs (y_loadBA (hw.ownAt 0 rfl) rfl Try.isAgg30 Try.sizeOf30 rfl rfl) ⟨_, rfl, rfl⟩ rfl rfl fun a hs => ?_
     refine st_val hs (y_eqlA (by kernel_rfl) rfl rfl (eqv_struct Try.runUnderlying30 (by kernel_rfl) (EqF.cons1 rfl Try.isAgg3 rfl rfl (eqv_int Try.runUnderlying3) (EqF.cons1 rfl Try.isAgg3 rfl rfl (eqv_int Try.runUnderlying3) EqF.nil)))) ⟨_, rfl, rfl⟩ rfl rfl fun a hs => ?_
     refine st_val hs (y_pickT rfl rfl) trivial rfl rfl fun a hs => ?_
     refine wpList_nil ?_
     refine then_normal ?_
     exact ⟨rfl, (hs.fix 30 (.bool (((((a1.Source.Network == b5.Source.Network) && ((a1.Source.Station == b5.Source.Station) && ((a1.Source.Location == b5.Source.Location) && ((a1.Source.Channel == b5.Source.Channel) && true)))) && (a1.Start == b5.Start)) && (a1.First == b5.First)) && ((a1.Rate.Num == b5.Rate.Num) && ((a1.Rate.Den == b5.Rate.Den) && true)))) rfl (and_t h13)).weaken _ ⟨rfl, rfl, rfl, trivial⟩⟩
    ·have hs := hs.fix 24 (.bool false) rfl (vb h13)
     refine st_skip hs rfl rfl rfl rfl rfl fun a hs => ?_
     refine st_skip hs rfl rfl rfl rfl rfl fun a hs => ?_
     refine st_skip hs rfl rfl rfl rfl rfl fun a hs => ?_
     refine st_skip hs rfl rfl rfl rfl rfl fun a hs => ?_
     refine st_skip hs rfl rfl rfl rfl rfl fun a hs => ?_
     refine st_val hs (y_pickF rfl rfl) trivial rfl rfl fun a hs => ?_
     refine wpList_nil ?_
     refine then_normal ?_
     exact ⟨rfl, (hs.fix 30 (.bool (((((a1.Source.Network == b5.Source.Network) && ((a1.Source.Station == b5.Source.Station) && ((a1.Source.Location == b5.Source.Location) && ((a1.Source.Channel == b5.Source.Channel) && true)))) && (a1.Start == b5.Start)) && (a1.First == b5.First)) && ((a1.Rate.Num == b5.Rate.Num) && ((a1.Rate.Den == b5.Rate.Den) && true)))) rfl (and_f h13)).weaken _ ⟨rfl, rfl, rfl, trivial⟩⟩
   ·rintro a w1 ⟨h37, hs⟩
    subst h37
    refine st_val hs (y_move rfl) trivial rfl rfl fun a hs => ?_
    refine wpl_join 6 (fun a w1 => w = w1 ∧ Sl 59 [(2, .pointer (some ⟨b9, 0, none⟩)), (3, .pointer (some ⟨b10, 0, none⟩)), (37, .bool ((((((a1.Source.Network == b5.Source.Network) && ((a1.Source.Station == b5.Source.Station) && ((a1.Source.Location == b5.Source.Location) && ((a1.Source.Channel == b5.Source.Channel) && true)))) && (a1.Start == b5.Start)) && (a1.First == b5.First)) && ((a1.Rate.Num == b5.Rate.Num) && ((a1.Rate.Den == b5.Rate.Den) && true))) && (a1.Error == b5.Error)))] a) ?_ ?_
    ·rcases Bool.eq_false_or_eq_true (((((a1.Source.Network == b5.Source.Network) && ((a1.Source.Station == b5.Source.Station) && ((a1.Source.Location == b5.Source.Location) && ((a1.Source.Channel == b5.Source.Channel) && true)))) && (a1.Start == b5.Start)) && (a1.First == b5.First)) && ((a1.Rate.Num == b5.Rate.Num) && ((a1.Rate.Den == b5.Rate.Den) && true))) with h14 | h14
     ·have hs := hs.fix 31 (.bool true) rfl (vb h14)
      refine st_val hs (y_fieldAddr (o' := 8) Try.runUnderlying32 rfl Try.sizeOf3 rfl rfl rfl) ⟨_, rfl, rfl⟩ rfl rfl fun a hs => ?_
      refine st_val hs (y_loadB1 (hw.ownAt 1 rfl) rfl Try.isAgg3 rfl) ⟨_, rfl, rfl⟩ rfl rfl fun a hs => ?_
      refine st_val hs (y_fieldAddr (o' := 8) Try.runUnderlying32 rfl Try.sizeOf3 rfl rfl rfl) ⟨_, rfl, rfl⟩ rfl rfl fun a hs => ?_
      refine st_val hs (y_loadB1 (hw.ownAt 0 rfl) rfl Try.isAgg3 rfl) ⟨_, rfl, rfl⟩ rfl rfl fun a hs => ?_
      refine st_val hs (y_eql rfl rfl) ⟨_, rfl, rfl⟩ rfl rfl fun a hs => ?_
      refine st_val hs (y_pickT rfl rfl) trivial rfl rfl fun a hs => ?_
      refine wpList_nil ?_
      refine then_normal ?_
      exact ⟨rfl, (hs.fix 37 (.bool ((((((a1.Source.Network == b5.Source.Network) && ((a1.Source.Station == b5.Source.Station) && ((a1.Source.Location == b5.Source.Location) && ((a1.Source.Channel == b5.Source.Channel) && true)))) && (a1.Start == b5.Start)) && (a1.First == b5.First)) && ((a1.Rate.Num == b5.Rate.Num) && ((a1.Rate.Den == b5.Rate.Den) && true))) && (a1.Error == b5.Error))) rfl (and_t h14)).weaken _ ⟨rfl, rfl, rfl, trivial⟩⟩
     ·have hs := hs.fix 31 (.bool false) rfl (vb h14)
      refine st_skip hs rfl rfl rfl rfl rfl fun a hs => ?_
      refine st_skip hs rfl rfl rfl rfl rfl fun a hs => ?_
      refine st_skip hs rfl rfl rfl rfl rfl fun a hs => ?_
      refine st_skip hs rfl rfl rfl rfl rfl fun a hs => ?_
      refine st_skip hs rfl rfl rfl rfl rfl fun a hs => ?_
      refine st_val hs (y_pickF rfl rfl) trivial rfl rfl fun a hs => ?_
      refine wpList_nil ?_
      refine then_normal ?_
      exact ⟨rfl, (hs.fix 37 (.bool ((((((a1.Source.Network == b5.Source.Network) && ((a1.Source.Station == b5.Source.Station) && ((a1.Source.Location == b5.Source.Location) && ((a1.Source.Channel == b5.Source.Channel) && true)))) && (a1.Start == b5.Start)) && (a1.First == b5.First)) && ((a1.Rate.Num == b5.Rate.Num) && ((a1.Rate.Den == b5.Rate.Den) && true))) && (a1.Error == b5.Error))) rfl (and_f h14)).weaken _ ⟨rfl, rfl, rfl, trivial⟩⟩
    ·rintro a w1 ⟨h36, hs⟩
     subst h36
     refine st_val hs (y_move rfl) trivial rfl rfl fun a hs => ?_
     refine wpl_join 6 (fun a w1 => w = w1 ∧ Sl 59 [(2, .pointer (some ⟨b9, 0, none⟩)), (3, .pointer (some ⟨b10, 0, none⟩)), (44, .bool (((((((a1.Source.Network == b5.Source.Network) && ((a1.Source.Station == b5.Source.Station) && ((a1.Source.Location == b5.Source.Location) && ((a1.Source.Channel == b5.Source.Channel) && true)))) && (a1.Start == b5.Start)) && (a1.First == b5.First)) && ((a1.Rate.Num == b5.Rate.Num) && ((a1.Rate.Den == b5.Rate.Den) && true))) && (a1.Error == b5.Error)) && (a1.Run == b5.Run)))] a) ?_ ?_
     ·rcases Bool.eq_false_or_eq_true ((((((a1.Source.Network == b5.Source.Network) && ((a1.Source.Station == b5.Source.Station) && ((a1.Source.Location == b5.Source.Location) && ((a1.Source.Channel == b5.Source.Channel) && true)))) && (a1.Start == b5.Start)) && (a1.First == b5.First)) && ((a1.Rate.Num == b5.Rate.Num) && ((a1.Rate.Den == b5.Rate.Den) && true))) && (a1.Error == b5.Error)) with h15 | h15
      ·have hs := hs.fix 38 (.bool true) rfl (vb h15)
       refine st_val hs (y_fieldAddr (o' := 9) Try.runUnderlying32 rfl Try.sizeOf3 rfl rfl rfl) ⟨_, rfl, rfl⟩ rfl rfl fun a hs => ?_
       refine st_val hs (y_loadB1 (hw.ownAt 1 rfl) rfl Try.isAgg3 rfl) ⟨_, rfl, rfl⟩ rfl rfl fun a hs => ?_
       refine st_val hs (y_fieldAddr (o' := 9) Try.runUnderlying32 rfl Try.sizeOf3 rfl rfl rfl) ⟨_, rfl, rfl⟩ rfl rfl fun a hs => ?_
       refine st_val hs (y_loadB1 (hw.ownAt 0 rfl) rfl Try.isAgg3 rfl) ⟨_, rfl, rfl⟩ rfl rfl fun a hs => ?_
       refine st_val hs (y_eql rfl rfl) ⟨_, rfl, rfl⟩ rfl rfl fun a hs => ?_
       refine st_val hs (y_pickT rfl rfl) trivial rfl rfl fun a hs => ?_
       refine wpList_nil ?_
       refine then_normal ?_
       exact ⟨rfl, (hs.fix 44 (.bool (((((((a1.Source.Network == b5.Source.Network) && ((a1.Source.Station == b5.Source.Station) && ((a1.Source.Location == b5.Source.Location) && ((a1.Source.Channel == b5.Source.Channel) && true)))) && (a1.Start == b5.Start)) && (a1.First == b5.First)) && ((a1.Rate.Num == b5.Rate.Num) && ((a1.Rate.Den == b5.Rate.Den) && true))) && (a1.Error == b5.Error)) && (a1.Run == b5.Run))) rfl (and_t h15)).weaken _ ⟨rfl, rfl, rfl, trivial⟩⟩
      ·have hs := hs.fix 38 (.bool false) rfl (vb h15)
       refine st_skip hs rfl rfl rfl rfl rfl fun a hs => ?_
       refine st_skip hs rfl rfl rfl rfl rfl fun a hs => ?_
       refine st_skip hs rfl rfl rfl rfl rfl fun a hs => ?_
       refine st_skip hs rfl rfl rfl rfl rfl fun a hs => ?_
       refine st_skip hs rfl rfl rfl rfl rfl fun a hs => ?_
       refine st_val hs (y_pickF rfl rfl) trivial rfl rfl fun a hs => ?_
       refine wpList_nil ?_
       refine then_normal ?_
       exact ⟨rfl, (hs.fix 44 (.bool (((((((a1.Source.Network == b5.Source.Network) && ((a1.Source.Station == b5.Source.Station) && ((a1.Source.Location == b5.Source.Location) && ((a1.Source.Channel == b5.Source.Channel) && true)))) && (a1.Start == b5.Start)) && (a1.First == b5.First)) && ((a1.Rate.Num == b5.Rate.Num) && ((a1.Rate.Den == b5.Rate.Den) && true))) && (a1.Error == b5.Error)) && (a1.Run == b5.Run))) rfl (and_f h15)).weaken _ ⟨rfl, rfl, rfl, trivial⟩⟩
     ·rintro a w1 ⟨h35, hs⟩
      subst h35
      refine st_val hs (y_move rfl) trivial rfl rfl fun a hs => ?_
      refine wpl_join 6 (fun a w1 => w = w1 ∧ Sl 59 [(2, .pointer (some ⟨b9, 0, none⟩)), (3, .pointer (some ⟨b10, 0, none⟩)), (51, .bool ((((((((a1.Source.Network == b5.Source.Network) && ((a1.Source.Station == b5.Source.Station) && ((a1.Source.Location == b5.Source.Location) && ((a1.Source.Channel == b5.Source.Channel) && true)))) && (a1.Start == b5.Start)) && (a1.First == b5.First)) && ((a1.Rate.Num == b5.Rate.Num) && ((a1.Rate.Den == b5.Rate.Den) && true))) && (a1.Error == b5.Error)) && (a1.Run == b5.Run)) && (a1.Seq == b5.Seq)))] a) ?_ ?_
      ·rcases Bool.eq_false_or_eq_true (((((((a1.Source.Network == b5.Source.Network) && ((a1.Source.Station == b5.Source.Station) && ((a1.Source.Location == b5.Source.Location) && ((a1.Source.Channel == b5.Source.Channel) && true)))) && (a1.Start == b5.Start)) && (a1.First == b5.First)) && ((a1.Rate.Num == b5.Rate.Num) && ((a1.Rate.Den == b5.Rate.Den) && true))) && (a1.Error == b5.Error)) && (a1.Run == b5.Run)) with h16 | h16
       ·have hs := hs.fix 45 (.bool true) rfl (vb h16)
        refine st_val hs (y_fieldAddr (o' := 10) Try.runUnderlying32 rfl Try.sizeOf3 rfl rfl rfl) ⟨_, rfl, rfl⟩ rfl rfl fun a hs => ?_
        refine st_val hs (y_loadB1 (hw.ownAt 1 rfl) rfl Try.isAgg3 rfl) ⟨_, rfl, rfl⟩ rfl rfl fun a hs => ?_
        refine st_val hs (y_fieldAddr (o' := 10) Try.runUnderlying32 rfl Try.sizeOf3 rfl rfl rfl) ⟨_, rfl, rfl⟩ rfl rfl fun a hs => ?_
        refine st_val hs (y_loadB1 (hw.ownAt 0 rfl) rfl Try.isAgg3 rfl) ⟨_, rfl, rfl⟩ rfl rfl fun a hs => ?_
        refine st_val hs (y_eql rfl rfl) ⟨_, rfl, rfl⟩ rfl rfl fun a hs => ?_
        refine st_val hs (y_pickT rfl rfl) trivial rfl rfl fun a hs => ?_
        refine wpList_nil ?_
        refine then_normal ?_
        exact ⟨rfl, (hs.fix 51 (.bool ((((((((a1.Source.Network == b5.Source.Network) && ((a1.Source.Station == b5.Source.Station) && ((a1.Source.Location == b5.Source.Location) && ((a1.Source.Channel == b5.Source.Channel) && true)))) && (a1.Start == b5.Start)) && (a1.First == b5.First)) && ((a1.Rate.Num == b5.Rate.Num) && ((a1.Rate.Den == b5.Rate.Den) && true))) && (a1.Error == b5.Error)) && (a1.Run == b5.Run)) && (a1.Seq == b5.Seq))) rfl (and_t h16)).weaken _ ⟨rfl, rfl, rfl, trivial⟩⟩
       ·have hs := hs.fix 45 (.bool false) rfl (vb h16)
        refine st_skip hs rfl rfl rfl rfl rfl fun a hs => ?_
        refine st_skip hs rfl rfl rfl rfl rfl fun a hs => ?_
        refine st_skip hs rfl rfl rfl rfl rfl fun a hs => ?_
        refine st_skip hs rfl rfl rfl rfl rfl fun a hs => ?_
        refine st_skip hs rfl rfl rfl rfl rfl fun a hs => ?_
        refine st_val hs (y_pickF rfl rfl) trivial rfl rfl fun a hs => ?_
        refine wpList_nil ?_
        refine then_normal ?_
        exact ⟨rfl, (hs.fix 51 (.bool ((((((((a1.Source.Network == b5.Source.Network) && ((a1.Source.Station == b5.Source.Station) && ((a1.Source.Location == b5.Source.Location) && ((a1.Source.Channel == b5.Source.Channel) && true)))) && (a1.Start == b5.Start)) && (a1.First == b5.First)) && ((a1.Rate.Num == b5.Rate.Num) && ((a1.Rate.Den == b5.Rate.Den) && true))) && (a1.Error == b5.Error)) && (a1.Run == b5.Run)) && (a1.Seq == b5.Seq))) rfl (and_f h16)).weaken _ ⟨rfl, rfl, rfl, trivial⟩⟩
      ·rintro a w1 ⟨h34, hs⟩
       subst h34
       refine st_val hs (y_move rfl) trivial rfl rfl fun a hs => ?_
       obtain ⟨c25, hc25, hsh⟩ := bind_t hsh
       refine wpl_join 6 (fun a w => ∃ (Sv26 : Nat → Prop), Sl 59 [(58, .bool c25)] a ∧ Wd ⟨w0, S0, []⟩ Sv26 [] [] w) ?_ ?_
       ·rcases Bool.eq_false_or_eq_true ((((((((a1.Source.Network == b5.Source.Network) && ((a1.Source.Station == b5.Source.Station) && ((a1.Source.Location == b5.Source.Location) && ((a1.Source.Channel == b5.Source.Channel) && true)))) && (a1.Start == b5.Start)) && (a1.First == b5.First)) && ((a1.Rate.Num == b5.Rate.Num) && ((a1.Rate.Den == b5.Rate.Den) && true))) && (a1.Error == b5.Error)) && (a1.Run == b5.Run)) && (a1.Seq == b5.Seq)) with h24 | h24
        ·have hs := hs.fix 52 (.bool true) rfl (vb h24)
         have hsh := ite_t hc25 h24
         refine st_val hs (y_fieldAddr (o' := 11) Try.runUnderlying32 rfl Try.sizeOf22 rfl rfl rfl) ⟨_, rfl, rfl⟩ rfl rfl fun a hs => ?_
         refine st_val hs (y_loadB1 (hw.ownAt 1 rfl) rfl Try.isAgg22 rfl) ⟨_, rfl, rfl⟩ rfl rfl fun a hs => ?_
         refine st_val hs (y_fieldAddr (o' := 11) Try.runUnderlying32 rfl Try.sizeOf22 rfl rfl rfl) ⟨_, rfl, rfl⟩ rfl rfl fun a hs => ?_
         refine st_val hs (y_loadB1 (hw.ownAt 0 rfl) rfl Try.isAgg22 rfl) ⟨_, rfl, rfl⟩ rfl rfl fun a hs => ?_
         obtain ⟨rv28, h27, hsh⟩ := bind_t hsh
         refine st_callR hs (slices_Equal_Lint_int_ok h27 hw.bdom (hw.bE 1 rfl) (hw.bE 0 rfl)) (do_call Try.call40 rfl) ⟨_, rfl, rfl⟩ rfl rfl ?_
         intro v32 Sv29 w a h30 h31 hs
         subst h31
         have hw := hw.callB h30
         refine st_val hs (y_pickT rfl rfl) trivial rfl rfl fun a hs => ?_
         refine wpList_nil ?_
         have hsh := Option.some.inj hsh
         subst hsh
         refine then_normal ?_
         exact ⟨S0, (hs.wk rfl), (hw.ft [] [] (by decide) rfl rfl)⟩
        ·have hs := hs.fix 52 (.bool false) rfl (vb h24)
         have hsh := ite_f hc25 h24
         refine st_skip hs rfl rfl rfl rfl rfl fun a hs => ?_
         refine st_skip hs rfl rfl rfl rfl rfl fun a hs => ?_
         refine st_skip hs rfl rfl rfl rfl rfl fun a hs => ?_
         refine st_skip hs rfl rfl rfl rfl rfl fun a hs => ?_
         refine st_skip hs rfl rfl rfl rfl rfl fun a hs => ?_
         refine st_val hs (y_pickF rfl rfl) trivial rfl rfl fun a hs => ?_
         refine wpList_nil ?_
         have hsh := Option.some.inj hsh
         subst hsh
         refine then_normal ?_
         exact ⟨S0, (hs.wk rfl), (hw.ft [] [] (by decide) rfl rfl)⟩
       ·rintro a w ⟨Sv26, hs, hw⟩
        refine st_val hs (y_assign rfl) trivial rfl rfl fun a hs => ?_
        refine wpList_nil ?_
        refine then_normal ?_
        have hsh := Option.some.inj hsh
        subst hsh
        refine wp_ret ?_
        exact ret1 hs rfl (rv_tmp rfl) (hw.ret rfl)

abbrev record_Better_rd (w0 : World) (X : List Nat) (r : Bool) : (Nat → Prop) → World → Value → Prop := fun S w v => v = .bool r
set_option maxHeartbeats 4000000 in
set_option maxRecDepth 100000 in
theorem record_Better_ok {w0 : World} {S0 : Nat → Prop} {p2 : Option Addr} {k3 : Nat} {p6 : Option Addr} {k7 : Nat} {a1 : Record} {b5 : Record} {r : Bool} (hsh : record_Better a1 b5 = some r) (hS : ∀ b, S0 b → b < w0.heap.size) (h4 : (SlA p2 a1.Samples.length k3 a1.Samples).p S0 w0) (h8 : (SlA p6 b5.Samples.length k7 b5.Samples).p S0 w0) : Calls Try.prog 24 #[.agg #[.string a1.Source.Network, .string a1.Source.Station, .string a1.Source.Location, .string a1.Source.Channel, .int .i64 a1.Start, .int .i64 a1.First, .int .i64 a1.Rate.Num, .int .i64 a1.Rate.Den, .int .i64 a1.Error, .int .i64 a1.Run, .int .i64 a1.Seq, .slice p2 a1.Samples.length k3], .agg #[.string b5.Source.Network, .string b5.Source.Station, .string b5.Source.Location, .string b5.Source.Channel, .int .i64 b5.Start, .int .i64 b5.First, .int .i64 b5.Rate.Num, .int .i64 b5.Rate.Den, .int .i64 b5.Error, .int .i64 b5.Run, .int .i64 b5.Seq, .slice p6 b5.Samples.length k7]] w0 (Ret ([]) w0 S0 (record_Better_rd w0 ([]) r)) := by
 refine calls_of_wp Try.func24 rfl ?_
 have hs := Sl.enter #[.agg #[.string a1.Source.Network, .string a1.Source.Station, .string a1.Source.Location, .string a1.Source.Channel, .int .i64 a1.Start, .int .i64 a1.First, .int .i64 a1.Rate.Num, .int .i64 a1.Rate.Den, .int .i64 a1.Error, .int .i64 a1.Run, .int .i64 a1.Seq, .slice p2 a1.Samples.length k3], .agg #[.string b5.Source.Network, .string b5.Source.Station, .string b5.Source.Location, .string b5.Source.Channel, .int .i64 b5.Start, .int .i64 b5.First, .int .i64 b5.Rate.Num, .int .i64 b5.Rate.Den, .int .i64 b5.Error, .int .i64 b5.Run, .int .i64 b5.Seq, .slice p6 b5.Samples.length k7]] 26 [(0, .agg #[.string a1.Source.Network, .string a1.Source.Station, .string a1.Source.Location, .string a1.Source.Channel, .int .i64 a1.Start, .int .i64 a1.First, .int .i64 a1.Rate.Num, .int .i64 a1.Rate.Den, .int .i64 a1.Error, .int .i64 a1.Run, .int .i64 a1.Seq, .slice p2 a1.Samples.length k3]), (1, .agg #[.string b5.Source.Network, .string b5.Source.Station, .string b5.Source.Location, .string b5.Source.Channel, .int .i64 b5.Start, .int .i64 b5.First, .int .i64 b5.Rate.Num, .int .i64 b5.Rate.Den, .int .i64 b5.Error, .int .i64 b5.Run, .int .i64 b5.Seq, .slice p6 b5.Samples.length k7])] rfl ⟨rfl, rfl, trivial⟩
 have hw := Wd.enter (E := []) hS (fun _ h => (by cases h))
 have hw := hw.addE h4
 have hw := hw.addE h8
 delta record_Better at hsh
 refine wp_seq ?_
 refine wp_region_lit ?_
 refine w_box (cs := [.string a1.Source.Network, .string a1.Source.Station, .string a1.Source.Location, .string a1.Source.Channel, .int .i64 a1.Start, .int .i64 a1.First, .int .i64 a1.Rate.Num, .int .i64 a1.Rate.Den, .int .i64 a1.Error, .int .i64 a1.Run, .int .i64 a1.Seq, .slice p2 a1.Samples.length k3]) hs hw rfl rfl rfl trivial ?_
 intro b9 a w hs hw
 refine w_box (cs := [.string b5.Source.Network, .string b5.Source.Station, .string b5.Source.Location, .string b5.Source.Channel, .int .i64 b5.Start, .int .i64 b5.First, .int .i64 b5.Rate.Num, .int .i64 b5.Rate.Den, .int .i64 b5.Error, .int .i64 b5.Run, .int .i64 b5.Seq, .slice p6 b5.Samples.length k7]) hs hw rfl rfl rfl trivial ?_
 intro b10 a w hs hw
 refine st_val hs (y_assign rfl) trivial rfl rfl fun a hs => ?_
 refine wpList_nil ?_
 refine then_normal ?_
 refine wp_seq ?_
 obtain ⟨rv12, h11, hsh⟩ := bind_t hsh
 obtain ⟨rv14, h13, hsh⟩ := bind_t hsh
 obtain ⟨rv16, h15, hsh⟩ := bind_t hsh
 obtain ⟨rv18, h17, hsh⟩ := bind_t hsh
 obtain ⟨rv22, h21, hsh⟩ := bind_t hsh
 refine wp_only (fun a w => ∃ (Sv23 : Nat → Prop), Sl 26 [(4, .bool (decide (rv22 < 0)))] a ∧ Wd ⟨w0, S0, []⟩ Sv23 [] [] w) ?_ ?_
 ·refine h_b (C := Cls [.box b10 [.string b5.Source.Network, .string b5.Source.Station, .string b5.Source.Location, .string b5.Source.Channel, .int .i64 b5.Start, .int .i64 b5.First, .int .i64 b5.Rate.Num, .int .i64 b5.Rate.Den, .int .i64 b5.Error, .int .i64 b5.Run, .int .i64 b5.Seq, .slice p6 b5.Samples.length k7] 32, .box b9 [.string a1.Source.Network, .string a1.Source.Station, .string a1.Source.Location, .string a1.Source.Channel, .int .i64 a1.Start, .int .i64 a1.First, .int .i64 a1.Rate.Num, .int .i64 a1.Rate.Den, .int .i64 a1.Error, .int .i64 a1.Run, .int .i64 a1.Seq, .slice p2 a1.Samples.length k3] 32] []) (by kernel_rfl) rfl (hw.drew.cs [0, 1] [] rfl rfl) fun hC => ?_
  have hw := hw.drew
  refine h_g hs 0 rfl (by kernel_rfl) rfl rfl hC rfl (fun w hC => y_fieldAddr (o' := 8) Try.runUnderlying32 rfl Try.sizeOf3 rfl rfl rfl) fun a hs => ?_
  refine h_g hs 1 rfl (by kernel_rfl) rfl rfl hC rfl (fun w hC => y_loadB1 (hC.ownAt 1 rfl) rfl Try.isAgg3 rfl) fun a hs => ?_
  refine h_g hs 2 rfl (by kernel_rfl) rfl rfl hC rfl (fun w hC => y_fieldAddr (o' := 8) Try.runUnderlying32 rfl Try.sizeOf3 rfl rfl rfl) fun a hs => ?_
  refine h_g hs 3 rfl (by kernel_rfl) rfl rfl hC rfl (fun w hC => y_loadB1 (hC.ownAt 0 rfl) rfl Try.isAgg3 rfl) fun a hs => ?_
  refine h_g hs 5 rfl (by kernel_rfl) rfl rfl hC rfl (fun w hC => y_fieldAddr (o' := 9) Try.runUnderlying32 rfl Try.sizeOf3 rfl rfl rfl) fun a hs => ?_
  refine h_g hs 6 rfl (by kernel_rfl) rfl rfl hC rfl (fun w hC => y_loadB1 (hC.ownAt 0 rfl) rfl Try.isAgg3 rfl) fun a hs => ?_
  refine h_g hs 7 rfl (by kernel_rfl) rfl rfl hC rfl (fun w hC => y_fieldAddr (o' := 9) Try.runUnderlying32 rfl Try.sizeOf3 rfl rfl rfl) fun a hs => ?_
  refine h_g hs 8 rfl (by kernel_rfl) rfl rfl hC rfl (fun w hC => y_loadB1 (hC.ownAt 1 rfl) rfl Try.isAgg3 rfl) fun a hs => ?_
  refine h_g hs 10 rfl (by kernel_rfl) rfl rfl hC rfl (fun w hC => y_fieldAddr (o' := 10) Try.runUnderlying32 rfl Try.sizeOf3 rfl rfl rfl) fun a hs => ?_
  refine h_g hs 11 rfl (by kernel_rfl) rfl rfl hC rfl (fun w hC => y_loadB1 (hC.ownAt 0 rfl) rfl Try.isAgg3 rfl) fun a hs => ?_
  refine h_g hs 12 rfl (by kernel_rfl) rfl rfl hC rfl (fun w hC => y_fieldAddr (o' := 10) Try.runUnderlying32 rfl Try.sizeOf3 rfl rfl rfl) fun a hs => ?_
  refine h_g hs 13 rfl (by kernel_rfl) rfl rfl hC rfl (fun w hC => y_loadB1 (hC.ownAt 1 rfl) rfl Try.isAgg3 rfl) fun a hs => ?_
  refine h_g hs 15 rfl (by kernel_rfl) rfl rfl hC rfl (fun w hC => y_loadBA (hC.ownAt 1 rfl) rfl Try.isAgg32 Try.sizeOf32 rfl rfl) fun a hs => ?_
  refine h_g hs 16 rfl (by kernel_rfl) rfl rfl hC rfl (fun w hC => y_loadBA (hC.ownAt 0 rfl) rfl Try.isAgg32 Try.sizeOf32 rfl rfl) fun a hs => ?_
  refine h_one (i := 4) (by kernel_rfl) rfl ?_
  refine st_callR hs (cmp_Compare_int_ok h11 hw.bdom) (do_call Try.call49 rfl) trivial rfl rfl ?_
  intro v27 Sv24 w a h25 h26 hs
  subst h26
  have hw := hw.callB h25
  refine h_nx (hw.cs [0, 1] [] rfl rfl) fun hC => ?_
  refine h_one (i := 9) (by kernel_rfl) rfl ?_
  refine st_callR hs (cmp_Compare_int_ok h13 hw.bdom) (do_call Try.call49 rfl) trivial rfl rfl ?_
  intro v32 Sv29 w a h30 h31 hs
  subst h31
  have hw := hw.callB h30
  refine h_nx (hw.cs [0, 1] [] rfl rfl) fun hC => ?_
  refine h_one (i := 14) (by kernel_rfl) rfl ?_
  refine st_callR hs (cmp_Compare_int_ok h15 hw.bdom) (do_call Try.call49 rfl) trivial rfl rfl ?_
  intro v37 Sv34 w a h35 h36 hs
  subst h36
  have hw := hw.callB h35
  refine h_nx (hw.cs [0, 1] [] rfl rfl) fun hC => ?_
  refine h_one (i := 17) (by kernel_rfl) rfl ?_
  refine st_callR hs (record_Compare_ok h17 hw.bdom (hw.bE 1 rfl) (hw.bE 0 rfl)) (do_call Try.call23 rfl) trivial rfl rfl ?_
  intro v42 Sv39 w a h40 h41 hs
  subst h41
  have hw := hw.callB h40
  refine h_nx (hw.cs [0, 1] [] rfl rfl) fun hC => ?_
  refine h_one (i := 18) (by kernel_rfl) rfl ?_
  refine w_litSlice (α := Int) (vs := [.int .i64 rv12, .int .i64 rv14, .int .i64 rv16, .int .i64 rv18]) (cs := [.int .i64 rv12, .int .i64 rv14, .int .i64 rv16, .int .i64 rv18]) (xs := ([rv12, rv14, rv16, rv18] : List Int)) hs hw El22 rfl rfl rfl rfl rfl rfl ⟨⟨_, rfl, rfl⟩, ⟨⟨_, rfl, rfl⟩, ⟨⟨_, rfl, rfl⟩, ⟨⟨_, rfl, rfl⟩, rfl⟩⟩⟩⟩ rfl trivial rfl fun b20 a w hs hw => ?_
  refine h_nx (hw.cs [1, 2] [] rfl rfl) fun hC => ?_
  refine h_st (C' := Cls [.box b10 [.string b5.Source.Network, .string b5.Source.Station, .string b5.Source.Location, .string b5.Source.Channel, .int .i64 b5.Start, .int .i64 b5.First, .int .i64 b5.Rate.Num, .int .i64 b5.Rate.Den, .int .i64 b5.Error, .int .i64 b5.Run, .int .i64 b5.Seq, .slice p6 b5.Samples.length k7] 32, .box b9 [.string a1.Source.Network, .string a1.Source.Station, .string a1.Source.Location, .string a1.Source.Channel, .int .i64 a1.Start, .int .i64 a1.First, .int .i64 a1.Rate.Num, .int .i64 a1.Rate.Den, .int .i64 a1.Error, .int .i64 a1.Run, .int .i64 a1.Seq, .slice p2 a1.Samples.length k3] 32, .row (some ⟨b20, 0, none⟩) ([rv12, rv14, rv16, rv18] : List Int).length ([rv12, rv14, rv16, rv18] : List Int).length [.int .i64 rv12, .int .i64 rv14, .int .i64 rv16, .int .i64 rv18] 3 1] []) (fun _ h => by exact h.sub [0, 1] (Sel.of rfl) (AllIn.of [] rfl)) (hw.cs [1, 2, 0] [] rfl rfl) fun hC => ?_
  refine h_one (i := 19) (by kernel_rfl) rfl ?_
  refine st_callR hs (cmp_Or_int_ok h21 hw.bdom (hw.bRow 0 rfl 0 rfl)) (do_call Try.call47 rfl) trivial rfl rfl ?_
  intro v47 Sv44 w a h45 h46 hs
  subst h46
  have hw := hw.callB h45
  refine h_nx (hw.cs [1, 2, 0] [] rfl rfl) fun hC => ?_
  refine h_g hs 20 rfl (by kernel_rfl) rfl rfl hC rfl (fun w hC => y_lss rfl rfl) fun a hs => ?_
  refine h_g hs 21 rfl (by kernel_rfl) rfl rfl hC rfl (fun w hC => y_assign rfl) fun a hs => ?_
  refine h_done (by kernel_rfl) ?_
  exact ⟨S0, (hs.wk rfl), (hw.ft [] [] (by decide) rfl rfl)⟩
 ·rintro a w ⟨Sv23, hs, hw⟩
  refine then_normal ?_
  have hsh := Option.some.inj hsh
  subst hsh
  refine wp_ret ?_
  exact ret1 hs rfl (rv_tmp rfl) (hw.ret rfl)

end Go.Proofs.Ytdifjkamipeibaa.Wk

/- The walks of RecordExact, part 2: each Go function computes what its plain program computes. Printed by a program of ours. -/
import Derived.Test.YtdifjkamipeibaaProg
import Derived.Test.YtdifjkamipeibaaDat
import Derived.Test.YtdifjkamipeibaaSh
import Derived.Test.YtdifjkamipeibaaLibL
import Derived.KernelRfl
import Derived.Test.YtdifjkamipeibaaWRecordExact1
namespace Go.Proofs.Ytdifjkamipeibaa.Wk
open Go Go.RowKit Go.Proofs Go.Proofs.Ytdifjkamipeibaa.Sh
set_option linter.unusedVariables false
set_option linter.unusedSimpArgs false

abbrev made_Dice_Record_rd (w0 : World) (X : List Nat) (b2 : Nat) (r : (Record × Dice)) : (Nat → Prop) → World → Value → Prop := fun S w v => ∃ (p0_11 : Option Addr) (k0_11 : Nat) (c0_11 : List Value) (pq0_0 : Option Addr) (kq0_0 : Nat), v = .agg #[.string r.1.Source.Network, .string r.1.Source.Station, .string r.1.Source.Location, .string r.1.Source.Channel, .int .i64 r.1.Start, .int .i64 r.1.First, .int .i64 r.1.Rate.Num, .int .i64 r.1.Rate.Den, .int .i64 r.1.Error, .int .i64 r.1.Run, .int .i64 r.1.Seq, .slice p0_11 r.1.Samples.length k0_11] ∧ Outs X w0 S w [.row p0_11 r.1.Samples.length k0_11 c0_11 3 1, .box b2 [.slice pq0_0 r.2.L.length kq0_0, .int .i64 r.2.At] 60] ∧ (RowA c0_11 r.1.Samples).p S w ∧ (SlA pq0_0 r.2.L.length kq0_0 r.2.L).p S w
abbrev D10t1 (b2 : Nat) (b43 : Nat) (b8 : Nat) (b9 : Nat) (n7 : Int) : Slots := [(0, .pointer (some ⟨b2, 0, none⟩)), (2, .int .i64 n7), (4, .pointer (some ⟨b8, 0, none⟩)), (6, .pointer (some ⟨b9, 0, none⟩)), (7, .pointer (some ⟨b43, 0, none⟩))]
abbrev D10t2 (b2 : Nat) (b50 : Nat) (b57 : Nat) (b73 : Nat) (rv37 : (Rate × Int)) (rv45 : (Int × Dice)) (rv52 : (Int × Dice)) (rv59 : (Int × Dice)) (rv64 : (Int × Dice)) (rv69 : (Int × Dice)) (s6 : SourceID) : Vs := [(0, 21, .agg #[.string s6.Network, .string s6.Station, .string s6.Location, .string s6.Channel]), (1, 22, .pointer (some ⟨b2, 0, none⟩)), (2, 23, .int .i64 rv45.1), (3, 24, .int .i64 (w64 (250000 * rv45.1))), (4, 25, .int .i64 (w64 (1000000000000 + (w64 (250000 * rv45.1))))), (5, 26, .pointer (some ⟨b2, 0, none⟩)), (6, 27, .slice (some ⟨b50, 0, none⟩) ([0, 0, 3] : List Int).length ([0, 0, 3] : List Int).length), (7, 28, .int .i64 rv52.1), (8, 29, .agg #[.int .i64 rv37.1.Num, .int .i64 rv37.1.Den]), (9, 30, .pointer (some ⟨b2, 0, none⟩)), (10, 31, .slice (some ⟨b57, 0, none⟩) ([0, 0, 10, 500] : List Int).length ([0, 0, 10, 500] : List Int).length), (11, 32, .int .i64 rv59.1), (12, 33, .pointer (some ⟨b2, 0, none⟩)), (13, 34, .int .i64 rv64.1), (14, 35, .pointer (some ⟨b2, 0, none⟩)), (15, 36, .int .i64 rv69.1), (16, 37, .agg #[.string s6.Network, .string s6.Station, .string s6.Location, .string s6.Channel, .int .i64 (w64 (1000000000000 + (w64 (250000 * rv45.1)))), .int .i64 rv52.1, .int .i64 rv37.1.Num, .int .i64 rv37.1.Den, .int .i64 rv59.1, .int .i64 rv64.1, .int .i64 rv69.1, .slice none ([] : List Int).length 0]), (17, 9, .pointer (some ⟨b73, 0, none⟩))]
abbrev D10t3 : List Value := [.int .i64 0, .int .i64 0, .int .i64 3]
abbrev D10t4 : List Int := ([0, 0, 3] : List Int)
abbrev D10t5 : List Value := [.int .i64 0, .int .i64 0, .int .i64 10, .int .i64 500]
abbrev D10t6 : List Int := ([0, 0, 10, 500] : List Int)
set_option maxHeartbeats 4000000 in
set_option maxRecDepth 100000 in
theorem made_Dice_Record_ok {w0 : World} {S0 : Nat → Prop} {b2 : Nat} {p3 : Option Addr} {k4 : Nat} {d1 : Dice} {s6 : SourceID} {n7 : Int} {r : (Record × Dice)} (hsh : made_Dice_Record d1 s6 n7 = some r) (hS : ∀ b, S0 b → b < w0.heap.size) (hin : Ins S0 w0 [.box b2 [.slice p3 d1.L.length k4, .int .i64 d1.At] 60]) (h5 : (SlA p3 d1.L.length k4 d1.L).p S0 w0) : Calls Try.prog 10 #[.pointer (some ⟨b2, 0, none⟩), .agg #[.string s6.Network, .string s6.Station, .string s6.Location, .string s6.Channel], .int .i64 n7] w0 (Ret (blks [.box b2 [.slice p3 d1.L.length k4, .int .i64 d1.At] 60]) w0 S0 (made_Dice_Record_rd w0 (blks [.box b2 [.slice p3 d1.L.length k4, .int .i64 d1.At] 60]) b2 r)) := by
 refine calls_of_wp Try.func10 rfl ?_
 have hs := Sl.enter #[.pointer (some ⟨b2, 0, none⟩), .agg #[.string s6.Network, .string s6.Station, .string s6.Location, .string s6.Channel], .int .i64 n7] 54 [(0, .pointer (some ⟨b2, 0, none⟩)), (1, .agg #[.string s6.Network, .string s6.Station, .string s6.Location, .string s6.Channel]), (2, .int .i64 n7)] rfl ⟨rfl, rfl, rfl, trivial⟩
 have hw := Wd.enterI hS hin
 have hw := hw.addE h5
 delta made_Dice_Record at hsh
 refine wp_seq ?_
 refine wp_region_lit ?_
 refine w_box (cs := [.string s6.Network, .string s6.Station, .string s6.Location, .string s6.Channel]) hs hw rfl rfl rfl trivial ?_
 intro b8 a w hs hw
 refine w_alloc (cs := [.string ByteArray.empty, .string ByteArray.empty, .string ByteArray.empty, .string ByteArray.empty, .int .i64 0, .int .i64 0, .int .i64 0, .int .i64 0, .int .i64 0, .int .i64 0, .int .i64 0, .slice none ([] : List Int).length 0]) hs hw Try.zeroValue32 rfl rfl trivial ?_
 intro b9 a w hs hw
 refine wpList_nil ?_
 refine then_normal ?_
 refine wp_seq ?_
 refine wp_region_lit ?_
 refine st_val hs (y_move rfl) trivial rfl rfl fun a hs => ?_
 refine w_litSlice (α := Int) (vs := [.int .i64 1, .int .i64 2, .int .i64 2, .int .i64 3]) (cs := [.int .i64 1, .int .i64 2, .int .i64 2, .int .i64 3]) (xs := ([1, 2, 2, 3] : List Int)) hs hw El22 rfl rfl rfl rfl rfl rfl ⟨⟨_, rfl, rfl⟩, ⟨⟨_, rfl, rfl⟩, ⟨⟨_, rfl, rfl⟩, ⟨⟨_, rfl, rfl⟩, rfl⟩⟩⟩⟩ rfl trivial rfl fun b11 a w hs hw => ?_
 obtain ⟨rv13, h12, hsh⟩ := bind_t hsh
 obtain ⟨Sv17, hw⟩ := w_share (α := Int) hw 0 rfl 0 rfl
 refine st_callR hs (made_Dice_Pick_ok h12 hw.dom (hw.ins [2] (by decide) rfl) (hw.envAt 2 rfl) (hw.envAt 0 rfl)) (do_call Try.call36 rfl) trivial rfl rfl ?_
 intro v21 Sv18 w a h19 h20 hs
 obtain ⟨p14, k15, rfl, h22, h16⟩ := h20
 have hw := hw.callO [2] [0, 1] (by decide) rfl h19 h22
 have hw := hw.addE (e := SlA p14 rv13.2.L.length k15 rv13.2.L) h16
 refine st_val hs (y_move rfl) trivial rfl rfl fun a hs => ?_
 refine w_litSlice (α := Int) (vs := [.int .i64 1, .int .i64 1, .int .i64 1, .int .i64 3]) (cs := [.int .i64 1, .int .i64 1, .int .i64 1, .int .i64 3]) (xs := ([1, 1, 1, 3] : List Int)) hs hw El22 rfl rfl rfl rfl rfl rfl ⟨⟨_, rfl, rfl⟩, ⟨⟨_, rfl, rfl⟩, ⟨⟨_, rfl, rfl⟩, ⟨⟨_, rfl, rfl⟩, rfl⟩⟩⟩⟩ rfl trivial rfl fun b24 a w hs hw => ?_
 obtain ⟨rv26, h25, hsh⟩ := bind_t hsh
 obtain ⟨Sv30, hw⟩ := w_share (α := Int) hw 0 rfl 0 rfl
 refine st_callR hs (made_Dice_Pick_ok h25 hw.dom (hw.ins [0] (by decide) rfl) (hw.envAt 2 rfl) (hw.envAt 0 rfl)) (do_call Try.call36 rfl) trivial rfl rfl ?_
 intro v34 Sv31 w a h32 h33 hs
 obtain ⟨p27, k28, rfl, h35, h29⟩ := h33
 have hw := hw.callO [0] [1, 2] (by decide) rfl h32 h35
 have hw := hw.addE (e := SlA p27 rv26.2.L.length k28 rv26.2.L) h29
 obtain ⟨rv37, h36, hsh⟩ := bind_t hsh
 refine st_callR hs (ref02_New_ok h36 hw.bdom) (do_call Try.call35 rfl) trivial rfl rfl ?_
 intro v41 Sv38 w a h39 h40 hs
 subst h40
 have hw := hw.callB h39
 refine st_val hs (y_move rfl) trivial rfl rfl fun a hs => ?_
 refine st_val hs (y_extract rfl rfl) trivial rfl rfl fun a hs => ?_
 refine st_val hs (y_extract rfl rfl) trivial rfl rfl fun a hs => ?_
 refine w_alloc (cs := [.int .i64 0, .int .i64 0]) hs hw Try.zeroValue30 rfl rfl trivial ?_
 intro b43 a w hs hw
 refine w_store (m := 2) (cs' := [.int .i64 rv37.1.Num, .int .i64 rv37.1.Den]) hs hw 0 rfl rfl rfl Try.sizeOf30 rfl rfl rfl rfl trivial ?_
 intro a w hs hw
 refine st_val hs (y_assign rfl) trivial rfl rfl fun a hs => ?_
 refine wpList_nil ?_
 refine then_normal ?_
 refine wp_seq ?_
 obtain ⟨rv45, h44, hsh⟩ := bind_t hsh
 obtain ⟨rv52, h51, hsh⟩ := bind_t hsh
 obtain ⟨rv59, h58, hsh⟩ := bind_t hsh
 obtain ⟨rv64, h63, hsh⟩ := bind_t hsh
 obtain ⟨rv69, h68, hsh⟩ := bind_t hsh
 refine wp_only (fun a w => ∃ (Sv74 : Nat → Prop) (b73 : Nat) (k71 : Nat) (p70 : Option Addr), Sl 54 [(0, .pointer (some ⟨b2, 0, none⟩)), (2, .int .i64 n7), (6, .pointer (some ⟨b9, 0, none⟩)), (9, .pointer (some ⟨b73, 0, none⟩))] a ∧ Wd ⟨w0, S0, blks [.box b2 [.slice p3 d1.L.length k4, .int .i64 d1.At] 60]⟩ Sv74 [.box b2 [.slice p70 rv69.2.L.length k71, .int .i64 rv69.2.At] 60, .box b9 [.string ByteArray.empty, .string ByteArray.empty, .string ByteArray.empty, .string ByteArray.empty, .int .i64 0, .int .i64 0, .int .i64 0, .int .i64 0, .int .i64 0, .int .i64 0, .int .i64 0, .slice none ([] : List Int).length 0] 32, .box b73 [.string s6.Network, .string s6.Station, .string s6.Location, .string s6.Channel, .int .i64 (w64 (1000000000000 + (w64 (250000 * rv45.1)))), .int .i64 rv52.1, .int .i64 rv37.1.Num, .int .i64 rv37.1.Den, .int .i64 rv59.1, .int .i64 rv64.1, .int .i64 rv69.1, .slice none ([] : List Int).length 0] 32] [SlA p70 rv69.2.L.length k71 rv69.2.L, SlA none ([] : List Int).length 0 ([] : List Int)] w) ?_ ?_
 ·refine wp_region_phi (n := 19) (Φ := fun l a w => ∃ (b50 : Nat) (b57 : Nat) (b73 : Nat) (k47 : Nat) (k54 : Nat) (k61 : Nat) (k66 : Nat) (k71 : Nat) (p46 : Option Addr) (p53 : Option Addr) (p60 : Option Addr) (p65 : Option Addr) (p70 : Option Addr) (S : Nat → Prop), SlF 54 (D10t1 b2 b43 b8 b9 n7) (D10t2 b2 b50 b57 b73 rv37 rv45 rv52 rv59 rv64 rv69 s6) l a ∧ Wd ⟨w0, S0, blks [.box b2 [.slice p3 d1.L.length k4, .int .i64 d1.At] 60]⟩ S [.box b43 [.int .i64 rv37.1.Num, .int .i64 rv37.1.Den] 30, ((bif l 15 then .box b2 [.slice p70 rv69.2.L.length k71, .int .i64 rv69.2.At] 60 else (bif l 13 then .box b2 [.slice p65 rv64.2.L.length k66, .int .i64 rv64.2.At] 60 else (bif l 11 then .box b2 [.slice p60 rv59.2.L.length k61, .int .i64 rv59.2.At] 60 else (bif l 7 then .box b2 [.slice p53 rv52.2.L.length k54, .int .i64 rv52.2.At] 60 else (bif l 2 then .box b2 [.slice p46 rv45.2.L.length k47, .int .i64 rv45.2.At] 60 else .box b2 [.slice p27 rv26.2.L.length k28, .int .i64 rv26.2.At] 60))))) : Res), .box b9 [.string ByteArray.empty, .string ByteArray.empty, .string ByteArray.empty, .string ByteArray.empty, .int .i64 0, .int .i64 0, .int .i64 0, .int .i64 0, .int .i64 0, .int .i64 0, .int .i64 0, .slice none ([] : List Int).length 0] 32, .box b8 [.string s6.Network, .string s6.Station, .string s6.Location, .string s6.Channel] 28, ((bif l 7 then emp else (bif l 6 then .row (some ⟨b50, 0, none⟩) ([0, 0, 3] : List Int).length ([0, 0, 3] : List Int).length [.int .i64 0, .int .i64 0, .int .i64 3] 3 1 else emp)) : Res), ((bif l 11 then emp else (bif l 10 then .row (some ⟨b57, 0, none⟩) ([0, 0, 10, 500] : List Int).length ([0, 0, 10, 500] : List Int).length [.int .i64 0, .int .i64 0, .int .i64 10, .int .i64 500] 3 1 else emp)) : Res), ((bif l 18 then .box b73 [.string s6.Network, .string s6.Station, .string s6.Location, .string s6.Channel, .int .i64 (w64 (1000000000000 + (w64 (250000 * rv45.1)))), .int .i64 rv52.1, .int .i64 rv37.1.Num, .int .i64 rv37.1.Den, .int .i64 rv59.1, .int .i64 rv64.1, .int .i64 rv69.1, .slice none ([] : List Int).length 0] 32 else (bif l 17 then .box b73 [.string ByteArray.empty, .string ByteArray.empty, .string ByteArray.empty, .string ByteArray.empty, .int .i64 0, .int .i64 0, .int .i64 0, .int .i64 0, .int .i64 0, .int .i64 0, .int .i64 0, .slice none ([] : List Int).length 0] 32 else emp)) : Res)] [SlA p27 rv26.2.L.length k28 rv26.2.L, SlA (some ⟨b24, 0, none⟩) ([1, 1, 1, 3] : List Int).length ([1, 1, 1, 3] : List Int).length ([1, 1, 1, 3] : List Int), RowA [.int .i64 1, .int .i64 1, .int .i64 1, .int .i64 3] ([1, 1, 1, 3] : List Int), SlA p14 rv13.2.L.length k15 rv13.2.L, SlA (some ⟨b11, 0, none⟩) ([1, 2, 2, 3] : List Int).length ([1, 2, 2, 3] : List Int).length ([1, 2, 2, 3] : List Int), RowA [.int .i64 1, .int .i64 2, .int .i64 2, .int .i64 3] ([1, 2, 2, 3] : List Int), SlA p3 d1.L.length k4 d1.L, optA (l 2) (SlA p46 rv45.2.L.length k47 rv45.2.L), optA (l 6) (RowA [.int .i64 0, .int .i64 0, .int .i64 3] ([0, 0, 3] : List Int)), optA (l 7) (SlA (some ⟨b50, 0, none⟩) ([0, 0, 3] : List Int).length ([0, 0, 3] : List Int).length ([0, 0, 3] : List Int)), optA (l 7) (SlA p53 rv52.2.L.length k54 rv52.2.L), optA (l 10) (RowA [.int .i64 0, .int .i64 0, .int .i64 10, .int .i64 500] ([0, 0, 10, 500] : List Int)), optA (l 11) (SlA (some ⟨b57, 0, none⟩) ([0, 0, 10, 500] : List Int).length ([0, 0, 10, 500] : List Int).length ([0, 0, 10, 500] : List Int)), optA (l 11) (SlA p60 rv59.2.L.length k61 rv59.2.L), optA (l 13) (SlA p65 rv64.2.L.length k66 rv64.2.L), optA (l 15) (SlA p70 rv69.2.L.length k71 rv69.2.L)] w) [1, 1, 2, 3, 4, 1, 1, 3, 1, 1, 1, 4, 1, 5, 1, 6, 7, 1, 8] (by kernel_rfl) rfl (by kernel_rfl) ?_ (AllS.succ (AllS.succ (AllS.succ (AllS.succ (AllS.succ (AllS.succ (AllS.succ (AllS.succ (AllS.succ (AllS.succ (AllS.succ (AllS.succ (AllS.succ (AllS.succ (AllS.succ (AllS.succ (AllS.succ (AllS.succ (AllS.succ AllS.zero ?_) ?_) ?_) ?_) ?_) ?_) ?_) ?_) ?_) ?_) ?_) ?_) ?_) ?_) ?_) ?_) ?_) ?_) ?_) ?_
  ·obtain ⟨b50, b57, b73, k47, k54, k61, k66, k71, p46, p53, p60, p65, p70, _⟩ : ∃ (b50 : Nat) (b57 : Nat) (b73 : Nat) (k47 : Nat) (k54 : Nat) (k61 : Nat) (k66 : Nat) (k71 : Nat) (p46 : Option Addr) (p53 : Option Addr) (p60 : Option Addr) (p65 : Option Addr) (p70 : Option Addr), True := ⟨0, 0, 0, 0, 0, 0, 0, 0, none, none, none, none, none, trivial⟩
   have hw := hw.drew
   have hw := hw.emp
   have hw := hw.emp
   have hw := hw.emp
   have hw := hw.noE (SlA p70 rv69.2.L.length k71 rv69.2.L)
   have hw := hw.noE (SlA p65 rv64.2.L.length k66 rv64.2.L)
   have hw := hw.noE (SlA p60 rv59.2.L.length k61 rv59.2.L)
   have hw := hw.noE (SlA (some ⟨b57, 0, none⟩) ([0, 0, 10, 500] : List Int).length ([0, 0, 10, 500] : List Int).length ([0, 0, 10, 500] : List Int))
   have hw := hw.noE (RowA [.int .i64 0, .int .i64 0, .int .i64 10, .int .i64 500] ([0, 0, 10, 500] : List Int))
   have hw := hw.noE (SlA p53 rv52.2.L.length k54 rv52.2.L)
   have hw := hw.noE (SlA (some ⟨b50, 0, none⟩) ([0, 0, 3] : List Int).length ([0, 0, 3] : List Int).length ([0, 0, 3] : List Int))
   have hw := hw.noE (RowA [.int .i64 0, .int .i64 0, .int .i64 3] ([0, 0, 3] : List Int))
   have hw := hw.noE (SlA p46 rv45.2.L.length k47 rv45.2.L)
   exact ⟨b50, b57, b73, k47, k54, k61, k66, k71, p46, p53, p60, p65, p70, Sv31, SlF.init (hs.wk rfl) (by kernel_rfl), hw.ft [3, 4, 5, 6, 0, 1, 2] [9, 10, 11, 12, 13, 14, 15, 0, 1, 2, 3, 4, 5, 6, 7, 8] (by decide) rfl rfl⟩
  ·intro l hi hp hc a w ⟨b50, b57, b73, k47, k54, k61, k66, k71, p46, p53, p60, p65, p70, S, hS, hw⟩
   refine S_val hS (.b (t := 4) rfl .nil) rfl rfl trivial (y_loadBA (hw.ownAt 3 rfl) rfl Try.isAgg28 Try.sizeOf28 rfl rfl) (rfl) 0 rfl fun a hS => ⟨b50, b57, b73, k47, k54, k61, k66, k71, p46, p53, p60, p65, p70, S, hS, hw⟩
  ·intro l hi hp hc a w ⟨b50, b57, b73, k47, k54, k61, k66, k71, p46, p53, p60, p65, p70, S, hS, hw⟩
   refine S_val hS (.b (t := 0) rfl .nil) rfl rfl trivial (y_move rfl) (rfl) 1 rfl fun a hS => ⟨b50, b57, b73, k47, k54, k61, k66, k71, p46, p53, p60, p65, p70, S, hS, hw⟩
  ·intro l hi hp hc a w ⟨b50, b57, b73, k47, k54, k61, k66, k71, p46, p53, p60, p65, p70, S, hS, hw⟩
   have h_7 := l_neg hc 7 hi rfl
   have h_11 := l_neg hc 11 h_7 rfl
   have h_13 := l_neg hc 13 h_11 rfl
   have h_15 := l_neg hc 15 h_13 rfl
   have hw := hw.fixR 1 (r' := .box b2 [.slice p27 rv26.2.L.length k28, .int .i64 rv26.2.At] 60) rfl ((bF h_15).trans ((bF h_13).trans ((bF h_11).trans ((bF h_7).trans ((bF hi))))))
   have h_1 := hp 1 rfl
   refine S_eff rfl ?_
   have hs := hS.open_ (.v (t := 22) 1 rfl h_1 .nil)
   refine st_callR hs (made_Dice_Next_ok h44 hw.dom (hw.ins [1] (by decide) rfl) (hw.envAt 0 rfl)) (do_call Try.call16 rfl) trivial rfl rfl ?_
   intro v110 Sv107 w a h108 h109 hs
   obtain ⟨p46, k47, rfl, h111, h48⟩ := h109
   have hw := hw.callO [1] [0, 2, 3, 4, 5, 6] (by decide) rfl h108 h111
   have hw := hw.addE (e := SlA p46 rv45.2.L.length k47 rv45.2.L) h48
   have hw := hw.fixR 0 (r' := (bif l 15 then .box b2 [.slice p70 rv69.2.L.length k71, .int .i64 rv69.2.At] 60 else (bif l 13 then .box b2 [.slice p65 rv64.2.L.length k66, .int .i64 rv64.2.At] 60 else (bif l 11 then .box b2 [.slice p60 rv59.2.L.length k61, .int .i64 rv59.2.At] 60 else (bif l 7 then .box b2 [.slice p53 rv52.2.L.length k54, .int .i64 rv52.2.At] 60 else .box b2 [.slice p46 rv45.2.L.length k47, .int .i64 rv45.2.At] 60))))) rfl ((bF h_15).trans ((bF h_13).trans ((bF h_11).trans ((bF h_7))))).symm
   have hw := hw.opt 0 rfl true
   refine wpList_nil ?_
   refine then_normal ?_
   exact ⟨b50, b57, b73, k47, k54, k61, k66, k71, p46, p53, p60, p65, p70, Sv107, hS.close (.v (t := 22) 1 rfl h_1 .nil) hs rfl (.same (.same (.here (.same (.same (.same (.same (.same (.same (.same (.same (.same (.same (.same (.same (.same (.same (.same .nil)))))))))))))))))) 2 rfl, hw.ft [1, 0, 2, 3, 4, 5, 6] [2, 3, 4, 5, 6, 7, 8, 0, 10, 11, 12, 13, 14, 15, 16, 17] (by decide) rfl rfl⟩
  ·intro l hi hp hc a w ⟨b50, b57, b73, k47, k54, k61, k66, k71, p46, p53, p60, p65, p70, S, hS, hw⟩
   have h_2 := hp 2 rfl
   refine S_val hS (.v (t := 23) 2 rfl h_2 .nil) rfl rfl trivial (y_mul rfl rfl) (rfl) 3 rfl fun a hS => ⟨b50, b57, b73, k47, k54, k61, k66, k71, p46, p53, p60, p65, p70, S, hS, hw⟩
  ·intro l hi hp hc a w ⟨b50, b57, b73, k47, k54, k61, k66, k71, p46, p53, p60, p65, p70, S, hS, hw⟩
   have h_3 := hp 3 rfl
   refine S_val hS (.v (t := 24) 3 rfl h_3 .nil) rfl rfl trivial (y_add rfl rfl) (rfl) 4 rfl fun a hS => ⟨b50, b57, b73, k47, k54, k61, k66, k71, p46, p53, p60, p65, p70, S, hS, hw⟩
  ·intro l hi hp hc a w ⟨b50, b57, b73, k47, k54, k61, k66, k71, p46, p53, p60, p65, p70, S, hS, hw⟩
   refine S_val hS (.b (t := 0) rfl .nil) rfl rfl trivial (y_move rfl) (rfl) 5 rfl fun a hS => ⟨b50, b57, b73, k47, k54, k61, k66, k71, p46, p53, p60, p65, p70, S, hS, hw⟩
  ·intro l hi hp hc a w ⟨b50, b57, b73, k47, k54, k61, k66, k71, p46, p53, p60, p65, p70, S, hS, hw⟩
   refine S_eff rfl ?_
   have hs := hS.open_ .nil
   refine w_litSlice (α := Int) (vs := D10t3) (cs := D10t3) (xs := D10t4) hs hw El22 rfl rfl rfl rfl rfl rfl ⟨⟨_, rfl, rfl⟩, ⟨⟨_, rfl, rfl⟩, ⟨⟨_, rfl, rfl⟩, rfl⟩⟩⟩ rfl trivial rfl fun b50 a w hs hw => ?_
   have h_7 := l_neg hc 7 hi rfl
   have hw := hw.fixR 0 (r' := (bif l 7 then emp else .row (some ⟨b50, 0, none⟩) ([0, 0, 3] : List Int).length ([0, 0, 3] : List Int).length [.int .i64 0, .int .i64 0, .int .i64 3] 3 1)) rfl ((bF h_7)).symm
   have hw := hw.opt 0 rfl true
   have hw := hw.noL h_7 (SlA (some ⟨b50, 0, none⟩) ([0, 0, 3] : List Int).length ([0, 0, 3] : List Int).length ([0, 0, 3] : List Int))
   refine wpList_nil ?_
   refine then_normal ?_
   exact ⟨b50, b57, b73, k47, k54, k61, k66, k71, p46, p53, p60, p65, p70, S, hS.close .nil hs rfl (.same (.same (.same (.same (.same (.same (.here (.same (.same (.same (.same (.same (.same (.same (.same (.same (.same (.same .nil)))))))))))))))))) 6 rfl, hw.ft [1, 2, 3, 4, 0, 6, 7] [3, 4, 5, 6, 7, 8, 9, 10, 1, 0, 13, 14, 15, 16, 17, 18] (by decide) rfl rfl⟩
  ·intro l hi hp hc a w ⟨b50, b57, b73, k47, k54, k61, k66, k71, p46, p53, p60, p65, p70, S, hS, hw⟩
   have h_11 := l_neg hc 11 hi rfl
   have h_13 := l_neg hc 13 h_11 rfl
   have h_15 := l_neg hc 15 h_13 rfl
   have h_2 := hp 2 rfl
   have hw := hw.fixR 1 (r' := .box b2 [.slice p46 rv45.2.L.length k47, .int .i64 rv45.2.At] 60) rfl ((bF h_15).trans ((bF h_13).trans ((bF h_11).trans ((bF hi).trans ((bT h_2))))))
   have h_6 := hp 6 rfl
   have hw := hw.fixR 4 (r' := .row (some ⟨b50, 0, none⟩) ([0, 0, 3] : List Int).length ([0, 0, 3] : List Int).length [.int .i64 0, .int .i64 0, .int .i64 3] 3 1) rfl ((bF hi).trans ((bT h_6)))
   have hw := hw.yes 7 rfl h_2
   have hw := hw.yes 9 rfl h_6
   have h_5 := hp 5 rfl
   refine S_eff rfl ?_
   have hs := hS.open_ (.v (t := 26) 5 rfl h_5 (.v (t := 27) 6 rfl h_6 .nil))
   obtain ⟨Sv118, hw⟩ := w_share (α := Int) hw 4 rfl 0 rfl
   refine st_callR hs (made_Dice_Pick_ok h51 hw.dom (hw.ins [1] (by decide) rfl) (hw.envAt 2 rfl) (hw.envAt 0 rfl)) (do_call Try.call36 rfl) trivial rfl rfl ?_
   intro v122 Sv119 w a h120 h121 hs
   obtain ⟨p53, k54, rfl, h123, h55⟩ := h121
   have hw := hw.callO [1] [0, 2, 3, 4, 5] (by decide) rfl h120 h123
   have hw := hw.addE (e := SlA p53 rv52.2.L.length k54 rv52.2.L) h55
   have hw := hw.fixR 0 (r' := (bif l 15 then .box b2 [.slice p70 rv69.2.L.length k71, .int .i64 rv69.2.At] 60 else (bif l 13 then .box b2 [.slice p65 rv64.2.L.length k66, .int .i64 rv64.2.At] 60 else (bif l 11 then .box b2 [.slice p60 rv59.2.L.length k61, .int .i64 rv59.2.At] 60 else .box b2 [.slice p53 rv52.2.L.length k54, .int .i64 rv52.2.At] 60)))) rfl ((bF h_15).trans ((bF h_13).trans ((bF h_11)))).symm
   have hw := hw.emp
   have hw := hw.opt 1 rfl true
   have hw := hw.opt 1 rfl true
   refine wpList_nil ?_
   refine then_normal ?_
   exact ⟨b50, b57, b73, k47, k54, k61, k66, k71, p46, p53, p60, p65, p70, Sv119, hS.close (.v (t := 26) 5 rfl h_5 (.v (t := 27) 6 rfl h_6 .nil)) hs rfl (.same (.same (.same (.same (.same (.same (.same (.here (.same (.same (.same (.same (.same (.same (.same (.same (.same (.same .nil)))))))))))))))))) 7 rfl, hw.ft [2, 1, 3, 4, 0, 5, 6] [6, 7, 8, 9, 10, 11, 12, 13, 14, 1, 0, 17, 18, 19, 20, 21] (by decide) rfl rfl⟩
  ·intro l hi hp hc a w ⟨b50, b57, b73, k47, k54, k61, k66, k71, p46, p53, p60, p65, p70, S, hS, hw⟩
   refine S_val hS (.b (t := 7) rfl .nil) rfl rfl trivial (y_loadBA (hw.ownAt 0 rfl) rfl Try.isAgg30 Try.sizeOf30 rfl rfl) (rfl) 8 rfl fun a hS => ⟨b50, b57, b73, k47, k54, k61, k66, k71, p46, p53, p60, p65, p70, S, hS, hw⟩
  ·intro l hi hp hc a w ⟨b50, b57, b73, k47, k54, k61, k66, k71, p46, p53, p60, p65, p70, S, hS, hw⟩
   refine S_val hS (.b (t := 0) rfl .nil) rfl rfl trivial (y_move rfl) (rfl) 9 rfl fun a hS => ⟨b50, b57, b73, k47, k54, k61, k66, k71, p46, p53, p60, p65, p70, S, hS, hw⟩
  ·intro l hi hp hc a w ⟨b50, b57, b73, k47, k54, k61, k66, k71, p46, p53, p60, p65, p70, S, hS, hw⟩
   refine S_eff rfl ?_
   have hs := hS.open_ .nil
   refine w_litSlice (α := Int) (vs := D10t5) (cs := D10t5) (xs := D10t6) hs hw El22 rfl rfl rfl rfl rfl rfl ⟨⟨_, rfl, rfl⟩, ⟨⟨_, rfl, rfl⟩, ⟨⟨_, rfl, rfl⟩, ⟨⟨_, rfl, rfl⟩, rfl⟩⟩⟩⟩ rfl trivial rfl fun b57 a w hs hw => ?_
   have h_11 := l_neg hc 11 hi rfl
   have hw := hw.fixR 0 (r' := (bif l 11 then emp else .row (some ⟨b57, 0, none⟩) ([0, 0, 10, 500] : List Int).length ([0, 0, 10, 500] : List Int).length [.int .i64 0, .int .i64 0, .int .i64 10, .int .i64 500] 3 1)) rfl ((bF h_11)).symm
   have hw := hw.opt 0 rfl true
   have hw := hw.noL h_11 (SlA (some ⟨b57, 0, none⟩) ([0, 0, 10, 500] : List Int).length ([0, 0, 10, 500] : List Int).length ([0, 0, 10, 500] : List Int))
   refine wpList_nil ?_
   refine then_normal ?_
   exact ⟨b50, b57, b73, k47, k54, k61, k66, k71, p46, p53, p60, p65, p70, S, hS.close .nil hs rfl (.same (.same (.same (.same (.same (.same (.same (.same (.same (.same (.here (.same (.same (.same (.same (.same (.same (.same .nil)))))))))))))))))) 10 rfl, hw.ft [1, 2, 3, 4, 5, 0, 7] [3, 4, 5, 6, 7, 8, 9, 10, 11, 12, 13, 1, 0, 16, 17, 18] (by decide) rfl rfl⟩
  ·intro l hi hp hc a w ⟨b50, b57, b73, k47, k54, k61, k66, k71, p46, p53, p60, p65, p70, S, hS, hw⟩
   have h_13 := l_neg hc 13 hi rfl
   have h_15 := l_neg hc 15 h_13 rfl
   have h_7 := hp 7 rfl
   have hw := hw.fixR 1 (r' := .box b2 [.slice p53 rv52.2.L.length k54, .int .i64 rv52.2.At] 60) rfl ((bF h_15).trans ((bF h_13).trans ((bF hi).trans ((bT h_7)))))
   have h_10 := hp 10 rfl
   have hw := hw.fixR 5 (r' := .row (some ⟨b57, 0, none⟩) ([0, 0, 10, 500] : List Int).length ([0, 0, 10, 500] : List Int).length [.int .i64 0, .int .i64 0, .int .i64 10, .int .i64 500] 3 1) rfl ((bF hi).trans ((bT h_10)))
   have hw := hw.yes 10 rfl h_7
   have hw := hw.yes 12 rfl h_10
   have h_9 := hp 9 rfl
   refine S_eff rfl ?_
   have hs := hS.open_ (.v (t := 30) 9 rfl h_9 (.v (t := 31) 10 rfl h_10 .nil))
   obtain ⟨Sv130, hw⟩ := w_share (α := Int) hw 5 rfl 0 rfl
   refine st_callR hs (made_Dice_Pick_ok h58 hw.dom (hw.ins [1] (by decide) rfl) (hw.envAt 2 rfl) (hw.envAt 0 rfl)) (do_call Try.call36 rfl) trivial rfl rfl ?_
   intro v134 Sv131 w a h132 h133 hs
   obtain ⟨p60, k61, rfl, h135, h62⟩ := h133
   have hw := hw.callO [1] [0, 2, 3, 4, 5] (by decide) rfl h132 h135
   have hw := hw.addE (e := SlA p60 rv59.2.L.length k61 rv59.2.L) h62
   have hw := hw.fixR 0 (r' := (bif l 15 then .box b2 [.slice p70 rv69.2.L.length k71, .int .i64 rv69.2.At] 60 else (bif l 13 then .box b2 [.slice p65 rv64.2.L.length k66, .int .i64 rv64.2.At] 60 else .box b2 [.slice p60 rv59.2.L.length k61, .int .i64 rv59.2.At] 60))) rfl ((bF h_15).trans ((bF h_13))).symm
   have hw := hw.emp
   have hw := hw.opt 1 rfl true
   have hw := hw.opt 1 rfl true
   refine wpList_nil ?_
   refine then_normal ?_
   exact ⟨b50, b57, b73, k47, k54, k61, k66, k71, p46, p53, p60, p65, p70, Sv131, hS.close (.v (t := 30) 9 rfl h_9 (.v (t := 31) 10 rfl h_10 .nil)) hs rfl (.same (.same (.same (.same (.same (.same (.same (.same (.same (.same (.same (.here (.same (.same (.same (.same (.same (.same .nil)))))))))))))))))) 11 rfl, hw.ft [2, 1, 3, 4, 5, 0, 6] [6, 7, 8, 9, 10, 11, 12, 13, 14, 15, 16, 17, 1, 0, 20, 21] (by decide) rfl rfl⟩
  ·intro l hi hp hc a w ⟨b50, b57, b73, k47, k54, k61, k66, k71, p46, p53, p60, p65, p70, S, hS, hw⟩
   refine S_val hS (.b (t := 0) rfl .nil) rfl rfl trivial (y_move rfl) (rfl) 12 rfl fun a hS => ⟨b50, b57, b73, k47, k54, k61, k66, k71, p46, p53, p60, p65, p70, S, hS, hw⟩
  ·intro l hi hp hc a w ⟨b50, b57, b73, k47, k54, k61, k66, k71, p46, p53, p60, p65, p70, S, hS, hw⟩
   have h_15 := l_neg hc 15 hi rfl
   have h_11 := hp 11 rfl
   have hw := hw.fixR 1 (r' := .box b2 [.slice p60 rv59.2.L.length k61, .int .i64 rv59.2.At] 60) rfl ((bF h_15).trans ((bF hi).trans ((bT h_11))))
   have hw := hw.yes 13 rfl h_11
   have h_12 := hp 12 rfl
   refine S_eff rfl ?_
   have hs := hS.open_ (.v (t := 33) 12 rfl h_12 .nil)
   refine st_callR hs (made_Dice_Next_ok h63 hw.dom (hw.ins [1] (by decide) rfl) (hw.envAt 0 rfl)) (do_call Try.call16 rfl) trivial rfl rfl ?_
   intro v144 Sv141 w a h142 h143 hs
   obtain ⟨p65, k66, rfl, h145, h67⟩ := h143
   have hw := hw.callO [1] [0, 2, 3, 4, 5, 6] (by decide) rfl h142 h145
   have hw := hw.addE (e := SlA p65 rv64.2.L.length k66 rv64.2.L) h67
   have hw := hw.fixR 0 (r' := (bif l 15 then .box b2 [.slice p70 rv69.2.L.length k71, .int .i64 rv69.2.At] 60 else .box b2 [.slice p65 rv64.2.L.length k66, .int .i64 rv64.2.At] 60)) rfl ((bF h_15)).symm
   have hw := hw.opt 0 rfl true
   refine wpList_nil ?_
   refine then_normal ?_
   exact ⟨b50, b57, b73, k47, k54, k61, k66, k71, p46, p53, p60, p65, p70, Sv141, hS.close (.v (t := 33) 12 rfl h_12 .nil) hs rfl (.same (.same (.same (.same (.same (.same (.same (.same (.same (.same (.same (.same (.same (.here (.same (.same (.same (.same .nil)))))))))))))))))) 13 rfl, hw.ft [1, 0, 2, 3, 4, 5, 6] [3, 4, 5, 6, 7, 8, 9, 10, 11, 12, 13, 14, 15, 16, 0, 18] (by decide) rfl rfl⟩
  ·intro l hi hp hc a w ⟨b50, b57, b73, k47, k54, k61, k66, k71, p46, p53, p60, p65, p70, S, hS, hw⟩
   refine S_val hS (.b (t := 0) rfl .nil) rfl rfl trivial (y_move rfl) (rfl) 14 rfl fun a hS => ⟨b50, b57, b73, k47, k54, k61, k66, k71, p46, p53, p60, p65, p70, S, hS, hw⟩
  ·intro l hi hp hc a w ⟨b50, b57, b73, k47, k54, k61, k66, k71, p46, p53, p60, p65, p70, S, hS, hw⟩
   have h_13 := hp 13 rfl
   have hw := hw.fixR 1 (r' := .box b2 [.slice p65 rv64.2.L.length k66, .int .i64 rv64.2.At] 60) rfl ((bF hi).trans ((bT h_13)))
   have hw := hw.yes 14 rfl h_13
   have h_14 := hp 14 rfl
   refine S_eff rfl ?_
   have hs := hS.open_ (.v (t := 35) 14 rfl h_14 .nil)
   refine st_callR hs (made_Dice_Next_ok h68 hw.dom (hw.ins [1] (by decide) rfl) (hw.envAt 0 rfl)) (do_call Try.call16 rfl) trivial rfl rfl ?_
   intro v154 Sv151 w a h152 h153 hs
   obtain ⟨p70, k71, rfl, h155, h72⟩ := h153
   have hw := hw.callO [1] [0, 2, 3, 4, 5, 6] (by decide) rfl h152 h155
   have hw := hw.addE (e := SlA p70 rv69.2.L.length k71 rv69.2.L) h72
   have hw := hw.opt 0 rfl true
   refine wpList_nil ?_
   refine then_normal ?_
   exact ⟨b50, b57, b73, k47, k54, k61, k66, k71, p46, p53, p60, p65, p70, Sv151, hS.close (.v (t := 35) 14 rfl h_14 .nil) hs rfl (.same (.same (.same (.same (.same (.same (.same (.same (.same (.same (.same (.same (.same (.same (.same (.here (.same (.same .nil)))))))))))))))))) 15 rfl, hw.ft [1, 0, 2, 3, 4, 5, 6] [3, 4, 5, 6, 7, 8, 9, 10, 11, 12, 13, 14, 15, 16, 17, 0] (by decide) rfl rfl⟩
  ·intro l hi hp hc a w ⟨b50, b57, b73, k47, k54, k61, k66, k71, p46, p53, p60, p65, p70, S, hS, hw⟩
   have h_15 := hp 15 rfl
   have h_13 := hp 13 rfl
   have h_11 := hp 11 rfl
   have h_8 := hp 8 rfl
   have h_7 := hp 7 rfl
   have h_4 := hp 4 rfl
   have h_0 := hp 0 rfl
   refine S_val hS (.v (t := 21) 0 rfl h_0 (.v (t := 25) 4 rfl h_4 (.v (t := 28) 7 rfl h_7 (.v (t := 29) 8 rfl h_8 (.v (t := 32) 11 rfl h_11 (.v (t := 34) 13 rfl h_13 (.v (t := 36) 15 rfl h_15 .nil))))))) rfl rfl trivial (y_build (vs := [(0, .agg #[.string s6.Network, .string s6.Station, .string s6.Location, .string s6.Channel]), (1, .int .i64 (w64 (1000000000000 + (w64 (250000 * rv45.1))))), (2, .int .i64 rv52.1), (3, .agg #[.int .i64 rv37.1.Num, .int .i64 rv37.1.Den]), (4, .int .i64 rv59.1), (5, .int .i64 rv64.1), (6, .int .i64 rv69.1)]) Bld32 rfl rfl) (rfl) 16 rfl fun a hS => ⟨b50, b57, b73, k47, k54, k61, k66, k71, p46, p53, p60, p65, p70, S, hS, hw⟩
  ·intro l hi hp hc a w ⟨b50, b57, b73, k47, k54, k61, k66, k71, p46, p53, p60, p65, p70, S, hS, hw⟩
   refine S_eff rfl ?_
   have hs := hS.open_ .nil
   refine w_alloc (cs := [.string ByteArray.empty, .string ByteArray.empty, .string ByteArray.empty, .string ByteArray.empty, .int .i64 0, .int .i64 0, .int .i64 0, .int .i64 0, .int .i64 0, .int .i64 0, .int .i64 0, .slice none ([] : List Int).length 0]) hs hw Try.zeroValue32 rfl rfl trivial ?_
   intro b73 a w hs hw
   have h_18 := l_neg hc 18 hi rfl
   have hw := hw.fixR 0 (r' := (bif l 18 then .box b73 [.string s6.Network, .string s6.Station, .string s6.Location, .string s6.Channel, .int .i64 (w64 (1000000000000 + (w64 (250000 * rv45.1)))), .int .i64 rv52.1, .int .i64 rv37.1.Num, .int .i64 rv37.1.Den, .int .i64 rv59.1, .int .i64 rv64.1, .int .i64 rv69.1, .slice none ([] : List Int).length 0] 32 else .box b73 [.string ByteArray.empty, .string ByteArray.empty, .string ByteArray.empty, .string ByteArray.empty, .int .i64 0, .int .i64 0, .int .i64 0, .int .i64 0, .int .i64 0, .int .i64 0, .int .i64 0, .slice none ([] : List Int).length 0] 32)) rfl ((bF h_18)).symm
   refine wpList_nil ?_
   refine then_normal ?_
   exact ⟨b50, b57, b73, k47, k54, k61, k66, k71, p46, p53, p60, p65, p70, S, hS.close .nil hs rfl (.same (.same (.same (.same (.same (.same (.same (.same (.same (.same (.same (.same (.same (.same (.same (.same (.same (.here .nil)))))))))))))))))) 17 rfl, hw.ft [1, 2, 3, 4, 5, 6, 0] [0, 1, 2, 3, 4, 5, 6, 7, 8, 9, 10, 11, 12, 13, 14, 15] (by decide) rfl rfl⟩
  ·intro l hi hp hc a w ⟨b50, b57, b73, k47, k54, k61, k66, k71, p46, p53, p60, p65, p70, S, hS, hw⟩
   have h_17 := hp 17 rfl
   have hw := hw.fixR 6 (r' := .box b73 [.string ByteArray.empty, .string ByteArray.empty, .string ByteArray.empty, .string ByteArray.empty, .int .i64 0, .int .i64 0, .int .i64 0, .int .i64 0, .int .i64 0, .int .i64 0, .int .i64 0, .slice none ([] : List Int).length 0] 32) rfl ((bF hi).trans ((bT h_17)))
   have h_16 := hp 16 rfl
   refine S_eff rfl ?_
   have hs := hS.open_ (.v (t := 9) 17 rfl h_17 (.v (t := 37) 16 rfl h_16 .nil))
   refine w_store (m := 12) (cs' := [.string s6.Network, .string s6.Station, .string s6.Location, .string s6.Channel, .int .i64 (w64 (1000000000000 + (w64 (250000 * rv45.1)))), .int .i64 rv52.1, .int .i64 rv37.1.Num, .int .i64 rv37.1.Den, .int .i64 rv59.1, .int .i64 rv64.1, .int .i64 rv69.1, .slice none ([] : List Int).length 0]) hs hw 6 rfl rfl rfl Try.sizeOf32 rfl rfl rfl rfl trivial ?_
   intro a w hs hw
   refine wpList_nil ?_
   refine then_normal ?_
   exact ⟨b50, b57, b73, k47, k54, k61, k66, k71, p46, p53, p60, p65, p70, S, hS.close0 (.v (t := 9) 17 rfl h_17 (.v (t := 37) 16 rfl h_16 .nil)) hs rfl, hw.ft [0, 1, 2, 3, 4, 5, 6] [0, 1, 2, 3, 4, 5, 6, 7, 8, 9, 10, 11, 12, 13, 14, 15] (by decide) rfl rfl⟩
  ·intro l a w hl ⟨b50, b57, b73, k47, k54, k61, k66, k71, p46, p53, p60, p65, p70, S, hS, hw⟩
   have hw := hw.yes 15 rfl (hl 15 (by decide))
   have hw := hw.fixR 1 (r' := .box b2 [.slice p70 rv69.2.L.length k71, .int .i64 rv69.2.At] 60) rfl (bT (hl 15 (by decide)))
   have hw := hw.fixR 6 (r' := .box b73 [.string s6.Network, .string s6.Station, .string s6.Location, .string s6.Channel, .int .i64 (w64 (1000000000000 + (w64 (250000 * rv45.1)))), .int .i64 rv52.1, .int .i64 rv37.1.Num, .int .i64 rv37.1.Den, .int .i64 rv59.1, .int .i64 rv64.1, .int .i64 rv69.1, .slice none ([] : List Int).length 0] 32) rfl (bT (hl 18 (by decide)))
   have hs := hS.on (.b (t := 0) rfl (.b (t := 2) rfl (.b (t := 6) rfl (.v (t := 9) 17 rfl (hl 17 (by decide)) .nil))))
   have hw := hw.addE (e := SlA (α := Int) none 0 0 []) nil_sl
   exact ⟨S, b73, k71, p70, (hs.wk rfl), (hw.ft [1, 2, 6] [1, 0] (by decide) rfl rfl)⟩
 ·rintro a w ⟨Sv74, b73, k71, p70, hs, hw⟩
  refine then_normal ?_
  refine wp_seq ?_
  refine wp_seq ?_
  refine wp_region_lit ?_
  refine st_val hs (y_move rfl) trivial rfl rfl fun a hs => ?_
  refine st_val hs (y_move rfl) trivial rfl rfl fun a hs => ?_
  obtain ⟨rv157, h156, hsh⟩ := bind_t hsh
  refine st_callR hs (made_Dice_Next_ok h156 hw.dom (hw.ins [0] (by decide) rfl) (hw.envAt 0 rfl)) (do_call Try.call16 rfl) trivial rfl rfl ?_
  intro v164 Sv161 w a h162 h163 hs
  obtain ⟨p158, k159, rfl, h165, h160⟩ := h163
  have hw := hw.callO [0] [1, 2] (by decide) rfl h162 h165
  have hw := hw.addE (e := SlA p158 rv157.2.L.length k159 rv157.2.L) h160
  refine st_val hs (y_add rfl rfl) trivial rfl rfl fun a hs => ?_
  obtain ⟨i167, h166, hsh⟩ := bind_t hsh
  refine st_val hs (y_assignI rfl h166) trivial rfl rfl fun a hs => ?_
  refine wpList_nil ?_
  refine then_normal ?_
  obtain ⟨e232, h280, hsh⟩ := bind_t hsh
  refine wp_join (fun a w => ∃ (p233 : Option Addr) (k234 : Nat) (c235 : List Value) (p236 : Option Addr) (k237 : Nat) (Sv238 : Nat → Prop), Sl 54 [(6, .pointer (some ⟨b9, 0, none⟩)), (9, .pointer (some ⟨b73, 0, none⟩))] a ∧ Wd ⟨w0, S0, blks [.box b2 [.slice p3 d1.L.length k4, .int .i64 d1.At] 60]⟩ Sv238 [.box b2 [.slice p233 e232.1.length k234, .int .i64 e232.2.1] 60, .box b9 [.string ByteArray.empty, .string ByteArray.empty, .string ByteArray.empty, .string ByteArray.empty, .int .i64 0, .int .i64 0, .int .i64 0, .int .i64 0, .int .i64 0, .int .i64 0, .int .i64 0, .slice none ([] : List Int).length 0] 32, .box b73 [.string s6.Network, .string s6.Station, .string s6.Location, .string s6.Channel, .int .i64 (w64 (1000000000000 + (w64 (250000 * rv45.1)))), .int .i64 rv52.1, .int .i64 rv37.1.Num, .int .i64 rv37.1.Den, .int .i64 rv59.1, .int .i64 rv64.1, .int .i64 rv69.1, .slice p236 e232.2.2.length k237] 32, .row p236 e232.2.2.length k237 c235 3 1] [SlA p233 e232.1.length k234 e232.1, SlA none ([] : List Int).length 0 ([] : List Int), RowA c235 e232.2.2] w) ?_ ?_
  ·refine wp_block ?_
   have hw := hw.nilRow Int 3
   refine wp_while (fun sv168 a w => ∃ (p207 : Option Addr) (k208 : Nat) (c209 : List Value) (p210 : Option Addr) (k211 : Nat) (Sv212 : Nat → Prop), Sl 54 [(0, .pointer (some ⟨b2, 0, none⟩)), (6, .pointer (some ⟨b9, 0, none⟩)), (9, .pointer (some ⟨b73, 0, none⟩)), (10, .int .i64 sv168.2.2.2)] a ∧ Wd ⟨w0, S0, blks [.box b2 [.slice p3 d1.L.length k4, .int .i64 d1.At] 60]⟩ Sv212 [.box b2 [.slice p207 sv168.1.length k208, .int .i64 sv168.2.1] 60, .box b9 [.string ByteArray.empty, .string ByteArray.empty, .string ByteArray.empty, .string ByteArray.empty, .int .i64 0, .int .i64 0, .int .i64 0, .int .i64 0, .int .i64 0, .int .i64 0, .int .i64 0, .slice none ([] : List Int).length 0] 32, .box b73 [.string s6.Network, .string s6.Station, .string s6.Location, .string s6.Channel, .int .i64 (w64 (1000000000000 + (w64 (250000 * rv45.1)))), .int .i64 rv52.1, .int .i64 rv37.1.Num, .int .i64 rv37.1.Den, .int .i64 rv59.1, .int .i64 rv64.1, .int .i64 rv69.1, .slice p210 sv168.2.2.1.length k211] 32, .row p210 sv168.2.2.1.length k211 c209 3 1] [SlA p207 sv168.1.length k208 sv168.1, SlA none ([] : List Int).length 0 ([] : List Int), RowA c209 sv168.2.2.1] w) (rv157.2.L, rv157.2.At, ([] : List Int), i167) h280 ⟨p158, k159, [], none, 0, Sv161, (hs.wk rfl), (hw.ft [1, 2, 3, 0] [1, 3, 0] (by decide) rfl rfl)⟩ ?_
   clear h280
   repeat clear hsh
   rintro sv168 a w tv230 ⟨p207, k208, c209, p210, k211, Sv212, hs, hw⟩ hsh hd229
   delta made_Dice_Record_l1 at hsh
   refine wp_seq ?_
   refine wp_seq ?_
   refine wp_region_lit ?_
   refine st_val hs (y_move rfl) trivial rfl rfl fun a hs => ?_
   refine st_val hs (y_gtr rfl rfl) trivial rfl rfl fun a hs => ?_
   refine wpList_nil ?_
   refine then_normal ?_
   refine wp_cond_split (hs.ev rfl) (fun h240 => ?_) (fun h240 => ?_)
   ·have hsh := ite_t hsh h240
    refine wp_skip ?_
    refine then_normal ?_
    refine wp_seq ?_
    refine wp_block ?_
    obtain ⟨rv255, h254, hsh⟩ := bind_t hsh
    obtain ⟨l262, h261, hsh⟩ := bind_t hsh
    refine wp_only (fun a w => ∃ (Sv266 : Nat → Prop) (c265 : List Value) (k257 : Nat) (k264 : Nat) (p256 : Option Addr) (p263 : Option Addr), Sl 54 [(0, .pointer (some ⟨b2, 0, none⟩)), (6, .pointer (some ⟨b9, 0, none⟩)), (9, .pointer (some ⟨b73, 0, none⟩)), (10, .int .i64 sv168.2.2.2)] a ∧ Wd ⟨w0, S0, blks [.box b2 [.slice p3 d1.L.length k4, .int .i64 d1.At] 60]⟩ Sv266 [.box b2 [.slice p256 rv255.2.L.length k257, .int .i64 rv255.2.At] 60, .box b9 [.string ByteArray.empty, .string ByteArray.empty, .string ByteArray.empty, .string ByteArray.empty, .int .i64 0, .int .i64 0, .int .i64 0, .int .i64 0, .int .i64 0, .int .i64 0, .int .i64 0, .slice none ([] : List Int).length 0] 32, .box b73 [.string s6.Network, .string s6.Station, .string s6.Location, .string s6.Channel, .int .i64 (w64 (1000000000000 + (w64 (250000 * rv45.1)))), .int .i64 rv52.1, .int .i64 rv37.1.Num, .int .i64 rv37.1.Den, .int .i64 rv59.1, .int .i64 rv64.1, .int .i64 rv69.1, .slice p263 l262.length k264] 32, .row p263 l262.length k264 c265 3 1] [SlA p256 rv255.2.L.length k257 rv255.2.L, SlA none ([] : List Int).length 0 ([] : List Int), RowA c265 l262] w) ?_ ?_
    ·refine h_b (C := Cls [.box b9 [.string ByteArray.empty, .string ByteArray.empty, .string ByteArray.empty, .string ByteArray.empty, .int .i64 0, .int .i64 0, .int .i64 0, .int .i64 0, .int .i64 0, .int .i64 0, .int .i64 0, .slice none ([] : List Int).length 0] 32] []) (by kernel_rfl) rfl (hw.drew.cs [1] [] rfl rfl) fun hC => ?_
     have hw := hw.drew
     refine h_g hs 0 rfl (by kernel_rfl) rfl rfl hC rfl (fun w hC => y_fieldAddr (o' := 11) Try.runUnderlying32 rfl Try.sizeOf22 rfl rfl rfl) fun a hs => ?_
     refine h_g hs 2 rfl (by kernel_rfl) rfl rfl hC rfl (fun w hC => y_move rfl) fun a hs => ?_
     refine h_all (rs := [1, 3]) (by kernel_rfl) rfl ?_
     refine AllH.cons rfl ?_ ?_
     ·refine st_val hs (y_loadB1 (hw.ownAt 2 rfl) rfl Try.isAgg22 rfl) trivial rfl rfl fun a hs => ?_
      refine h_nx (hw.cs [1] [] rfl rfl) fun hC => ?_
      refine h_one (i := 3) (by kernel_rfl) rfl ?_
      refine st_callR hs (made_Dice_Next_ok h254 hw.dom (hw.ins [0] (by decide) rfl) (hw.envAt 0 rfl)) (do_call Try.call16 rfl) trivial rfl rfl ?_
      intro v270 Sv267 w a h268 h269 hs
      obtain ⟨p256, k257, rfl, h271, h258⟩ := h269
      have hw := hw.callO [0] [1, 2, 3] (by decide) rfl h268 h271
      have hw := hw.addE (e := SlA p256 rv255.2.L.length k257 rv255.2.L) h258
      refine h_nx (hw.cs [1] [] rfl rfl) fun hC => ?_
      refine h_one (i := 4) (by kernel_rfl) rfl ?_
      refine w_litSlice (α := Int) (vs := [.int .i64 rv255.1]) (cs := [.int .i64 rv255.1]) (xs := ([rv255.1] : List Int)) hs hw El22 rfl rfl rfl rfl rfl rfl ⟨⟨_, rfl, rfl⟩, rfl⟩ rfl trivial rfl fun b260 a w hs hw => ?_
      refine h_nx (hw.cs [2] [] rfl rfl) fun hC => ?_
      refine h_st (C' := Cls [.box b9 [.string ByteArray.empty, .string ByteArray.empty, .string ByteArray.empty, .string ByteArray.empty, .int .i64 0, .int .i64 0, .int .i64 0, .int .i64 0, .int .i64 0, .int .i64 0, .int .i64 0, .slice none ([] : List Int).length 0] 32, .row (some ⟨b260, 0, none⟩) ([rv255.1] : List Int).length ([rv255.1] : List Int).length [.int .i64 rv255.1] 3 1] []) (fun _ h => by exact h.sub [0] (Sel.of rfl) (AllIn.of [] rfl)) (hw.cs [2, 0] [] rfl rfl) fun hC => ?_
      refine h_one (i := 5) (by kernel_rfl) rfl ?_
      refine w_appendR (α := Int) hs hw El22 4 rfl rfl rfl 4 rfl 0 rfl 0 rfl h261 rfl trivial ?_
      intro p263 k264 c265 a w hs hw
      refine h_nx (hw.cs [2, 0] [] rfl rfl) fun hC => ?_
      refine h_g hs 6 rfl (by kernel_rfl) rfl rfl hC rfl (fun w hC => y_fieldAddr (o' := 11) Try.runUnderlying32 rfl Try.sizeOf22 rfl rfl rfl) fun a hs => ?_
      refine h_one (i := 7) (by kernel_rfl) rfl ?_
      refine w_store (m := 1) (cs' := [.string s6.Network, .string s6.Station, .string s6.Location, .string s6.Channel, .int .i64 (w64 (1000000000000 + (w64 (250000 * rv45.1)))), .int .i64 rv52.1, .int .i64 rv37.1.Num, .int .i64 rv37.1.Den, .int .i64 rv59.1, .int .i64 rv64.1, .int .i64 rv69.1, .slice p263 l262.length k264]) hs hw 3 rfl rfl rfl Try.sizeOf22 rfl rfl rfl rfl trivial ?_
      intro a w hs hw
      refine h_nx (hw.cs [2, 0] [] rfl rfl) fun hC => ?_
      refine h_done (by kernel_rfl) ?_
      exact ⟨Sv267, c265, k257, k264, p256, p263, (hs.wk rfl), (hw.ft [1, 2, 3, 4] [2, 4, 0] (by decide) rfl rfl)⟩
     refine AllH.cons rfl ?_ ?_
     ·refine st_callR hs (made_Dice_Next_ok h254 hw.dom (hw.ins [0] (by decide) rfl) (hw.envAt 0 rfl)) (do_call Try.call16 rfl) trivial rfl rfl ?_
      intro v275 Sv272 w a h273 h274 hs
      obtain ⟨p256, k257, rfl, h276, h258⟩ := h274
      have hw := hw.callO [0] [1, 2, 3] (by decide) rfl h273 h276
      have hw := hw.addE (e := SlA p256 rv255.2.L.length k257 rv255.2.L) h258
      refine h_nx (hw.cs [1] [] rfl rfl) fun hC => ?_
      refine h_all (rs := [1, 4]) (by kernel_rfl) rfl ?_
      refine AllH.cons rfl ?_ ?_
      ·refine st_val hs (y_loadB1 (hw.ownAt 2 rfl) rfl Try.isAgg22 rfl) trivial rfl rfl fun a hs => ?_
       refine h_nx (hw.cs [1] [] rfl rfl) fun hC => ?_
       refine h_one (i := 4) (by kernel_rfl) rfl ?_
       refine w_litSlice (α := Int) (vs := [.int .i64 rv255.1]) (cs := [.int .i64 rv255.1]) (xs := ([rv255.1] : List Int)) hs hw El22 rfl rfl rfl rfl rfl rfl ⟨⟨_, rfl, rfl⟩, rfl⟩ rfl trivial rfl fun b260 a w hs hw => ?_
       refine h_nx (hw.cs [2] [] rfl rfl) fun hC => ?_
       refine h_st (C' := Cls [.box b9 [.string ByteArray.empty, .string ByteArray.empty, .string ByteArray.empty, .string ByteArray.empty, .int .i64 0, .int .i64 0, .int .i64 0, .int .i64 0, .int .i64 0, .int .i64 0, .int .i64 0, .slice none ([] : List Int).length 0] 32, .row (some ⟨b260, 0, none⟩) ([rv255.1] : List Int).length ([rv255.1] : List Int).length [.int .i64 rv255.1] 3 1] []) (fun _ h => by exact h.sub [0] (Sel.of rfl) (AllIn.of [] rfl)) (hw.cs [2, 0] [] rfl rfl) fun hC => ?_
       refine h_one (i := 5) (by kernel_rfl) rfl ?_
       refine w_appendR (α := Int) hs hw El22 4 rfl rfl rfl 4 rfl 0 rfl 0 rfl h261 rfl trivial ?_
       intro p263 k264 c265 a w hs hw
       refine h_nx (hw.cs [2, 0] [] rfl rfl) fun hC => ?_
       refine h_g hs 6 rfl (by kernel_rfl) rfl rfl hC rfl (fun w hC => y_fieldAddr (o' := 11) Try.runUnderlying32 rfl Try.sizeOf22 rfl rfl rfl) fun a hs => ?_
       refine h_one (i := 7) (by kernel_rfl) rfl ?_
       refine w_store (m := 1) (cs' := [.string s6.Network, .string s6.Station, .string s6.Location, .string s6.Channel, .int .i64 (w64 (1000000000000 + (w64 (250000 * rv45.1)))), .int .i64 rv52.1, .int .i64 rv37.1.Num, .int .i64 rv37.1.Den, .int .i64 rv59.1, .int .i64 rv64.1, .int .i64 rv69.1, .slice p263 l262.length k264]) hs hw 3 rfl rfl rfl Try.sizeOf22 rfl rfl rfl rfl trivial ?_
       intro a w hs hw
       refine h_nx (hw.cs [2, 0] [] rfl rfl) fun hC => ?_
       refine h_done (by kernel_rfl) ?_
       exact ⟨Sv272, c265, k257, k264, p256, p263, (hs.wk rfl), (hw.ft [1, 2, 3, 4] [2, 4, 0] (by decide) rfl rfl)⟩
      refine AllH.cons rfl ?_ ?_
      ·refine w_litSlice (α := Int) (vs := [.int .i64 rv255.1]) (cs := [.int .i64 rv255.1]) (xs := ([rv255.1] : List Int)) hs hw El22 rfl rfl rfl rfl rfl rfl ⟨⟨_, rfl, rfl⟩, rfl⟩ rfl trivial rfl fun b260 a w hs hw => ?_
       refine h_nx (hw.cs [2] [] rfl rfl) fun hC => ?_
       refine h_st (C' := Cls [.box b9 [.string ByteArray.empty, .string ByteArray.empty, .string ByteArray.empty, .string ByteArray.empty, .int .i64 0, .int .i64 0, .int .i64 0, .int .i64 0, .int .i64 0, .int .i64 0, .int .i64 0, .slice none ([] : List Int).length 0] 32, .row (some ⟨b260, 0, none⟩) ([rv255.1] : List Int).length ([rv255.1] : List Int).length [.int .i64 rv255.1] 3 1] []) (fun _ h => by exact h.sub [0] (Sel.of rfl) (AllIn.of [] rfl)) (hw.cs [2, 0] [] rfl rfl) fun hC => ?_
       refine h_one (i := 1) (by kernel_rfl) rfl ?_
       refine st_val hs (y_loadB1 (hw.ownAt 3 rfl) rfl Try.isAgg22 rfl) trivial rfl rfl fun a hs => ?_
       refine h_nx (hw.cs [2, 0] [] rfl rfl) fun hC => ?_
       refine h_one (i := 5) (by kernel_rfl) rfl ?_
       refine w_appendR (α := Int) hs hw El22 4 rfl rfl rfl 4 rfl 0 rfl 0 rfl h261 rfl trivial ?_
       intro p263 k264 c265 a w hs hw
       refine h_nx (hw.cs [2, 0] [] rfl rfl) fun hC => ?_
       refine h_g hs 6 rfl (by kernel_rfl) rfl rfl hC rfl (fun w hC => y_fieldAddr (o' := 11) Try.runUnderlying32 rfl Try.sizeOf22 rfl rfl rfl) fun a hs => ?_
       refine h_one (i := 7) (by kernel_rfl) rfl ?_
       refine w_store (m := 1) (cs' := [.string s6.Network, .string s6.Station, .string s6.Location, .string s6.Channel, .int .i64 (w64 (1000000000000 + (w64 (250000 * rv45.1)))), .int .i64 rv52.1, .int .i64 rv37.1.Num, .int .i64 rv37.1.Den, .int .i64 rv59.1, .int .i64 rv64.1, .int .i64 rv69.1, .slice p263 l262.length k264]) hs hw 3 rfl rfl rfl Try.sizeOf22 rfl rfl rfl rfl trivial ?_
       intro a w hs hw
       refine h_nx (hw.cs [2, 0] [] rfl rfl) fun hC => ?_
       refine h_done (by kernel_rfl) ?_
       exact ⟨Sv272, c265, k257, k264, p256, p263, (hs.wk rfl), (hw.ft [1, 2, 3, 4] [2, 4, 0] (by decide) rfl rfl)⟩
      exact AllH.nil
     exact AllH.nil
    ·rintro a w ⟨Sv266, c265, k257, k264, p256, p263, hs, hw⟩
     refine blk_normal ?_
     refine then_normal ?_
     refine wp_region_lit ?_
     refine st_val hs (y_move rfl) trivial rfl rfl fun a hs => ?_
     refine st_val hs (y_sub rfl rfl) trivial rfl rfl fun a hs => ?_
     obtain ⟨i278, h277, hsh⟩ := bind_t hsh
     refine st_val hs (y_assignI rfl h277) trivial rfl rfl fun a hs => ?_
     refine wpList_nil ?_
     refine then_normal ?_
     exact ⟨_, (Option.some.inj hsh).symm, p256, k257, c265, p263, k264, Sv266, (hs.wk rfl), (hw.ft [0, 1, 2, 3] [0, 1, 2] (by decide) rfl rfl)⟩
   ·have hsh := ite_f hsh h240
    refine wp_exit ?_
    refine then_exit ?_
    refine then_exit ?_
    refine blk_exit ?_
    have hsh := Option.some.inj hsh
    subst hsh
    have h279 := hd229 _ rfl
    subst h279
    refine then_normal ?_
    exact ⟨p207, k208, c209, p210, k211, Sv212, (hs.wk rfl), (hw.ft [0, 1, 2, 3] [0, 1, 2] (by decide) rfl rfl)⟩
  ·rintro a w ⟨p233, k234, c235, p236, k237, Sv238, hs, hw⟩
   refine then_normal ?_
   refine wp_seq ?_
   refine wp_region_lit ?_
   refine st_val hs (y_loadBA (hw.ownAt 2 rfl) rfl Try.isAgg32 Try.sizeOf32 rfl rfl) trivial rfl rfl fun a hs => ?_
   refine w_store (m := 12) (cs' := [.string s6.Network, .string s6.Station, .string s6.Location, .string s6.Channel, .int .i64 (w64 (1000000000000 + (w64 (250000 * rv45.1)))), .int .i64 rv52.1, .int .i64 rv37.1.Num, .int .i64 rv37.1.Den, .int .i64 rv59.1, .int .i64 rv64.1, .int .i64 rv69.1, .slice p236 e232.2.2.length k237]) hs hw 1 rfl rfl rfl Try.sizeOf32 rfl rfl rfl rfl trivial ?_
   intro a w hs hw
   refine wpList_nil ?_
   refine then_normal ?_
   have hsh := Option.some.inj hsh
   subst hsh
   refine wp_ret ?_
   exact ret1 hs rfl (rv_cell hw 1 rfl rfl Try.isAgg32 Try.sizeOf32 rfl) (hw.ret ⟨p236, k237, c235, p233, k234, rfl, (hw.outs [3, 0] (by decide) rfl), (hw.envAt 2 rfl), (hw.envAt 0 rfl)⟩)

abbrev made_Dice_OddRecord_rd (w0 : World) (X : List Nat) (b2 : Nat) (r : (Record × Dice)) : (Nat → Prop) → World → Value → Prop := fun S w v => ∃ (p0_11 : Option Addr) (k0_11 : Nat) (c0_11 : List Value) (pq0_0 : Option Addr) (kq0_0 : Nat), v = .agg #[.string r.1.Source.Network, .string r.1.Source.Station, .string r.1.Source.Location, .string r.1.Source.Channel, .int .i64 r.1.Start, .int .i64 r.1.First, .int .i64 r.1.Rate.Num, .int .i64 r.1.Rate.Den, .int .i64 r.1.Error, .int .i64 r.1.Run, .int .i64 r.1.Seq, .slice p0_11 r.1.Samples.length k0_11] ∧ Outs X w0 S w [.row p0_11 r.1.Samples.length k0_11 c0_11 3 1, .box b2 [.slice pq0_0 r.2.L.length kq0_0, .int .i64 r.2.At] 60] ∧ (RowA c0_11 r.1.Samples).p S w ∧ (SlA pq0_0 r.2.L.length kq0_0 r.2.L).p S w
set_option maxHeartbeats 4000000 in
set_option maxRecDepth 100000 in
theorem made_Dice_OddRecord_ok {w0 : World} {S0 : Nat → Prop} {b2 : Nat} {p3 : Option Addr} {k4 : Nat} {p7 : Option Addr} {k8 : Nat} {d1 : Dice} {r6 : Record} {r : (Record × Dice)} (hsh : made_Dice_OddRecord d1 r6 = some r) (hS : ∀ b, S0 b → b < w0.heap.size) (hin : Ins S0 w0 [.box b2 [.slice p3 d1.L.length k4, .int .i64 d1.At] 60]) (h5 : (SlA p3 d1.L.length k4 d1.L).p S0 w0) (h9 : (SlA p7 r6.Samples.length k8 r6.Samples).p S0 w0) : Calls Try.prog 25 #[.pointer (some ⟨b2, 0, none⟩), .agg #[.string r6.Source.Network, .string r6.Source.Station, .string r6.Source.Location, .string r6.Source.Channel, .int .i64 r6.Start, .int .i64 r6.First, .int .i64 r6.Rate.Num, .int .i64 r6.Rate.Den, .int .i64 r6.Error, .int .i64 r6.Run, .int .i64 r6.Seq, .slice p7 r6.Samples.length k8]] w0 (Ret (blks [.box b2 [.slice p3 d1.L.length k4, .int .i64 d1.At] 60]) w0 S0 (made_Dice_OddRecord_rd w0 (blks [.box b2 [.slice p3 d1.L.length k4, .int .i64 d1.At] 60]) b2 r)) := by
 refine calls_of_wp Try.func25 rfl ?_
 have hs := Sl.enter #[.pointer (some ⟨b2, 0, none⟩), .agg #[.string r6.Source.Network, .string r6.Source.Station, .string r6.Source.Location, .string r6.Source.Channel, .int .i64 r6.Start, .int .i64 r6.First, .int .i64 r6.Rate.Num, .int .i64 r6.Rate.Den, .int .i64 r6.Error, .int .i64 r6.Run, .int .i64 r6.Seq, .slice p7 r6.Samples.length k8]] 66 [(0, .pointer (some ⟨b2, 0, none⟩)), (1, .agg #[.string r6.Source.Network, .string r6.Source.Station, .string r6.Source.Location, .string r6.Source.Channel, .int .i64 r6.Start, .int .i64 r6.First, .int .i64 r6.Rate.Num, .int .i64 r6.Rate.Den, .int .i64 r6.Error, .int .i64 r6.Run, .int .i64 r6.Seq, .slice p7 r6.Samples.length k8])] rfl ⟨rfl, rfl, trivial⟩
 have hw := Wd.enterI hS hin
 have hw := hw.addE h5
 have hw := hw.addE h9
 delta made_Dice_OddRecord at hsh
 refine wp_seq ?_
 refine wp_region_lit ?_
 refine w_box (cs := [.string r6.Source.Network, .string r6.Source.Station, .string r6.Source.Location, .string r6.Source.Channel, .int .i64 r6.Start, .int .i64 r6.First, .int .i64 r6.Rate.Num, .int .i64 r6.Rate.Den, .int .i64 r6.Error, .int .i64 r6.Run, .int .i64 r6.Seq, .slice p7 r6.Samples.length k8]) hs hw rfl rfl rfl trivial ?_
 intro b10 a w hs hw
 refine w_alloc (cs := [.string ByteArray.empty, .string ByteArray.empty, .string ByteArray.empty, .string ByteArray.empty, .int .i64 0, .int .i64 0, .int .i64 0, .int .i64 0, .int .i64 0, .int .i64 0, .int .i64 0, .slice none ([] : List Int).length 0]) hs hw Try.zeroValue32 rfl rfl trivial ?_
 intro b11 a w hs hw
 refine wpList_nil ?_
 refine then_normal ?_
 refine wp_seq ?_
 refine wp_region_lit ?_
 refine st_val hs (y_fieldAddr (o' := 11) Try.runUnderlying32 rfl Try.sizeOf22 rfl rfl rfl) trivial rfl rfl fun a hs => ?_
 refine st_val hs (y_loadB1 (hw.ownAt 1 rfl) rfl Try.isAgg22 rfl) trivial rfl rfl fun a hs => ?_
 obtain ⟨l13, h12, hsh⟩ := bind_t hsh
 have hw := hw.nilRow Int 3
 refine w_appendE (α := Int) hs hw El22 0 rfl rfl rfl 0 rfl 1 rfl h12 rfl trivial ?_
 intro p14 k15 c16 a w hs hw
 refine st_val hs (y_fieldAddr (o' := 11) Try.runUnderlying32 rfl Try.sizeOf22 rfl rfl rfl) trivial rfl rfl fun a hs => ?_
 refine w_store (m := 1) (cs' := [.string r6.Source.Network, .string r6.Source.Station, .string r6.Source.Location, .string r6.Source.Channel, .int .i64 r6.Start, .int .i64 r6.First, .int .i64 r6.Rate.Num, .int .i64 r6.Rate.Den, .int .i64 r6.Error, .int .i64 r6.Run, .int .i64 r6.Seq, .slice p14 l13.length k15]) hs hw 2 rfl rfl rfl Try.sizeOf22 rfl rfl rfl rfl trivial ?_
 intro a w hs hw
 refine wpList_nil ?_
 refine then_normal ?_
 refine wp_seq ?_
 refine wp_seq ?_
 refine wp_region_lit ?_
 refine st_val hs (y_move rfl) trivial rfl rfl fun a hs => ?_
 obtain ⟨rv18, h17, hsh⟩ := bind_t hsh
 refine st_callR hs (made_Dice_Next_ok h17 hw.dom (hw.ins [3] (by decide) rfl) (hw.envAt 3 rfl)) (do_call Try.call16 rfl) trivial rfl rfl ?_
 intro v25 Sv22 w a h23 h24 hs
 obtain ⟨p19, k20, rfl, h26, h21⟩ := h24
 have hw := hw.callO [3] [0, 1, 2] (by decide) rfl h23 h26
 have hw := hw.addE (e := SlA p19 rv18.2.L.length k20 rv18.2.L) h21
 refine wpList_nil ?_
 refine then_normal ?_
 refine wp_block ?_
 refine wp_seq ?_
 refine wp_region_lit ?_
 refine st_val hs (y_eql rfl rfl) trivial rfl rfl fun a hs => ?_
 refine st_val hs (y_assign rfl) trivial rfl rfl fun a hs => ?_
 refine wpList_nil ?_
 refine then_normal ?_
 refine wp_join (fun a w => ∃ (x438 : (List Int)) (x439 : Int) (x440 : ByteArray) (x441 : Int) (x442 : Int) (x443 : Int) (x444 : Int) (x445 : Int) (x446 : Int) (x447 : Int) (x448 : (List Int)) (p432 : Option Addr) (k433 : Nat) (c434 : List Value) (p435 : Option Addr) (k436 : Nat) (Sv437 : Nat → Prop), made_Dice_OddRecord_j1 r6 x438 x439 x440 x441 x442 x443 x444 x445 x446 x447 x448 = some r ∧ Sl 66 [(3, .pointer (some ⟨b10, 0, none⟩)), (4, .pointer (some ⟨b11, 0, none⟩))] a ∧ Wd ⟨w0, S0, blks [.box b2 [.slice p3 d1.L.length k4, .int .i64 d1.At] 60]⟩ Sv437 [.box b2 [.slice p432 x438.length k433, .int .i64 x439] 60, .box b10 [.string r6.Source.Network, .string x440, .string r6.Source.Location, .string r6.Source.Channel, .int .i64 x441, .int .i64 x442, .int .i64 x443, .int .i64 x444, .int .i64 x445, .int .i64 x446, .int .i64 x447, .slice p435 x448.length k436] 32, .box b11 [.string ByteArray.empty, .string ByteArray.empty, .string ByteArray.empty, .string ByteArray.empty, .int .i64 0, .int .i64 0, .int .i64 0, .int .i64 0, .int .i64 0, .int .i64 0, .int .i64 0, .slice none ([] : List Int).length 0] 32, .row p435 x448.length k436 c434 3 1] [SlA p432 x438.length k433 x438, SlA none ([] : List Int).length 0 ([] : List Int), RowA c434 x448] w) ?_ ?_
 ·refine wp_cond_split (hs.ev rfl) (fun h449 => ?_) (fun h449 => ?_)
  ·have hsh := ite_t hsh h449
   refine wp_region_lit ?_
   refine st_val hs (y_fieldAddr (o' := 0) Try.runUnderlying32 rfl Try.sizeOf28 rfl rfl rfl) trivial rfl rfl fun a hs => ?_
   refine st_val hs (y_fieldAddr (o' := 1) Try.runUnderlying28 rfl Try.sizeOf9 rfl rfl rfl) trivial rfl rfl fun a hs => ?_
   refine w_store (m := 1) (cs' := [.string r6.Source.Network, .string (⟨#[]⟩ : ByteArray), .string r6.Source.Location, .string r6.Source.Channel, .int .i64 r6.Start, .int .i64 r6.First, .int .i64 r6.Rate.Num, .int .i64 r6.Rate.Den, .int .i64 r6.Error, .int .i64 r6.Run, .int .i64 r6.Seq, .slice p14 l13.length k15]) hs hw 3 rfl rfl rfl Try.sizeOf9 rfl rfl rfl rfl trivial ?_
   intro a w hs hw
   refine wpList_nil ?_
   refine then_normal ?_
   have hw := hw.addE (e := SlA (α := Int) none 0 0 []) nil_sl
   exact ⟨rv18.2.L, rv18.2.At, (⟨#[]⟩ : ByteArray), r6.Start, r6.First, r6.Rate.Num, r6.Rate.Den, r6.Error, r6.Run, r6.Seq, l13, p19, k20, c16, p14, k15, Sv22, hsh, (hs.wk rfl), (hw.ft [0, 3, 2, 1] [1, 0, 2] (by decide) rfl rfl)⟩
  ·have hsh := ite_f hsh h449
   refine wp_seq ?_
   refine wp_region_lit ?_
   refine st_val hs (y_eql rfl rfl) trivial rfl rfl fun a hs => ?_
   refine st_val hs (y_assign rfl) trivial rfl rfl fun a hs => ?_
   refine wpList_nil ?_
   refine then_normal ?_
   refine wp_join (fun a w => ∃ (x633 : (List Int)) (x634 : Int) (x635 : Int) (x636 : Int) (x637 : Int) (x638 : Int) (x639 : Int) (x640 : Int) (x641 : Int) (x642 : (List Int)) (p627 : Option Addr) (k628 : Nat) (c629 : List Value) (p630 : Option Addr) (k631 : Nat) (Sv632 : Nat → Prop), made_Dice_OddRecord_j2 r6 x633 x634 x635 x636 x637 x638 x639 x640 x641 x642 = some r ∧ Sl 66 [(3, .pointer (some ⟨b10, 0, none⟩)), (4, .pointer (some ⟨b11, 0, none⟩))] a ∧ Wd ⟨w0, S0, blks [.box b2 [.slice p3 d1.L.length k4, .int .i64 d1.At] 60]⟩ Sv632 [.box b2 [.slice p627 x633.length k628, .int .i64 x634] 60, .box b10 [.string r6.Source.Network, .string r6.Source.Station, .string r6.Source.Location, .string r6.Source.Channel, .int .i64 x635, .int .i64 x636, .int .i64 x637, .int .i64 x638, .int .i64 x639, .int .i64 x640, .int .i64 x641, .slice p630 x642.length k631] 32, .box b11 [.string ByteArray.empty, .string ByteArray.empty, .string ByteArray.empty, .string ByteArray.empty, .int .i64 0, .int .i64 0, .int .i64 0, .int .i64 0, .int .i64 0, .int .i64 0, .int .i64 0, .slice none ([] : List Int).length 0] 32, .row p630 x642.length k631 c629 3 1] [SlA p627 x633.length k628 x633, SlA none ([] : List Int).length 0 ([] : List Int), RowA c629 x642] w) ?_ ?_
   ·refine wp_cond_split (hs.ev rfl) (fun h643 => ?_) (fun h643 => ?_)
    ·have hsh := ite_t hsh h643
     refine wp_region_lit ?_
     refine st_val hs (y_move rfl) trivial rfl rfl fun a hs => ?_
     refine w_litSlice (α := Int) (vs := [.int .i64 (-1), .int .i64 0, .int .i64 9007199254740992, .int .i64 9007199254740993]) (cs := [.int .i64 (-1), .int .i64 0, .int .i64 9007199254740992, .int .i64 9007199254740993]) (xs := ([(-1), 0, 9007199254740992, 9007199254740993] : List Int)) hs hw El22 rfl rfl rfl rfl rfl rfl ⟨⟨_, rfl, rfl⟩, ⟨⟨_, rfl, rfl⟩, ⟨⟨_, rfl, rfl⟩, ⟨⟨_, rfl, rfl⟩, rfl⟩⟩⟩⟩ rfl trivial rfl fun b645 a w hs hw => ?_
     obtain ⟨rv647, h646, hsh⟩ := bind_t hsh
     obtain ⟨Sv651, hw⟩ := w_share (α := Int) hw 0 rfl 0 rfl
     refine st_callR hs (made_Dice_Pick_ok h646 hw.dom (hw.ins [0] (by decide) rfl) (hw.envAt 2 rfl) (hw.envAt 0 rfl)) (do_call Try.call36 rfl) trivial rfl rfl ?_
     intro v655 Sv652 w a h653 h654 hs
     obtain ⟨p648, k649, rfl, h656, h650⟩ := h654
     have hw := hw.callO [0] [1, 2, 3] (by decide) rfl h653 h656
     have hw := hw.addE (e := SlA p648 rv647.2.L.length k649 rv647.2.L) h650
     refine st_val hs (y_fieldAddr (o' := 4) Try.runUnderlying32 rfl Try.sizeOf3 rfl rfl rfl) trivial rfl rfl fun a hs => ?_
     refine w_store (m := 1) (cs' := [.string r6.Source.Network, .string r6.Source.Station, .string r6.Source.Location, .string r6.Source.Channel, .int .i64 rv647.1, .int .i64 r6.First, .int .i64 r6.Rate.Num, .int .i64 r6.Rate.Den, .int .i64 r6.Error, .int .i64 r6.Run, .int .i64 r6.Seq, .slice p14 l13.length k15]) hs hw 3 rfl rfl rfl Try.sizeOf3 rfl rfl rfl rfl trivial ?_
     intro a w hs hw
     refine wpList_nil ?_
     refine then_normal ?_
     have hw := hw.addE (e := SlA (α := Int) none 0 0 []) nil_sl
     exact ⟨rv647.2.L, rv647.2.At, rv647.1, r6.First, r6.Rate.Num, r6.Rate.Den, r6.Error, r6.Run, r6.Seq, l13, p648, k649, c16, p14, k15, Sv652, hsh, (hs.wk rfl), (hw.ft [0, 3, 2, 1] [1, 0, 5] (by decide) rfl rfl)⟩
    ·have hsh := ite_f hsh h643
     refine wp_seq ?_
     refine wp_region_lit ?_
     refine st_val hs (y_eql rfl rfl) trivial rfl rfl fun a hs => ?_
     refine st_val hs (y_assign rfl) trivial rfl rfl fun a hs => ?_
     refine wpList_nil ?_
     refine then_normal ?_
     refine wp_join (fun a w => ∃ (x811 : (List Int)) (x812 : Int) (x813 : Int) (x814 : Int) (x815 : Int) (x816 : Int) (x817 : Int) (x818 : Int) (x819 : (List Int)) (p805 : Option Addr) (k806 : Nat) (c807 : List Value) (p808 : Option Addr) (k809 : Nat) (Sv810 : Nat → Prop), made_Dice_OddRecord_j3 r6 x811 x812 x813 x814 x815 x816 x817 x818 x819 = some r ∧ Sl 66 [(3, .pointer (some ⟨b10, 0, none⟩)), (4, .pointer (some ⟨b11, 0, none⟩))] a ∧ Wd ⟨w0, S0, blks [.box b2 [.slice p3 d1.L.length k4, .int .i64 d1.At] 60]⟩ Sv810 [.box b2 [.slice p805 x811.length k806, .int .i64 x812] 60, .box b10 [.string r6.Source.Network, .string r6.Source.Station, .string r6.Source.Location, .string r6.Source.Channel, .int .i64 r6.Start, .int .i64 x813, .int .i64 x814, .int .i64 x815, .int .i64 x816, .int .i64 x817, .int .i64 x818, .slice p808 x819.length k809] 32, .box b11 [.string ByteArray.empty, .string ByteArray.empty, .string ByteArray.empty, .string ByteArray.empty, .int .i64 0, .int .i64 0, .int .i64 0, .int .i64 0, .int .i64 0, .int .i64 0, .int .i64 0, .slice none ([] : List Int).length 0] 32, .row p808 x819.length k809 c807 3 1] [SlA p805 x811.length k806 x811, SlA none ([] : List Int).length 0 ([] : List Int), RowA c807 x819] w) ?_ ?_
     ·refine wp_cond_split (hs.ev rfl) (fun h820 => ?_) (fun h820 => ?_)
      ·have hsh := ite_t hsh h820
       refine wp_region_lit ?_
       refine st_val hs (y_move rfl) trivial rfl rfl fun a hs => ?_
       refine w_litSlice (α := Int) (vs := [.int .i64 (-1), .int .i64 16777213, .int .i64 16777216]) (cs := [.int .i64 (-1), .int .i64 16777213, .int .i64 16777216]) (xs := ([(-1), 16777213, 16777216] : List Int)) hs hw El22 rfl rfl rfl rfl rfl rfl ⟨⟨_, rfl, rfl⟩, ⟨⟨_, rfl, rfl⟩, ⟨⟨_, rfl, rfl⟩, rfl⟩⟩⟩ rfl trivial rfl fun b822 a w hs hw => ?_
       obtain ⟨rv824, h823, hsh⟩ := bind_t hsh
       obtain ⟨Sv828, hw⟩ := w_share (α := Int) hw 0 rfl 0 rfl
       refine st_callR hs (made_Dice_Pick_ok h823 hw.dom (hw.ins [0] (by decide) rfl) (hw.envAt 2 rfl) (hw.envAt 0 rfl)) (do_call Try.call36 rfl) trivial rfl rfl ?_
       intro v832 Sv829 w a h830 h831 hs
       obtain ⟨p825, k826, rfl, h833, h827⟩ := h831
       have hw := hw.callO [0] [1, 2, 3] (by decide) rfl h830 h833
       have hw := hw.addE (e := SlA p825 rv824.2.L.length k826 rv824.2.L) h827
       refine st_val hs (y_fieldAddr (o' := 5) Try.runUnderlying32 rfl Try.sizeOf3 rfl rfl rfl) trivial rfl rfl fun a hs => ?_
       refine w_store (m := 1) (cs' := [.string r6.Source.Network, .string r6.Source.Station, .string r6.Source.Location, .string r6.Source.Channel, .int .i64 r6.Start, .int .i64 rv824.1, .int .i64 r6.Rate.Num, .int .i64 r6.Rate.Den, .int .i64 r6.Error, .int .i64 r6.Run, .int .i64 r6.Seq, .slice p14 l13.length k15]) hs hw 3 rfl rfl rfl Try.sizeOf3 rfl rfl rfl rfl trivial ?_
       intro a w hs hw
       refine wpList_nil ?_
       refine then_normal ?_
       have hw := hw.addE (e := SlA (α := Int) none 0 0 []) nil_sl
       exact ⟨rv824.2.L, rv824.2.At, rv824.1, r6.Rate.Num, r6.Rate.Den, r6.Error, r6.Run, r6.Seq, l13, p825, k826, c16, p14, k15, Sv829, hsh, (hs.wk rfl), (hw.ft [0, 3, 2, 1] [1, 0, 5] (by decide) rfl rfl)⟩
      ·have hsh := ite_f hsh h820
       refine wp_seq ?_
       refine wp_region_lit ?_
       refine st_val hs (y_eql rfl rfl) trivial rfl rfl fun a hs => ?_
       refine st_val hs (y_assign rfl) trivial rfl rfl fun a hs => ?_
       refine wpList_nil ?_
       refine then_normal ?_
       refine wp_join (fun a w => ∃ (x960 : (List Int)) (x961 : Int) (x962 : Int) (x963 : Int) (x964 : Int) (x965 : Int) (x966 : Int) (x967 : (List Int)) (p954 : Option Addr) (k955 : Nat) (c956 : List Value) (p957 : Option Addr) (k958 : Nat) (Sv959 : Nat → Prop), made_Dice_OddRecord_j4 r6 x960 x961 x962 x963 x964 x965 x966 x967 = some r ∧ Sl 66 [(3, .pointer (some ⟨b10, 0, none⟩)), (4, .pointer (some ⟨b11, 0, none⟩))] a ∧ Wd ⟨w0, S0, blks [.box b2 [.slice p3 d1.L.length k4, .int .i64 d1.At] 60]⟩ Sv959 [.box b2 [.slice p954 x960.length k955, .int .i64 x961] 60, .box b10 [.string r6.Source.Network, .string r6.Source.Station, .string r6.Source.Location, .string r6.Source.Channel, .int .i64 r6.Start, .int .i64 r6.First, .int .i64 x962, .int .i64 x963, .int .i64 x964, .int .i64 x965, .int .i64 x966, .slice p957 x967.length k958] 32, .box b11 [.string ByteArray.empty, .string ByteArray.empty, .string ByteArray.empty, .string ByteArray.empty, .int .i64 0, .int .i64 0, .int .i64 0, .int .i64 0, .int .i64 0, .int .i64 0, .int .i64 0, .slice none ([] : List Int).length 0] 32, .row p957 x967.length k958 c956 3 1] [SlA p954 x960.length k955 x960, SlA none ([] : List Int).length 0 ([] : List Int), RowA c956 x967] w) ?_ ?_
       ·refine wp_cond_split (hs.ev rfl) (fun h968 => ?_) (fun h968 => ?_)
        ·have hsh := ite_t hsh h968
         refine wp_region_lit ?_
         refine st_val hs (y_move rfl) trivial rfl rfl fun a hs => ?_
         refine w_litSlice (α := Int) (vs := [.int .i64 0, .int .i64 2, .int .i64 4097]) (cs := [.int .i64 0, .int .i64 2, .int .i64 4097]) (xs := ([0, 2, 4097] : List Int)) hs hw El22 rfl rfl rfl rfl rfl rfl ⟨⟨_, rfl, rfl⟩, ⟨⟨_, rfl, rfl⟩, ⟨⟨_, rfl, rfl⟩, rfl⟩⟩⟩ rfl trivial rfl fun b970 a w hs hw => ?_
         obtain ⟨rv972, h971, hsh⟩ := bind_t hsh
         obtain ⟨Sv976, hw⟩ := w_share (α := Int) hw 0 rfl 0 rfl
         refine st_callR hs (made_Dice_Pick_ok h971 hw.dom (hw.ins [0] (by decide) rfl) (hw.envAt 2 rfl) (hw.envAt 0 rfl)) (do_call Try.call36 rfl) trivial rfl rfl ?_
         intro v980 Sv977 w a h978 h979 hs
         obtain ⟨p973, k974, rfl, h981, h975⟩ := h979
         have hw := hw.callO [0] [1, 2, 3] (by decide) rfl h978 h981
         have hw := hw.addE (e := SlA p973 rv972.2.L.length k974 rv972.2.L) h975
         refine st_val hs (y_build (vs := [(0, .int .i64 rv972.1), (1, .int .i64 2)]) Bld30 rfl rfl) trivial rfl rfl fun a hs => ?_
         refine st_val hs (y_fieldAddr (o' := 6) Try.runUnderlying32 rfl Try.sizeOf30 rfl rfl rfl) trivial rfl rfl fun a hs => ?_
         refine w_store (m := 2) (cs' := [.string r6.Source.Network, .string r6.Source.Station, .string r6.Source.Location, .string r6.Source.Channel, .int .i64 r6.Start, .int .i64 r6.First, .int .i64 rv972.1, .int .i64 2, .int .i64 r6.Error, .int .i64 r6.Run, .int .i64 r6.Seq, .slice p14 l13.length k15]) hs hw 3 rfl rfl rfl Try.sizeOf30 rfl rfl rfl rfl trivial ?_
         intro a w hs hw
         refine wpList_nil ?_
         refine then_normal ?_
         have hw := hw.addE (e := SlA (α := Int) none 0 0 []) nil_sl
         exact ⟨rv972.2.L, rv972.2.At, rv972.1, 2, r6.Error, r6.Run, r6.Seq, l13, p973, k974, c16, p14, k15, Sv977, hsh, (hs.wk rfl), (hw.ft [0, 3, 2, 1] [1, 0, 5] (by decide) rfl rfl)⟩
        ·have hsh := ite_f hsh h968
         refine wp_seq ?_
         refine wp_region_lit ?_
         refine st_val hs (y_eql rfl rfl) trivial rfl rfl fun a hs => ?_
         refine st_val hs (y_assign rfl) trivial rfl rfl fun a hs => ?_
         refine wpList_nil ?_
         refine then_normal ?_
         refine wp_join (fun a w => ∃ (x1082 : (List Int)) (x1083 : Int) (x1084 : Int) (x1085 : Int) (x1086 : Int) (x1087 : (List Int)) (p1076 : Option Addr) (k1077 : Nat) (c1078 : List Value) (p1079 : Option Addr) (k1080 : Nat) (Sv1081 : Nat → Prop), made_Dice_OddRecord_j5 r6 x1082 x1083 x1084 x1085 x1086 x1087 = some r ∧ Sl 66 [(3, .pointer (some ⟨b10, 0, none⟩)), (4, .pointer (some ⟨b11, 0, none⟩))] a ∧ Wd ⟨w0, S0, blks [.box b2 [.slice p3 d1.L.length k4, .int .i64 d1.At] 60]⟩ Sv1081 [.box b2 [.slice p1076 x1082.length k1077, .int .i64 x1083] 60, .box b10 [.string r6.Source.Network, .string r6.Source.Station, .string r6.Source.Location, .string r6.Source.Channel, .int .i64 r6.Start, .int .i64 r6.First, .int .i64 r6.Rate.Num, .int .i64 r6.Rate.Den, .int .i64 x1084, .int .i64 x1085, .int .i64 x1086, .slice p1079 x1087.length k1080] 32, .box b11 [.string ByteArray.empty, .string ByteArray.empty, .string ByteArray.empty, .string ByteArray.empty, .int .i64 0, .int .i64 0, .int .i64 0, .int .i64 0, .int .i64 0, .int .i64 0, .int .i64 0, .slice none ([] : List Int).length 0] 32, .row p1079 x1087.length k1080 c1078 3 1] [SlA p1076 x1082.length k1077 x1082, SlA none ([] : List Int).length 0 ([] : List Int), RowA c1078 x1087] w) ?_ ?_
         ·refine wp_cond_split (hs.ev rfl) (fun h1088 => ?_) (fun h1088 => ?_)
          ·have hsh := ite_t hsh h1088
           refine wp_region_lit ?_
           refine st_val hs (y_move rfl) trivial rfl rfl fun a hs => ?_
           refine w_litSlice (α := Int) (vs := [.int .i64 (-1), .int .i64 1099511627776, .int .i64 1099511627777]) (cs := [.int .i64 (-1), .int .i64 1099511627776, .int .i64 1099511627777]) (xs := ([(-1), 1099511627776, 1099511627777] : List Int)) hs hw El22 rfl rfl rfl rfl rfl rfl ⟨⟨_, rfl, rfl⟩, ⟨⟨_, rfl, rfl⟩, ⟨⟨_, rfl, rfl⟩, rfl⟩⟩⟩ rfl trivial rfl fun b1090 a w hs hw => ?_
           obtain ⟨rv1092, h1091, hsh⟩ := bind_t hsh
           obtain ⟨Sv1096, hw⟩ := w_share (α := Int) hw 0 rfl 0 rfl
           refine st_callR hs (made_Dice_Pick_ok h1091 hw.dom (hw.ins [0] (by decide) rfl) (hw.envAt 2 rfl) (hw.envAt 0 rfl)) (do_call Try.call36 rfl) trivial rfl rfl ?_
           intro v1100 Sv1097 w a h1098 h1099 hs
           obtain ⟨p1093, k1094, rfl, h1101, h1095⟩ := h1099
           have hw := hw.callO [0] [1, 2, 3] (by decide) rfl h1098 h1101
           have hw := hw.addE (e := SlA p1093 rv1092.2.L.length k1094 rv1092.2.L) h1095
           refine st_val hs (y_fieldAddr (o' := 8) Try.runUnderlying32 rfl Try.sizeOf3 rfl rfl rfl) trivial rfl rfl fun a hs => ?_
           refine w_store (m := 1) (cs' := [.string r6.Source.Network, .string r6.Source.Station, .string r6.Source.Location, .string r6.Source.Channel, .int .i64 r6.Start, .int .i64 r6.First, .int .i64 r6.Rate.Num, .int .i64 r6.Rate.Den, .int .i64 rv1092.1, .int .i64 r6.Run, .int .i64 r6.Seq, .slice p14 l13.length k15]) hs hw 3 rfl rfl rfl Try.sizeOf3 rfl rfl rfl rfl trivial ?_
           intro a w hs hw
           refine wpList_nil ?_
           refine then_normal ?_
           have hw := hw.addE (e := SlA (α := Int) none 0 0 []) nil_sl
           exact ⟨rv1092.2.L, rv1092.2.At, rv1092.1, r6.Run, r6.Seq, l13, p1093, k1094, c16, p14, k15, Sv1097, hsh, (hs.wk rfl), (hw.ft [0, 3, 2, 1] [1, 0, 5] (by decide) rfl rfl)⟩
          ·have hsh := ite_f hsh h1088
           refine wp_seq ?_
           refine wp_region_lit ?_
           refine st_val hs (y_eql rfl rfl) trivial rfl rfl fun a hs => ?_
           refine st_val hs (y_assign rfl) trivial rfl rfl fun a hs => ?_
           refine wpList_nil ?_
           refine then_normal ?_
           refine wp_join (fun a w => ∃ (x1177 : (List Int)) (x1178 : Int) (x1179 : Int) (x1180 : Int) (x1181 : (List Int)) (p1171 : Option Addr) (k1172 : Nat) (c1173 : List Value) (p1174 : Option Addr) (k1175 : Nat) (Sv1176 : Nat → Prop), made_Dice_OddRecord_j6 r6 x1177 x1178 x1179 x1180 x1181 = some r ∧ Sl 66 [(3, .pointer (some ⟨b10, 0, none⟩)), (4, .pointer (some ⟨b11, 0, none⟩))] a ∧ Wd ⟨w0, S0, blks [.box b2 [.slice p3 d1.L.length k4, .int .i64 d1.At] 60]⟩ Sv1176 [.box b2 [.slice p1171 x1177.length k1172, .int .i64 x1178] 60, .box b10 [.string r6.Source.Network, .string r6.Source.Station, .string r6.Source.Location, .string r6.Source.Channel, .int .i64 r6.Start, .int .i64 r6.First, .int .i64 r6.Rate.Num, .int .i64 r6.Rate.Den, .int .i64 r6.Error, .int .i64 x1179, .int .i64 x1180, .slice p1174 x1181.length k1175] 32, .box b11 [.string ByteArray.empty, .string ByteArray.empty, .string ByteArray.empty, .string ByteArray.empty, .int .i64 0, .int .i64 0, .int .i64 0, .int .i64 0, .int .i64 0, .int .i64 0, .int .i64 0, .slice none ([] : List Int).length 0] 32, .row p1174 x1181.length k1175 c1173 3 1] [SlA p1171 x1177.length k1172 x1177, SlA none ([] : List Int).length 0 ([] : List Int), RowA c1173 x1181] w) ?_ ?_
           ·refine wp_cond_split (hs.ev rfl) (fun h1182 => ?_) (fun h1182 => ?_)
            ·have hsh := ite_t hsh h1182
             refine wp_region_lit ?_
             refine st_val hs (y_move rfl) trivial rfl rfl fun a hs => ?_
             refine w_litSlice (α := Int) (vs := [.int .i64 (-1), .int .i64 65535, .int .i64 65536]) (cs := [.int .i64 (-1), .int .i64 65535, .int .i64 65536]) (xs := ([(-1), 65535, 65536] : List Int)) hs hw El22 rfl rfl rfl rfl rfl rfl ⟨⟨_, rfl, rfl⟩, ⟨⟨_, rfl, rfl⟩, ⟨⟨_, rfl, rfl⟩, rfl⟩⟩⟩ rfl trivial rfl fun b1184 a w hs hw => ?_
             obtain ⟨rv1186, h1185, hsh⟩ := bind_t hsh
             obtain ⟨Sv1190, hw⟩ := w_share (α := Int) hw 0 rfl 0 rfl
             refine st_callR hs (made_Dice_Pick_ok h1185 hw.dom (hw.ins [0] (by decide) rfl) (hw.envAt 2 rfl) (hw.envAt 0 rfl)) (do_call Try.call36 rfl) trivial rfl rfl ?_
             intro v1194 Sv1191 w a h1192 h1193 hs
             obtain ⟨p1187, k1188, rfl, h1195, h1189⟩ := h1193
             have hw := hw.callO [0] [1, 2, 3] (by decide) rfl h1192 h1195
             have hw := hw.addE (e := SlA p1187 rv1186.2.L.length k1188 rv1186.2.L) h1189
             refine st_val hs (y_fieldAddr (o' := 9) Try.runUnderlying32 rfl Try.sizeOf3 rfl rfl rfl) trivial rfl rfl fun a hs => ?_
             refine w_store (m := 1) (cs' := [.string r6.Source.Network, .string r6.Source.Station, .string r6.Source.Location, .string r6.Source.Channel, .int .i64 r6.Start, .int .i64 r6.First, .int .i64 r6.Rate.Num, .int .i64 r6.Rate.Den, .int .i64 r6.Error, .int .i64 rv1186.1, .int .i64 r6.Seq, .slice p14 l13.length k15]) hs hw 3 rfl rfl rfl Try.sizeOf3 rfl rfl rfl rfl trivial ?_
             intro a w hs hw
             refine wpList_nil ?_
             refine then_normal ?_
             have hw := hw.addE (e := SlA (α := Int) none 0 0 []) nil_sl
             exact ⟨rv1186.2.L, rv1186.2.At, rv1186.1, r6.Seq, l13, p1187, k1188, c16, p14, k15, Sv1191, hsh, (hs.wk rfl), (hw.ft [0, 3, 2, 1] [1, 0, 5] (by decide) rfl rfl)⟩
            ·have hsh := ite_f hsh h1182
             refine wp_seq ?_
             refine wp_region_lit ?_
             refine st_val hs (y_eql rfl rfl) trivial rfl rfl fun a hs => ?_
             refine st_val hs (y_assign rfl) trivial rfl rfl fun a hs => ?_
             refine wpList_nil ?_
             refine then_normal ?_
             refine wp_join (fun a w => ∃ (x1247 : (List Int)) (x1248 : Int) (x1249 : Int) (x1250 : (List Int)) (p1241 : Option Addr) (k1242 : Nat) (c1243 : List Value) (p1244 : Option Addr) (k1245 : Nat) (Sv1246 : Nat → Prop), made_Dice_OddRecord_j7 r6 x1247 x1248 x1249 x1250 = some r ∧ Sl 66 [(3, .pointer (some ⟨b10, 0, none⟩)), (4, .pointer (some ⟨b11, 0, none⟩))] a ∧ Wd ⟨w0, S0, blks [.box b2 [.slice p3 d1.L.length k4, .int .i64 d1.At] 60]⟩ Sv1246 [.box b2 [.slice p1241 x1247.length k1242, .int .i64 x1248] 60, .box b10 [.string r6.Source.Network, .string r6.Source.Station, .string r6.Source.Location, .string r6.Source.Channel, .int .i64 r6.Start, .int .i64 r6.First, .int .i64 r6.Rate.Num, .int .i64 r6.Rate.Den, .int .i64 r6.Error, .int .i64 r6.Run, .int .i64 x1249, .slice p1244 x1250.length k1245] 32, .box b11 [.string ByteArray.empty, .string ByteArray.empty, .string ByteArray.empty, .string ByteArray.empty, .int .i64 0, .int .i64 0, .int .i64 0, .int .i64 0, .int .i64 0, .int .i64 0, .int .i64 0, .slice none ([] : List Int).length 0] 32, .row p1244 x1250.length k1245 c1243 3 1] [SlA p1241 x1247.length k1242 x1247, SlA none ([] : List Int).length 0 ([] : List Int), RowA c1243 x1250] w) ?_ ?_
             ·refine wp_cond_split (hs.ev rfl) (fun h1251 => ?_) (fun h1251 => ?_)
              ·have hsh := ite_t hsh h1251
               refine wp_region_lit ?_
               refine st_val hs (y_move rfl) trivial rfl rfl fun a hs => ?_
               refine w_litSlice (α := Int) (vs := [.int .i64 (-1), .int .i64 1073741824, .int .i64 1073741825]) (cs := [.int .i64 (-1), .int .i64 1073741824, .int .i64 1073741825]) (xs := ([(-1), 1073741824, 1073741825] : List Int)) hs hw El22 rfl rfl rfl rfl rfl rfl ⟨⟨_, rfl, rfl⟩, ⟨⟨_, rfl, rfl⟩, ⟨⟨_, rfl, rfl⟩, rfl⟩⟩⟩ rfl trivial rfl fun b1253 a w hs hw => ?_
               obtain ⟨rv1255, h1254, hsh⟩ := bind_t hsh
               obtain ⟨Sv1259, hw⟩ := w_share (α := Int) hw 0 rfl 0 rfl
               refine st_callR hs (made_Dice_Pick_ok h1254 hw.dom (hw.ins [0] (by decide) rfl) (hw.envAt 2 rfl) (hw.envAt 0 rfl)) (do_call Try.call36 rfl) trivial rfl rfl ?_
               intro v1263 Sv1260 w a h1261 h1262 hs
               obtain ⟨p1256, k1257, rfl, h1264, h1258⟩ := h1262
               have hw := hw.callO [0] [1, 2, 3] (by decide) rfl h1261 h1264
               have hw := hw.addE (e := SlA p1256 rv1255.2.L.length k1257 rv1255.2.L) h1258
               refine st_val hs (y_fieldAddr (o' := 10) Try.runUnderlying32 rfl Try.sizeOf3 rfl rfl rfl) trivial rfl rfl fun a hs => ?_
               refine w_store (m := 1) (cs' := [.string r6.Source.Network, .string r6.Source.Station, .string r6.Source.Location, .string r6.Source.Channel, .int .i64 r6.Start, .int .i64 r6.First, .int .i64 r6.Rate.Num, .int .i64 r6.Rate.Den, .int .i64 r6.Error, .int .i64 r6.Run, .int .i64 rv1255.1, .slice p14 l13.length k15]) hs hw 3 rfl rfl rfl Try.sizeOf3 rfl rfl rfl rfl trivial ?_
               intro a w hs hw
               refine wpList_nil ?_
               refine then_normal ?_
               have hw := hw.addE (e := SlA (α := Int) none 0 0 []) nil_sl
               exact ⟨rv1255.2.L, rv1255.2.At, rv1255.1, l13, p1256, k1257, c16, p14, k15, Sv1260, hsh, (hs.wk rfl), (hw.ft [0, 3, 2, 1] [1, 0, 5] (by decide) rfl rfl)⟩
              ·have hsh := ite_f hsh h1251
               refine wp_seq ?_
               refine wp_region_lit ?_
               refine st_val hs (y_eql rfl rfl) trivial rfl rfl fun a hs => ?_
               refine st_val hs (y_assign rfl) trivial rfl rfl fun a hs => ?_
               refine wpList_nil ?_
               refine then_normal ?_
               refine wp_join (fun a w => ∃ (x1293 : (List Int)) (x1294 : Int) (x1295 : (List Int)) (p1287 : Option Addr) (k1288 : Nat) (c1289 : List Value) (p1290 : Option Addr) (k1291 : Nat) (Sv1292 : Nat → Prop), made_Dice_OddRecord_j8 r6 x1293 x1294 x1295 = some r ∧ Sl 66 [(3, .pointer (some ⟨b10, 0, none⟩)), (4, .pointer (some ⟨b11, 0, none⟩))] a ∧ Wd ⟨w0, S0, blks [.box b2 [.slice p3 d1.L.length k4, .int .i64 d1.At] 60]⟩ Sv1292 [.box b2 [.slice p1287 x1293.length k1288, .int .i64 x1294] 60, .box b10 [.string r6.Source.Network, .string r6.Source.Station, .string r6.Source.Location, .string r6.Source.Channel, .int .i64 r6.Start, .int .i64 r6.First, .int .i64 r6.Rate.Num, .int .i64 r6.Rate.Den, .int .i64 r6.Error, .int .i64 r6.Run, .int .i64 r6.Seq, .slice p1290 x1295.length k1291] 32, .box b11 [.string ByteArray.empty, .string ByteArray.empty, .string ByteArray.empty, .string ByteArray.empty, .int .i64 0, .int .i64 0, .int .i64 0, .int .i64 0, .int .i64 0, .int .i64 0, .int .i64 0, .slice none ([] : List Int).length 0] 32, .row p1290 x1295.length k1291 c1289 3 1] [SlA p1287 x1293.length k1288 x1293, SlA none ([] : List Int).length 0 ([] : List Int), RowA c1289 x1295] w) ?_ ?_
               ·refine wp_cond_split (hs.ev rfl) (fun h1296 => ?_) (fun h1296 => ?_)
                ·have hsh := ite_t hsh h1296
                 obtain ⟨rv1300, h1299, hsh⟩ := bind_t hsh
                 obtain ⟨l1307, h1306, hsh⟩ := bind_t hsh
                 refine wp_only (fun a w => ∃ (Sv1311 : Nat → Prop) (c1310 : List Value) (k1302 : Nat) (k1309 : Nat) (p1301 : Option Addr) (p1308 : Option Addr), Sl 66 [(3, .pointer (some ⟨b10, 0, none⟩)), (4, .pointer (some ⟨b11, 0, none⟩))] a ∧ Wd ⟨w0, S0, blks [.box b2 [.slice p3 d1.L.length k4, .int .i64 d1.At] 60]⟩ Sv1311 [.box b2 [.slice p1301 rv1300.2.L.length k1302, .int .i64 rv1300.2.At] 60, .box b10 [.string r6.Source.Network, .string r6.Source.Station, .string r6.Source.Location, .string r6.Source.Channel, .int .i64 r6.Start, .int .i64 r6.First, .int .i64 r6.Rate.Num, .int .i64 r6.Rate.Den, .int .i64 r6.Error, .int .i64 r6.Run, .int .i64 r6.Seq, .slice p1308 l1307.length k1309] 32, .box b11 [.string ByteArray.empty, .string ByteArray.empty, .string ByteArray.empty, .string ByteArray.empty, .int .i64 0, .int .i64 0, .int .i64 0, .int .i64 0, .int .i64 0, .int .i64 0, .int .i64 0, .slice none ([] : List Int).length 0] 32, .row p1308 l1307.length k1309 c1310 3 1] [SlA p1301 rv1300.2.L.length k1302 rv1300.2.L, SlA none ([] : List Int).length 0 ([] : List Int), RowA c1310 l1307] w) ?_ ?_
                 ·refine h_b (C := Cls [.box b11 [.string ByteArray.empty, .string ByteArray.empty, .string ByteArray.empty, .string ByteArray.empty, .int .i64 0, .int .i64 0, .int .i64 0, .int .i64 0, .int .i64 0, .int .i64 0, .int .i64 0, .slice none ([] : List Int).length 0] 32] []) (by kernel_rfl) rfl (hw.drew.cs [2] [] rfl rfl) fun hC => ?_
                  have hw := hw.drew
                  refine h_g hs 0 rfl (by kernel_rfl) rfl rfl hC rfl (fun w hC => y_fieldAddr (o' := 11) Try.runUnderlying32 rfl Try.sizeOf22 rfl rfl rfl) fun a hs => ?_
                  refine h_g hs 2 rfl (by kernel_rfl) rfl rfl hC rfl (fun w hC => y_move rfl) fun a hs => ?_
                  refine h_all (rs := [1, 3]) (by kernel_rfl) rfl ?_
                  refine AllH.cons rfl ?_ ?_
                  ·refine st_val hs (y_loadB1 (hw.ownAt 3 rfl) rfl Try.isAgg22 rfl) trivial rfl rfl fun a hs => ?_
                   refine h_nx (hw.cs [2] [] rfl rfl) fun hC => ?_
                   refine h_one (i := 3) (by kernel_rfl) rfl ?_
                   refine w_litSlice (α := Int) (vs := [.int .i64 1073741823, .int .i64 1073741824, .int .i64 (-1073741824)]) (cs := [.int .i64 1073741823, .int .i64 1073741824, .int .i64 (-1073741824)]) (xs := ([1073741823, 1073741824, (-1073741824)] : List Int)) hs hw El22 rfl rfl rfl rfl rfl rfl ⟨⟨_, rfl, rfl⟩, ⟨⟨_, rfl, rfl⟩, ⟨⟨_, rfl, rfl⟩, rfl⟩⟩⟩ rfl trivial rfl fun b1298 a w hs hw => ?_
                   refine h_nx (hw.cs [3] [] rfl rfl) fun hC => ?_
                   refine h_one (i := 4) (by kernel_rfl) rfl ?_
                   obtain ⟨Sv1312, hw⟩ := w_share (α := Int) hw 0 rfl 0 rfl
                   refine st_callR hs (made_Dice_Pick_ok h1299 hw.dom (hw.ins [0] (by decide) rfl) (hw.envAt 2 rfl) (hw.envAt 0 rfl)) (do_call Try.call36 rfl) trivial rfl rfl ?_
                   intro v1316 Sv1313 w a h1314 h1315 hs
                   obtain ⟨p1301, k1302, rfl, h1317, h1303⟩ := h1315
                   have hw := hw.callO [0] [1, 2, 3] (by decide) rfl h1314 h1317
                   have hw := hw.addE (e := SlA p1301 rv1300.2.L.length k1302 rv1300.2.L) h1303
                   refine h_nx (hw.cs [2] [] rfl rfl) fun hC => ?_
                   refine h_one (i := 5) (by kernel_rfl) rfl ?_
                   refine w_litSlice (α := Int) (vs := [.int .i64 rv1300.1]) (cs := [.int .i64 rv1300.1]) (xs := ([rv1300.1] : List Int)) hs hw El22 rfl rfl rfl rfl rfl rfl ⟨⟨_, rfl, rfl⟩, rfl⟩ rfl trivial rfl fun b1305 a w hs hw => ?_
                   refine h_nx (hw.cs [3] [] rfl rfl) fun hC => ?_
                   refine h_st (C' := Cls [.box b11 [.string ByteArray.empty, .string ByteArray.empty, .string ByteArray.empty, .string ByteArray.empty, .int .i64 0, .int .i64 0, .int .i64 0, .int .i64 0, .int .i64 0, .int .i64 0, .int .i64 0, .slice none ([] : List Int).length 0] 32, .row (some ⟨b1305, 0, none⟩) ([rv1300.1] : List Int).length ([rv1300.1] : List Int).length [.int .i64 rv1300.1] 3 1] []) (fun _ h => by exact h.sub [0] (Sel.of rfl) (AllIn.of [] rfl)) (hw.cs [3, 0] [] rfl rfl) fun hC => ?_
                   refine h_one (i := 6) (by kernel_rfl) rfl ?_
                   refine w_appendR (α := Int) hs hw El22 2 rfl rfl rfl 5 rfl 0 rfl 0 rfl h1306 rfl trivial ?_
                   intro p1308 k1309 c1310 a w hs hw
                   refine h_nx (hw.cs [3, 0] [] rfl rfl) fun hC => ?_
                   refine h_g hs 7 rfl (by kernel_rfl) rfl rfl hC rfl (fun w hC => y_fieldAddr (o' := 11) Try.runUnderlying32 rfl Try.sizeOf22 rfl rfl rfl) fun a hs => ?_
                   refine h_one (i := 8) (by kernel_rfl) rfl ?_
                   refine w_store (m := 1) (cs' := [.string r6.Source.Network, .string r6.Source.Station, .string r6.Source.Location, .string r6.Source.Channel, .int .i64 r6.Start, .int .i64 r6.First, .int .i64 r6.Rate.Num, .int .i64 r6.Rate.Den, .int .i64 r6.Error, .int .i64 r6.Run, .int .i64 r6.Seq, .slice p1308 l1307.length k1309]) hs hw 4 rfl rfl rfl Try.sizeOf22 rfl rfl rfl rfl trivial ?_
                   intro a w hs hw
                   refine h_nx (hw.cs [3, 0] [] rfl rfl) fun hC => ?_
                   refine h_done (by kernel_rfl) ?_
                   have hw := hw.addE (e := SlA (α := Int) none 0 0 []) nil_sl
                   exact ⟨Sv1313, c1310, k1302, k1309, p1301, p1308, (hs.wk rfl), (hw.ft [1, 4, 3, 2] [3, 0, 1] (by decide) rfl rfl)⟩
                  refine AllH.cons rfl ?_ ?_
                  ·refine w_litSlice (α := Int) (vs := [.int .i64 1073741823, .int .i64 1073741824, .int .i64 (-1073741824)]) (cs := [.int .i64 1073741823, .int .i64 1073741824, .int .i64 (-1073741824)]) (xs := ([1073741823, 1073741824, (-1073741824)] : List Int)) hs hw El22 rfl rfl rfl rfl rfl rfl ⟨⟨_, rfl, rfl⟩, ⟨⟨_, rfl, rfl⟩, ⟨⟨_, rfl, rfl⟩, rfl⟩⟩⟩ rfl trivial rfl fun b1298 a w hs hw => ?_
                   refine h_nx (hw.cs [3] [] rfl rfl) fun hC => ?_
                   refine h_all (rs := [1, 4]) (by kernel_rfl) rfl ?_
                   refine AllH.cons rfl ?_ ?_
                   ·refine st_val hs (y_loadB1 (hw.ownAt 4 rfl) rfl Try.isAgg22 rfl) trivial rfl rfl fun a hs => ?_
                    refine h_nx (hw.cs [3] [] rfl rfl) fun hC => ?_
                    refine h_one (i := 4) (by kernel_rfl) rfl ?_
                    obtain ⟨Sv1318, hw⟩ := w_share (α := Int) hw 0 rfl 0 rfl
                    refine st_callR hs (made_Dice_Pick_ok h1299 hw.dom (hw.ins [0] (by decide) rfl) (hw.envAt 2 rfl) (hw.envAt 0 rfl)) (do_call Try.call36 rfl) trivial rfl rfl ?_
                    intro v1322 Sv1319 w a h1320 h1321 hs
                    obtain ⟨p1301, k1302, rfl, h1323, h1303⟩ := h1321
                    have hw := hw.callO [0] [1, 2, 3] (by decide) rfl h1320 h1323
                    have hw := hw.addE (e := SlA p1301 rv1300.2.L.length k1302 rv1300.2.L) h1303
                    refine h_nx (hw.cs [2] [] rfl rfl) fun hC => ?_
                    refine h_one (i := 5) (by kernel_rfl) rfl ?_
                    refine w_litSlice (α := Int) (vs := [.int .i64 rv1300.1]) (cs := [.int .i64 rv1300.1]) (xs := ([rv1300.1] : List Int)) hs hw El22 rfl rfl rfl rfl rfl rfl ⟨⟨_, rfl, rfl⟩, rfl⟩ rfl trivial rfl fun b1305 a w hs hw => ?_
                    refine h_nx (hw.cs [3] [] rfl rfl) fun hC => ?_
                    refine h_st (C' := Cls [.box b11 [.string ByteArray.empty, .string ByteArray.empty, .string ByteArray.empty, .string ByteArray.empty, .int .i64 0, .int .i64 0, .int .i64 0, .int .i64 0, .int .i64 0, .int .i64 0, .int .i64 0, .slice none ([] : List Int).length 0] 32, .row (some ⟨b1305, 0, none⟩) ([rv1300.1] : List Int).length ([rv1300.1] : List Int).length [.int .i64 rv1300.1] 3 1] []) (fun _ h => by exact h.sub [0] (Sel.of rfl) (AllIn.of [] rfl)) (hw.cs [3, 0] [] rfl rfl) fun hC => ?_
                    refine h_one (i := 6) (by kernel_rfl) rfl ?_
                    refine w_appendR (α := Int) hs hw El22 2 rfl rfl rfl 5 rfl 0 rfl 0 rfl h1306 rfl trivial ?_
                    intro p1308 k1309 c1310 a w hs hw
                    refine h_nx (hw.cs [3, 0] [] rfl rfl) fun hC => ?_
                    refine h_g hs 7 rfl (by kernel_rfl) rfl rfl hC rfl (fun w hC => y_fieldAddr (o' := 11) Try.runUnderlying32 rfl Try.sizeOf22 rfl rfl rfl) fun a hs => ?_
                    refine h_one (i := 8) (by kernel_rfl) rfl ?_
                    refine w_store (m := 1) (cs' := [.string r6.Source.Network, .string r6.Source.Station, .string r6.Source.Location, .string r6.Source.Channel, .int .i64 r6.Start, .int .i64 r6.First, .int .i64 r6.Rate.Num, .int .i64 r6.Rate.Den, .int .i64 r6.Error, .int .i64 r6.Run, .int .i64 r6.Seq, .slice p1308 l1307.length k1309]) hs hw 4 rfl rfl rfl Try.sizeOf22 rfl rfl rfl rfl trivial ?_
                    intro a w hs hw
                    refine h_nx (hw.cs [3, 0] [] rfl rfl) fun hC => ?_
                    refine h_done (by kernel_rfl) ?_
                    have hw := hw.addE (e := SlA (α := Int) none 0 0 []) nil_sl
                    exact ⟨Sv1319, c1310, k1302, k1309, p1301, p1308, (hs.wk rfl), (hw.ft [1, 4, 3, 2] [3, 0, 1] (by decide) rfl rfl)⟩
                   refine AllH.cons rfl ?_ ?_
                   ·obtain ⟨Sv1324, hw⟩ := w_share (α := Int) hw 0 rfl 0 rfl
                    refine st_callR hs (made_Dice_Pick_ok h1299 hw.dom (hw.ins [0] (by decide) rfl) (hw.envAt 2 rfl) (hw.envAt 0 rfl)) (do_call Try.call36 rfl) trivial rfl rfl ?_
                    intro v1328 Sv1325 w a h1326 h1327 hs
                    obtain ⟨p1301, k1302, rfl, h1329, h1303⟩ := h1327
                    have hw := hw.callO [0] [1, 2, 3] (by decide) rfl h1326 h1329
                    have hw := hw.addE (e := SlA p1301 rv1300.2.L.length k1302 rv1300.2.L) h1303
                    refine h_nx (hw.cs [2] [] rfl rfl) fun hC => ?_
                    refine h_all (rs := [1, 5]) (by kernel_rfl) rfl ?_
                    refine AllH.cons rfl ?_ ?_
                    ·refine st_val hs (y_loadB1 (hw.ownAt 3 rfl) rfl Try.isAgg22 rfl) trivial rfl rfl fun a hs => ?_
                     refine h_nx (hw.cs [2] [] rfl rfl) fun hC => ?_
                     refine h_one (i := 5) (by kernel_rfl) rfl ?_
                     refine w_litSlice (α := Int) (vs := [.int .i64 rv1300.1]) (cs := [.int .i64 rv1300.1]) (xs := ([rv1300.1] : List Int)) hs hw El22 rfl rfl rfl rfl rfl rfl ⟨⟨_, rfl, rfl⟩, rfl⟩ rfl trivial rfl fun b1305 a w hs hw => ?_
                     refine h_nx (hw.cs [3] [] rfl rfl) fun hC => ?_
                     refine h_st (C' := Cls [.box b11 [.string ByteArray.empty, .string ByteArray.empty, .string ByteArray.empty, .string ByteArray.empty, .int .i64 0, .int .i64 0, .int .i64 0, .int .i64 0, .int .i64 0, .int .i64 0, .int .i64 0, .slice none ([] : List Int).length 0] 32, .row (some ⟨b1305, 0, none⟩) ([rv1300.1] : List Int).length ([rv1300.1] : List Int).length [.int .i64 rv1300.1] 3 1] []) (fun _ h => by exact h.sub [0] (Sel.of rfl) (AllIn.of [] rfl)) (hw.cs [3, 0] [] rfl rfl) fun hC => ?_
                     refine h_one (i := 6) (by kernel_rfl) rfl ?_
                     refine w_appendR (α := Int) hs hw El22 2 rfl rfl rfl 5 rfl 0 rfl 0 rfl h1306 rfl trivial ?_
                     intro p1308 k1309 c1310 a w hs hw
                     refine h_nx (hw.cs [3, 0] [] rfl rfl) fun hC => ?_
                     refine h_g hs 7 rfl (by kernel_rfl) rfl rfl hC rfl (fun w hC => y_fieldAddr (o' := 11) Try.runUnderlying32 rfl Try.sizeOf22 rfl rfl rfl) fun a hs => ?_
                     refine h_one (i := 8) (by kernel_rfl) rfl ?_
                     refine w_store (m := 1) (cs' := [.string r6.Source.Network, .string r6.Source.Station, .string r6.Source.Location, .string r6.Source.Channel, .int .i64 r6.Start, .int .i64 r6.First, .int .i64 r6.Rate.Num, .int .i64 r6.Rate.Den, .int .i64 r6.Error, .int .i64 r6.Run, .int .i64 r6.Seq, .slice p1308 l1307.length k1309]) hs hw 4 rfl rfl rfl Try.sizeOf22 rfl rfl rfl rfl trivial ?_
                     intro a w hs hw
                     refine h_nx (hw.cs [3, 0] [] rfl rfl) fun hC => ?_
                     refine h_done (by kernel_rfl) ?_
                     have hw := hw.addE (e := SlA (α := Int) none 0 0 []) nil_sl
                     exact ⟨Sv1325, c1310, k1302, k1309, p1301, p1308, (hs.wk rfl), (hw.ft [1, 4, 3, 2] [3, 0, 1] (by decide) rfl rfl)⟩
                    refine AllH.cons rfl ?_ ?_
                    ·refine w_litSlice (α := Int) (vs := [.int .i64 rv1300.1]) (cs := [.int .i64 rv1300.1]) (xs := ([rv1300.1] : List Int)) hs hw El22 rfl rfl rfl rfl rfl rfl ⟨⟨_, rfl, rfl⟩, rfl⟩ rfl trivial rfl fun b1305 a w hs hw => ?_
                     refine h_nx (hw.cs [3] [] rfl rfl) fun hC => ?_
                     refine h_st (C' := Cls [.box b11 [.string ByteArray.empty, .string ByteArray.empty, .string ByteArray.empty, .string ByteArray.empty, .int .i64 0, .int .i64 0, .int .i64 0, .int .i64 0, .int .i64 0, .int .i64 0, .int .i64 0, .slice none ([] : List Int).length 0] 32, .row (some ⟨b1305, 0, none⟩) ([rv1300.1] : List Int).length ([rv1300.1] : List Int).length [.int .i64 rv1300.1] 3 1] []) (fun _ h => by exact h.sub [0] (Sel.of rfl) (AllIn.of [] rfl)) (hw.cs [3, 0] [] rfl rfl) fun hC => ?_
                     refine h_one (i := 1) (by kernel_rfl) rfl ?_
                     refine st_val hs (y_loadB1 (hw.ownAt 4 rfl) rfl Try.isAgg22 rfl) trivial rfl rfl fun a hs => ?_
                     refine h_nx (hw.cs [3, 0] [] rfl rfl) fun hC => ?_
                     refine h_one (i := 6) (by kernel_rfl) rfl ?_
                     refine w_appendR (α := Int) hs hw El22 2 rfl rfl rfl 5 rfl 0 rfl 0 rfl h1306 rfl trivial ?_
                     intro p1308 k1309 c1310 a w hs hw
                     refine h_nx (hw.cs [3, 0] [] rfl rfl) fun hC => ?_
                     refine h_g hs 7 rfl (by kernel_rfl) rfl rfl hC rfl (fun w hC => y_fieldAddr (o' := 11) Try.runUnderlying32 rfl Try.sizeOf22 rfl rfl rfl) fun a hs => ?_
                     refine h_one (i := 8) (by kernel_rfl) rfl ?_
                     refine w_store (m := 1) (cs' := [.string r6.Source.Network, .string r6.Source.Station, .string r6.Source.Location, .string r6.Source.Channel, .int .i64 r6.Start, .int .i64 r6.First, .int .i64 r6.Rate.Num, .int .i64 r6.Rate.Den, .int .i64 r6.Error, .int .i64 r6.Run, .int .i64 r6.Seq, .slice p1308 l1307.length k1309]) hs hw 4 rfl rfl rfl Try.sizeOf22 rfl rfl rfl rfl trivial ?_
                     intro a w hs hw
                     refine h_nx (hw.cs [3, 0] [] rfl rfl) fun hC => ?_
                     refine h_done (by kernel_rfl) ?_
                     have hw := hw.addE (e := SlA (α := Int) none 0 0 []) nil_sl
                     exact ⟨Sv1325, c1310, k1302, k1309, p1301, p1308, (hs.wk rfl), (hw.ft [1, 4, 3, 2] [3, 0, 1] (by decide) rfl rfl)⟩
                    exact AllH.nil
                   exact AllH.nil
                  exact AllH.nil
                 ·rintro a w ⟨Sv1311, c1310, k1302, k1309, p1301, p1308, hs, hw⟩
                  refine then_normal ?_
                  exact ⟨rv1300.2.L, rv1300.2.At, l1307, p1301, k1302, c1310, p1308, k1309, Sv1311, hsh, (hs.wk rfl), (hw.ft [0, 1, 2, 3] [0, 1, 2] (by decide) rfl rfl)⟩
                ·have hsh := ite_f hsh h1296
                 refine wp_seq ?_
                 refine wp_region_lit ?_
                 refine st_val hs (y_eql rfl rfl) trivial rfl rfl fun a hs => ?_
                 refine st_val hs (y_assign rfl) trivial rfl rfl fun a hs => ?_
                 refine wpList_nil ?_
                 refine then_normal ?_
                 refine wp_join (fun a w => ∃ (x1335 : (List Int)) (c1331 : List Value) (p1332 : Option Addr) (k1333 : Nat) (Sv1334 : Nat → Prop), made_Dice_OddRecord_j9 r6 rv18 x1335 = some r ∧ Sl 66 [(3, .pointer (some ⟨b10, 0, none⟩)), (4, .pointer (some ⟨b11, 0, none⟩))] a ∧ Wd ⟨w0, S0, blks [.box b2 [.slice p3 d1.L.length k4, .int .i64 d1.At] 60]⟩ Sv1334 [.box b2 [.slice p19 rv18.2.L.length k20, .int .i64 rv18.2.At] 60, .box b10 [.string r6.Source.Network, .string r6.Source.Station, .string r6.Source.Location, .string r6.Source.Channel, .int .i64 r6.Start, .int .i64 r6.First, .int .i64 r6.Rate.Num, .int .i64 r6.Rate.Den, .int .i64 r6.Error, .int .i64 r6.Run, .int .i64 r6.Seq, .slice p1332 x1335.length k1333] 32, .box b11 [.string ByteArray.empty, .string ByteArray.empty, .string ByteArray.empty, .string ByteArray.empty, .int .i64 0, .int .i64 0, .int .i64 0, .int .i64 0, .int .i64 0, .int .i64 0, .int .i64 0, .slice none ([] : List Int).length 0] 32, .row p1332 x1335.length k1333 c1331 3 1] [SlA p19 rv18.2.L.length k20 rv18.2.L, SlA none ([] : List Int).length 0 ([] : List Int), RowA c1331 x1335] w) ?_ ?_
                 ·refine wp_cond_split (hs.ev rfl) (fun h1336 => ?_) (fun h1336 => ?_)
                  ·have hsh := ite_t hsh h1336
                   refine wp_region_lit ?_
                   refine st_val hs (y_fieldAddr (o' := 11) Try.runUnderlying32 rfl Try.sizeOf22 rfl rfl rfl) trivial rfl rfl fun a hs => ?_
                   refine w_store (m := 1) (cs' := [.string r6.Source.Network, .string r6.Source.Station, .string r6.Source.Location, .string r6.Source.Channel, .int .i64 r6.Start, .int .i64 r6.First, .int .i64 r6.Rate.Num, .int .i64 r6.Rate.Den, .int .i64 r6.Error, .int .i64 r6.Run, .int .i64 r6.Seq, .slice none ([] : List Int).length 0]) hs hw 3 rfl rfl rfl Try.sizeOf22 rfl rfl rfl rfl trivial ?_
                   intro a w hs hw
                   refine wpList_nil ?_
                   refine then_normal ?_
                   have hw := hw.nilRow Int 3
                   have hw := hw.addE (e := SlA (α := Int) none 0 0 []) nil_sl
                   exact ⟨([] : List Int), [], none, 0, Sv22, hsh, (hs.wk rfl), (hw.ft [1, 4, 3, 0] [2, 0, 1] (by decide) rfl rfl)⟩
                  ·have hsh := ite_f hsh h1336
                   refine wp_skip ?_
                   refine then_normal ?_
                   have hw := hw.addE (e := SlA (α := Int) none 0 0 []) nil_sl
                   exact ⟨l13, c16, p14, k15, Sv22, hsh, (hs.wk rfl), (hw.ft [0, 3, 2, 1] [1, 0, 2] (by decide) rfl rfl)⟩
                 ·rintro a w ⟨x1335, c1331, p1332, k1333, Sv1334, hsh, hs, hw⟩
                  delta made_Dice_OddRecord_j9 at hsh
                  refine then_normal ?_
                  exact ⟨rv18.2.L, rv18.2.At, x1335, p19, k20, c1331, p1332, k1333, Sv1334, hsh, (hs.wk rfl), (hw.ft [0, 1, 2, 3] [0, 1, 2] (by decide) rfl rfl)⟩
               ·rintro a w ⟨x1293, x1294, x1295, p1287, k1288, c1289, p1290, k1291, Sv1292, hsh, hs, hw⟩
                delta made_Dice_OddRecord_j8 at hsh
                refine then_normal ?_
                exact ⟨x1293, x1294, r6.Seq, x1295, p1287, k1288, c1289, p1290, k1291, Sv1292, hsh, (hs.wk rfl), (hw.ft [0, 1, 2, 3] [0, 1, 2] (by decide) rfl rfl)⟩
             ·rintro a w ⟨x1247, x1248, x1249, x1250, p1241, k1242, c1243, p1244, k1245, Sv1246, hsh, hs, hw⟩
              delta made_Dice_OddRecord_j7 at hsh
              refine then_normal ?_
              exact ⟨x1247, x1248, r6.Run, x1249, x1250, p1241, k1242, c1243, p1244, k1245, Sv1246, hsh, (hs.wk rfl), (hw.ft [0, 1, 2, 3] [0, 1, 2] (by decide) rfl rfl)⟩
           ·rintro a w ⟨x1177, x1178, x1179, x1180, x1181, p1171, k1172, c1173, p1174, k1175, Sv1176, hsh, hs, hw⟩
            delta made_Dice_OddRecord_j6 at hsh
            refine then_normal ?_
            exact ⟨x1177, x1178, r6.Error, x1179, x1180, x1181, p1171, k1172, c1173, p1174, k1175, Sv1176, hsh, (hs.wk rfl), (hw.ft [0, 1, 2, 3] [0, 1, 2] (by decide) rfl rfl)⟩
         ·rintro a w ⟨x1082, x1083, x1084, x1085, x1086, x1087, p1076, k1077, c1078, p1079, k1080, Sv1081, hsh, hs, hw⟩
          delta made_Dice_OddRecord_j5 at hsh
          refine then_normal ?_
          exact ⟨x1082, x1083, r6.Rate.Num, r6.Rate.Den, x1084, x1085, x1086, x1087, p1076, k1077, c1078, p1079, k1080, Sv1081, hsh, (hs.wk rfl), (hw.ft [0, 1, 2, 3] [0, 1, 2] (by decide) rfl rfl)⟩
       ·rintro a w ⟨x960, x961, x962, x963, x964, x965, x966, x967, p954, k955, c956, p957, k958, Sv959, hsh, hs, hw⟩
        delta made_Dice_OddRecord_j4 at hsh
        refine then_normal ?_
        exact ⟨x960, x961, r6.First, x962, x963, x964, x965, x966, x967, p954, k955, c956, p957, k958, Sv959, hsh, (hs.wk rfl), (hw.ft [0, 1, 2, 3] [0, 1, 2] (by decide) rfl rfl)⟩
     ·rintro a w ⟨x811, x812, x813, x814, x815, x816, x817, x818, x819, p805, k806, c807, p808, k809, Sv810, hsh, hs, hw⟩
      delta made_Dice_OddRecord_j3 at hsh
      refine then_normal ?_
      exact ⟨x811, x812, r6.Start, x813, x814, x815, x816, x817, x818, x819, p805, k806, c807, p808, k809, Sv810, hsh, (hs.wk rfl), (hw.ft [0, 1, 2, 3] [0, 1, 2] (by decide) rfl rfl)⟩
   ·rintro a w ⟨x633, x634, x635, x636, x637, x638, x639, x640, x641, x642, p627, k628, c629, p630, k631, Sv632, hsh, hs, hw⟩
    delta made_Dice_OddRecord_j2 at hsh
    refine then_normal ?_
    exact ⟨x633, x634, r6.Source.Station, x635, x636, x637, x638, x639, x640, x641, x642, p627, k628, c629, p630, k631, Sv632, hsh, (hs.wk rfl), (hw.ft [0, 1, 2, 3] [0, 1, 2] (by decide) rfl rfl)⟩
 ·rintro a w ⟨x438, x439, x440, x441, x442, x443, x444, x445, x446, x447, x448, p432, k433, c434, p435, k436, Sv437, hsh, hs, hw⟩
  delta made_Dice_OddRecord_j1 at hsh
  refine blk_normal ?_
  refine then_normal ?_
  refine wp_seq ?_
  refine wp_region_lit ?_
  refine st_val hs (y_loadBA (hw.ownAt 1 rfl) rfl Try.isAgg32 Try.sizeOf32 rfl rfl) trivial rfl rfl fun a hs => ?_
  refine w_store (m := 12) (cs' := [.string r6.Source.Network, .string x440, .string r6.Source.Location, .string r6.Source.Channel, .int .i64 x441, .int .i64 x442, .int .i64 x443, .int .i64 x444, .int .i64 x445, .int .i64 x446, .int .i64 x447, .slice p435 x448.length k436]) hs hw 2 rfl rfl rfl Try.sizeOf32 rfl rfl rfl rfl trivial ?_
  intro a w hs hw
  refine wpList_nil ?_
  refine then_normal ?_
  have hsh := Option.some.inj hsh
  subst hsh
  refine wp_ret ?_
  exact ret1 hs rfl (rv_cell hw 2 rfl rfl Try.isAgg32 Try.sizeOf32 rfl) (hw.ret ⟨p435, k436, c434, p432, k433, rfl, (hw.outs [3, 0] (by decide) rfl), (hw.envAt 2 rfl), (hw.envAt 0 rfl)⟩)

abbrev ref03_code_rd (w0 : World) (X : List Nat) (r : Bool) : (Nat → Prop) → World → Value → Prop := fun S w v => v = .bool r
set_option maxHeartbeats 4000000 in
set_option maxRecDepth 100000 in
theorem ref03_code_ok {w0 : World} {S0 : Nat → Prop} {s1 : ByteArray} {lo2 : Int} {hi3 : Int} {r : Bool} (hsh : ref03_code s1 lo2 hi3 = some r) (hS : ∀ b, S0 b → b < w0.heap.size) : Calls Try.prog 74 #[.string s1, .int .i64 lo2, .int .i64 hi3] w0 (Ret ([]) w0 S0 (ref03_code_rd w0 ([]) r)) := by
 refine calls_of_wp Try.func74 rfl ?_
 have hs := Sl.enter #[.string s1, .int .i64 lo2, .int .i64 hi3] 47 [(0, .string s1), (1, .int .i64 lo2), (2, .int .i64 hi3)] rfl ⟨rfl, rfl, rfl, trivial⟩
 have hw := Wd.enter (E := []) hS (fun _ h => (by cases h))
 delta ref03_code at hsh
 refine wp_seq ?_
 refine wp_region_lit ?_
 refine st_val hs (y_assign rfl) trivial rfl rfl fun a hs => ?_
 refine wpList_nil ?_
 refine then_normal ?_
 refine wp_seq ?_
 refine wp_seq ?_
 refine wp_region_lit ?_
 refine st_val hs (y_assign rfl) trivial rfl rfl fun a hs => ?_
 refine wpList_nil ?_
 refine then_normal ?_
 refine wp_block ?_
 refine wp_while (fun sv111 a w => ∃ (Sv181 : Nat → Prop), Sl 47 [(0, .string s1), (1, .int .i64 lo2), (2, .int .i64 hi3), (7, .int .i64 sv111)] a ∧ Wd ⟨w0, S0, []⟩ Sv181 [] [] w) 0 hsh ⟨S0, (hs.wk rfl), (hw.ft [] [] (by decide) rfl rfl)⟩ ?_
 repeat clear hsh
 rintro sv111 a w tv217 ⟨Sv181, hs, hw⟩ hsh hd216
 delta ref03_code_l2 at hsh
 refine wp_seq ?_
 refine wp_seq ?_
 refine wp_region_lit ?_
 refine st_val hs (y_move rfl) trivial rfl rfl fun a hs => ?_
 refine st_val hs (y_move rfl) trivial rfl rfl fun a hs => ?_
 refine st_val hs (y_lenS Try.runUnderlying9 rfl) trivial rfl rfl fun a hs => ?_
 refine st_val hs (y_lss rfl rfl) trivial rfl rfl fun a hs => ?_
 refine wpList_nil ?_
 refine then_normal ?_
 refine wp_cond_split (hs.ev rfl) (fun h221 => ?_) (fun h221 => ?_)
 ·have hsh := ite_t hsh h221
  refine wp_skip ?_
  refine then_normal ?_
  refine wp_seq ?_
  refine wp_block ?_
  refine wp_seq ?_
  refine wp_region_lit ?_
  refine st_val hs (y_move rfl) trivial rfl rfl fun a hs => ?_
  refine st_val hs (y_move rfl) trivial rfl rfl fun a hs => ?_
  obtain ⟨c254, h253, hsh⟩ := bind_t hsh
  refine st_val hs (y_indexSM Try.runUnderlying9 rfl rfl h253) trivial rfl rfl fun a hs => ?_
  refine st_val hs (y_geq rfl rfl) trivial rfl rfl fun a hs => ?_
  refine st_val hs (y_move rfl) trivial rfl rfl fun a hs => ?_
  obtain ⟨c258, hc258, hsh⟩ := bind_t hsh
  refine wpl_join 5 (fun a w => ∃ (Sv259 : Nat → Prop), Sl 47 [(0, .string s1), (1, .int .i64 lo2), (2, .int .i64 hi3), (7, .int .i64 sv111), (23, .bool c258)] a ∧ Wd ⟨w0, S0, []⟩ Sv259 [] [] w) ?_ ?_
  ·rcases Bool.eq_false_or_eq_true (decide (65 ≤ c254)) with h257 | h257
   ·have hs := hs.fix 18 (.bool true) rfl (vb h257)
    have hsh := ite_t hc258 h257
    refine st_val hs (y_move rfl) ⟨_, rfl, rfl⟩ rfl rfl fun a hs => ?_
    refine st_val hs (y_move rfl) ⟨_, rfl, rfl⟩ rfl rfl fun a hs => ?_
    obtain ⟨c261, h260, hsh⟩ := bind_t hsh
    refine st_val hs (y_indexSM Try.runUnderlying9 rfl rfl h260) ⟨_, rfl, rfl⟩ rfl rfl fun a hs => ?_
    refine st_val hs (y_leq rfl rfl) ⟨_, rfl, rfl⟩ rfl rfl fun a hs => ?_
    refine st_val hs (y_pickT rfl rfl) trivial rfl rfl fun a hs => ?_
    refine wpList_nil ?_
    have hsh := Option.some.inj hsh
    subst hsh
    refine then_normal ?_
    exact ⟨Sv181, (hs.wk rfl), (hw.ft [] [] (by decide) rfl rfl)⟩
   ·have hs := hs.fix 18 (.bool false) rfl (vb h257)
    have hsh := ite_f hc258 h257
    refine st_skip hs rfl rfl rfl rfl rfl fun a hs => ?_
    refine st_skip hs rfl rfl rfl rfl rfl fun a hs => ?_
    refine st_skip hs rfl rfl rfl rfl rfl fun a hs => ?_
    refine st_skip hs rfl rfl rfl rfl rfl fun a hs => ?_
    refine st_val hs (y_pickF rfl rfl) trivial rfl rfl fun a hs => ?_
    refine wpList_nil ?_
    have hsh := Option.some.inj hsh
    subst hsh
    refine then_normal ?_
    exact ⟨Sv181, (hs.wk rfl), (hw.ft [] [] (by decide) rfl rfl)⟩
  ·rintro a w ⟨Sv259, hs, hw⟩
   refine st_val hs (y_move rfl) trivial rfl rfl fun a hs => ?_
   obtain ⟨c272, hc272, hsh⟩ := bind_t hsh
   refine wpl_join 11 (fun a w => ∃ (Sv273 : Nat → Prop), Sl 47 [(0, .string s1), (1, .int .i64 lo2), (2, .int .i64 hi3), (7, .int .i64 sv111), (35, .bool c272)] a ∧ Wd ⟨w0, S0, []⟩ Sv273 [] [] w) ?_ ?_
   ·rcases Bool.eq_false_or_eq_true c258 with h271 | h271
    ·have hs := hs.fix 24 (.bool true) rfl (vb h271)
     have hsh := ite_t hc272 h271
     refine st_skip hs rfl rfl rfl rfl rfl fun a hs => ?_
     refine st_skip hs rfl rfl rfl rfl rfl fun a hs => ?_
     refine st_skip hs rfl rfl rfl rfl rfl fun a hs => ?_
     refine st_skip hs rfl rfl rfl rfl rfl fun a hs => ?_
     refine st_skip hs rfl rfl rfl rfl rfl fun a hs => ?_
     refine st_skipU hs rfl rfl rfl rfl rfl fun a hs => ?_
     refine st_skipU hs rfl rfl rfl rfl rfl fun a hs => ?_
     refine st_skipU hs rfl rfl rfl rfl rfl fun a hs => ?_
     refine st_skipU hs rfl rfl rfl rfl rfl fun a hs => ?_
     refine st_skip hs rfl rfl rfl rfl rfl fun a hs => ?_
     refine st_val hs (y_pickT rfl rfl) trivial rfl rfl fun a hs => ?_
     refine wpList_nil ?_
     have hsh := Option.some.inj hsh
     subst hsh
     refine then_normal ?_
     exact ⟨Sv259, (hs.wk rfl), (hw.ft [] [] (by decide) rfl rfl)⟩
    ·have hs := hs.fix 24 (.bool false) rfl (vb h271)
     have hsh := ite_f hc272 h271
     refine st_val hs (y_move rfl) ⟨_, rfl, rfl⟩ rfl rfl fun a hs => ?_
     refine st_val hs (y_move rfl) ⟨_, rfl, rfl⟩ rfl rfl fun a hs => ?_
     obtain ⟨c275, h274, hsh⟩ := bind_t hsh
     refine st_val hs (y_indexSM Try.runUnderlying9 rfl rfl h274) ⟨_, rfl, rfl⟩ rfl rfl fun a hs => ?_
     refine st_val hs (y_geq rfl rfl) ⟨_, rfl, rfl⟩ rfl rfl fun a hs => ?_
     refine st_val hs (y_move rfl) ⟨_, rfl, rfl⟩ rfl rfl fun a hs => ?_
     obtain ⟨c279, hc279, hsh⟩ := bind_t hsh
     refine wpl_join 5 (fun a w => ∃ (Sv280 : Nat → Prop), Sl 47 [(0, .string s1), (1, .int .i64 lo2), (2, .int .i64 hi3), (7, .int .i64 sv111), (24, .bool false), (25, .string s1), (26, .int .i64 sv111), (27, .int .u8 c275), (28, .bool (decide (48 ≤ c275))), (29, .bool c279.1), (34, .bool c279.2)] a ∧ Wd ⟨w0, S0, []⟩ Sv280 [] [] w) ?_ ?_
     ·rcases Bool.eq_false_or_eq_true (decide (48 ≤ c275)) with h278 | h278
      ·have hs := hs.fix 29 (.bool true) rfl (vb h278)
       have hsh := ite_t hc279 h278
       refine st_val hs (y_move rfl) ⟨_, rfl, rfl⟩ rfl rfl fun a hs => ?_
       refine st_val hs (y_move rfl) ⟨_, rfl, rfl⟩ rfl rfl fun a hs => ?_
       obtain ⟨c282, h281, hsh⟩ := bind_t hsh
       refine st_val hs (y_indexSM Try.runUnderlying9 rfl rfl h281) ⟨_, rfl, rfl⟩ rfl rfl fun a hs => ?_
       refine st_val hs (y_leq rfl rfl) ⟨_, rfl, rfl⟩ rfl rfl fun a hs => ?_
       refine st_val hs (y_pickT rfl rfl) ⟨_, rfl, rfl⟩ rfl rfl fun a hs => ?_
       refine wpList_nil ?_
       have hsh := Option.some.inj hsh
       subst hsh
       refine then_normal ?_
       exact ⟨Sv259, (hs.wk rfl), (hw.ft [] [] (by decide) rfl rfl)⟩
      ·have hs := hs.fix 29 (.bool false) rfl (vb h278)
       have hsh := ite_f hc279 h278
       refine st_skip hs rfl rfl rfl rfl rfl fun a hs => ?_
       refine st_skip hs rfl rfl rfl rfl rfl fun a hs => ?_
       refine st_skip hs rfl rfl rfl rfl rfl fun a hs => ?_
       refine st_skip hs rfl rfl rfl rfl rfl fun a hs => ?_
       refine st_val hs (y_pickF rfl rfl) ⟨_, rfl, rfl⟩ rfl rfl fun a hs => ?_
       refine wpList_nil ?_
       have hsh := Option.some.inj hsh
       subst hsh
       refine then_normal ?_
       exact ⟨Sv259, (hs.wk rfl), (hw.ft [] [] (by decide) rfl rfl)⟩
     ·rintro a w ⟨Sv280, hs, hw⟩
      refine st_val hs (y_pickF rfl rfl) trivial rfl rfl fun a hs => ?_
      refine wpList_nil ?_
      have hsh := Option.some.inj hsh
      subst hsh
      refine then_normal ?_
      exact ⟨Sv280, (hs.wk rfl), (hw.ft [] [] (by decide) rfl rfl)⟩
   ·rintro a w ⟨Sv273, hs, hw⟩
    refine st_val hs (y_not rfl) trivial rfl rfl fun a hs => ?_
    refine wpList_nil ?_
    refine then_normal ?_
    refine wp_cond_split (hs.ev rfl) (fun h284 => ?_) (fun h284 => ?_)
    ·have hsh := ite_t hsh h284
     refine wp_seq ?_
     refine wp_region_lit ?_
     refine st_val hs (y_assign rfl) trivial rfl rfl fun a hs => ?_
     refine wpList_nil ?_
     refine then_normal ?_
     have hsh := Option.some.inj hsh
     subst hsh
     have h285 := hd216 _ rfl
     subst h285
     refine wp_ret ?_
     refine blk_ret ?_
     refine then_ret ?_
     refine then_ret ?_
     refine blk_ret ?_
     refine then_ret ?_
     exact ret1 hs rfl (rv_tmp rfl) (hw.ret rfl)
    ·have hsh := ite_f hsh h284
     refine wp_skip ?_
     refine blk_normal ?_
     refine then_normal ?_
     refine wp_region_lit ?_
     refine st_val hs (y_move rfl) trivial rfl rfl fun a hs => ?_
     refine st_val hs (y_add rfl rfl) trivial rfl rfl fun a hs => ?_
     obtain ⟨i287, h286, hsh⟩ := bind_t hsh
     refine st_val hs (y_assignI rfl h286) trivial rfl rfl fun a hs => ?_
     refine wpList_nil ?_
     refine then_normal ?_
     exact ⟨_, (Option.some.inj hsh).symm, Sv273, (hs.wk rfl), (hw.ft [] [] (by decide) rfl rfl)⟩
 ·have hsh := ite_f hsh h221
  obtain ⟨rv290, hsh, h291⟩ := map_t hsh
  have h291 := (hd216 _ h291.symm).symm
  subst h291
  refine wp_exit ?_
  refine then_exit ?_
  refine then_exit ?_
  refine blk_exit ?_
  refine then_normal ?_
  refine wp_seq ?_
  refine wp_region_lit ?_
  refine st_val hs (y_move rfl) trivial rfl rfl fun a hs => ?_
  refine st_val hs (y_lenS Try.runUnderlying9 rfl) trivial rfl rfl fun a hs => ?_
  refine st_val hs (y_move rfl) trivial rfl rfl fun a hs => ?_
  refine st_val hs (y_geq rfl rfl) trivial rfl rfl fun a hs => ?_
  refine st_val hs (y_move rfl) trivial rfl rfl fun a hs => ?_
  refine wpl_join 5 (fun a w1 => w = w1 ∧ Sl 47 [(46, .bool ((decide (lo2 ≤ (s1.size : Int))) && (decide ((s1.size : Int) ≤ hi3))))] a) ?_ ?_
  ·rcases Bool.eq_false_or_eq_true (decide (lo2 ≤ (s1.size : Int))) with h288 | h288
   ·have hs := hs.fix 41 (.bool true) rfl (vb h288)
    refine st_val hs (y_move rfl) ⟨_, rfl, rfl⟩ rfl rfl fun a hs => ?_
    refine st_val hs (y_lenS Try.runUnderlying9 rfl) ⟨_, rfl, rfl⟩ rfl rfl fun a hs => ?_
    refine st_val hs (y_move rfl) ⟨_, rfl, rfl⟩ rfl rfl fun a hs => ?_
    refine st_val hs (y_leq rfl rfl) ⟨_, rfl, rfl⟩ rfl rfl fun a hs => ?_
    refine st_val hs (y_pickT rfl rfl) trivial rfl rfl fun a hs => ?_
    refine wpList_nil ?_
    refine then_normal ?_
    exact ⟨rfl, (hs.fix 46 (.bool ((decide (lo2 ≤ (s1.size : Int))) && (decide ((s1.size : Int) ≤ hi3)))) rfl (and_t h288)).weaken _ ⟨rfl, trivial⟩⟩
   ·have hs := hs.fix 41 (.bool false) rfl (vb h288)
    refine st_skip hs rfl rfl rfl rfl rfl fun a hs => ?_
    refine st_skip hs rfl rfl rfl rfl rfl fun a hs => ?_
    refine st_skip hs rfl rfl rfl rfl rfl fun a hs => ?_
    refine st_skip hs rfl rfl rfl rfl rfl fun a hs => ?_
    refine st_val hs (y_pickF rfl rfl) trivial rfl rfl fun a hs => ?_
    refine wpList_nil ?_
    refine then_normal ?_
    exact ⟨rfl, (hs.fix 46 (.bool ((decide (lo2 ≤ (s1.size : Int))) && (decide ((s1.size : Int) ≤ hi3)))) rfl (and_f h288)).weaken _ ⟨rfl, trivial⟩⟩
  ·rintro a w1 ⟨h289, hs⟩
   subst h289
   refine st_val hs (y_assign rfl) trivial rfl rfl fun a hs => ?_
   refine wpList_nil ?_
   refine then_normal ?_
   have hsh := Option.some.inj hsh
   subst hsh
   refine wp_ret ?_
   exact ret1 hs rfl (rv_tmp rfl) (hw.ret rfl)

abbrev ref03_Valid_rd (w0 : World) (X : List Nat) (r : Bool) : (Nat → Prop) → World → Value → Prop := fun S w v => v = .bool r
set_option maxHeartbeats 4000000 in
set_option maxRecDepth 100000 in
theorem ref03_Valid_ok {w0 : World} {S0 : Nat → Prop} {s1 : SourceID} {r : Bool} (hsh : ref03_Valid s1 = some r) (hS : ∀ b, S0 b → b < w0.heap.size) : Calls Try.prog 56 #[.agg #[.string s1.Network, .string s1.Station, .string s1.Location, .string s1.Channel]] w0 (Ret ([]) w0 S0 (ref03_Valid_rd w0 ([]) r)) := by
 refine calls_of_wp Try.func56 rfl ?_
 have hs := Sl.enter #[.agg #[.string s1.Network, .string s1.Station, .string s1.Location, .string s1.Channel]] 26 [(0, .agg #[.string s1.Network, .string s1.Station, .string s1.Location, .string s1.Channel])] rfl ⟨rfl, trivial⟩
 have hw := Wd.enter (E := []) hS (fun _ h => (by cases h))
 delta ref03_Valid at hsh
 refine wp_seq ?_
 refine wp_region_lit ?_
 refine w_box (cs := [.string s1.Network, .string s1.Station, .string s1.Location, .string s1.Channel]) hs hw rfl rfl rfl trivial ?_
 intro b2 a w hs hw
 refine st_val hs (y_assign rfl) trivial rfl rfl fun a hs => ?_
 refine wpList_nil ?_
 refine then_normal ?_
 refine wp_seq ?_
 refine wp_region_lit ?_
 refine st_val hs (y_fieldAddr (o' := 0) Try.runUnderlying28 rfl Try.sizeOf9 rfl rfl rfl) trivial rfl rfl fun a hs => ?_
 refine st_val hs (y_loadB1 (hw.ownAt 0 rfl) rfl Try.isAgg9 rfl) trivial rfl rfl fun a hs => ?_
 obtain ⟨rv4, h3, hsh⟩ := bind_t hsh
 refine st_callR hs (ref03_code_ok h3 hw.bdom) (do_call Try.call74 rfl) trivial rfl rfl ?_
 intro v8 Sv5 w a h6 h7 hs
 subst h7
 have hw := hw.callB h6
 refine st_val hs (y_move rfl) trivial rfl rfl fun a hs => ?_
 obtain ⟨c18, hc18, hsh⟩ := bind_t hsh
 refine wpl_join 4 (fun a w => ∃ (Sv19 : Nat → Prop), Sl 26 [(1, .pointer (some ⟨b2, 0, none⟩)), (10, .bool c18)] a ∧ Wd ⟨w0, S0, []⟩ Sv19 [.box b2 [.string s1.Network, .string s1.Station, .string s1.Location, .string s1.Channel] 28] [] w) ?_ ?_
 ·rcases Bool.eq_false_or_eq_true rv4 with h17 | h17
  ·have hs := hs.fix 6 (.bool true) rfl (vb h17)
   have hsh := ite_t hc18 h17
   refine st_val hs (y_fieldAddr (o' := 1) Try.runUnderlying28 rfl Try.sizeOf9 rfl rfl rfl) ⟨_, rfl, rfl⟩ rfl rfl fun a hs => ?_
   refine st_val hs (y_loadB1 (hw.ownAt 0 rfl) rfl Try.isAgg9 rfl) ⟨_, rfl, rfl⟩ rfl rfl fun a hs => ?_
   obtain ⟨rv21, h20, hsh⟩ := bind_t hsh
   refine st_callR hs (ref03_code_ok h20 hw.bdom) (do_call Try.call74 rfl) ⟨_, rfl, rfl⟩ rfl rfl ?_
   intro v25 Sv22 w a h23 h24 hs
   subst h24
   have hw := hw.callB h23
   refine st_val hs (y_pickT rfl rfl) trivial rfl rfl fun a hs => ?_
   refine wpList_nil ?_
   have hsh := Option.some.inj hsh
   subst hsh
   refine then_normal ?_
   exact ⟨S0, (hs.wk rfl), (hw.ft [0] [] (by decide) rfl rfl)⟩
  ·have hs := hs.fix 6 (.bool false) rfl (vb h17)
   have hsh := ite_f hc18 h17
   refine st_skip hs rfl rfl rfl rfl rfl fun a hs => ?_
   refine st_skip hs rfl rfl rfl rfl rfl fun a hs => ?_
   refine st_skip hs rfl rfl rfl rfl rfl fun a hs => ?_
   refine st_val hs (y_pickF rfl rfl) trivial rfl rfl fun a hs => ?_
   refine wpList_nil ?_
   have hsh := Option.some.inj hsh
   subst hsh
   refine then_normal ?_
   exact ⟨S0, (hs.wk rfl), (hw.ft [0] [] (by decide) rfl rfl)⟩
 ·rintro a w ⟨Sv19, hs, hw⟩
  refine st_val hs (y_move rfl) trivial rfl rfl fun a hs => ?_
  obtain ⟨c45, hc45, hsh⟩ := bind_t hsh
  refine wpl_join 9 (fun a w => ∃ (Sv46 : Nat → Prop), Sl 26 [(1, .pointer (some ⟨b2, 0, none⟩)), (20, .bool c45)] a ∧ Wd ⟨w0, S0, []⟩ Sv46 [.box b2 [.string s1.Network, .string s1.Station, .string s1.Location, .string s1.Channel] 28] [] w) ?_ ?_
  ·rcases Bool.eq_false_or_eq_true c18 with h44 | h44
   ·have hs := hs.fix 11 (.bool true) rfl (vb h44)
    have hsh := ite_t hc45 h44
    refine st_val hs (y_fieldAddr (o' := 2) Try.runUnderlying28 rfl Try.sizeOf9 rfl rfl rfl) ⟨_, rfl, rfl⟩ rfl rfl fun a hs => ?_
    refine st_val hs (y_loadB1 (hw.ownAt 0 rfl) rfl Try.isAgg9 rfl) ⟨_, rfl, rfl⟩ rfl rfl fun a hs => ?_
    refine st_val hs (y_eqlS rfl rfl) ⟨_, rfl, rfl⟩ rfl rfl fun a hs => ?_
    refine st_val hs (y_move rfl) ⟨_, rfl, rfl⟩ rfl rfl fun a hs => ?_
    obtain ⟨c55, hc55, hsh⟩ := bind_t hsh
    refine wpl_join 4 (fun a w => ∃ (Sv56 : Nat → Prop), Sl 26 [(1, .pointer (some ⟨b2, 0, none⟩)), (11, .bool true), (19, .bool c55)] a ∧ Wd ⟨w0, S0, []⟩ Sv56 [.box b2 [.string s1.Network, .string s1.Station, .string s1.Location, .string s1.Channel] 28] [] w) ?_ ?_
    ·rcases Bool.eq_false_or_eq_true (s1.Location.toList == (⟨#[]⟩ : ByteArray).toList) with h54 | h54
     ·have hs := hs.fix 15 (.bool true) rfl (vb h54)
      have hsh := ite_t hc55 h54
      refine st_skip hs rfl rfl rfl rfl rfl fun a hs => ?_
      refine st_skip hs rfl rfl rfl rfl rfl fun a hs => ?_
      refine st_skip hs rfl rfl rfl rfl rfl fun a hs => ?_
      refine st_val hs (y_pickT rfl rfl) ⟨_, rfl, rfl⟩ rfl rfl fun a hs => ?_
      refine wpList_nil ?_
      have hsh := Option.some.inj hsh
      subst hsh
      refine then_normal ?_
      exact ⟨Sv19, (hs.wk rfl), (hw.ft [0] [] (by decide) rfl rfl)⟩
     ·have hs := hs.fix 15 (.bool false) rfl (vb h54)
      have hsh := ite_f hc55 h54
      refine st_val hs (y_fieldAddr (o' := 2) Try.runUnderlying28 rfl Try.sizeOf9 rfl rfl rfl) ⟨_, rfl, rfl⟩ rfl rfl fun a hs => ?_
      refine st_val hs (y_loadB1 (hw.ownAt 0 rfl) rfl Try.isAgg9 rfl) ⟨_, rfl, rfl⟩ rfl rfl fun a hs => ?_
      obtain ⟨rv58, h57, hsh⟩ := bind_t hsh
      refine st_callR hs (ref03_code_ok h57 hw.bdom) (do_call Try.call74 rfl) ⟨_, rfl, rfl⟩ rfl rfl ?_
      intro v62 Sv59 w a h60 h61 hs
      subst h61
      have hw := hw.callB h60
      refine st_val hs (y_pickF rfl rfl) ⟨_, rfl, rfl⟩ rfl rfl fun a hs => ?_
      refine wpList_nil ?_
      have hsh := Option.some.inj hsh
      subst hsh
      refine then_normal ?_
      exact ⟨Sv19, (hs.wk rfl), (hw.ft [0] [] (by decide) rfl rfl)⟩
    ·rintro a w ⟨Sv56, hs, hw⟩
     refine st_val hs (y_pickT rfl rfl) trivial rfl rfl fun a hs => ?_
     refine wpList_nil ?_
     have hsh := Option.some.inj hsh
     subst hsh
     refine then_normal ?_
     exact ⟨Sv56, (hs.wk rfl), (hw.ft [0] [] (by decide) rfl rfl)⟩
   ·have hs := hs.fix 11 (.bool false) rfl (vb h44)
    have hsh := ite_f hc45 h44
    refine st_skip hs rfl rfl rfl rfl rfl fun a hs => ?_
    refine st_skip hs rfl rfl rfl rfl rfl fun a hs => ?_
    refine st_skip hs rfl rfl rfl rfl rfl fun a hs => ?_
    refine st_skip hs rfl rfl rfl rfl rfl fun a hs => ?_
    refine st_skipU hs rfl rfl rfl rfl rfl fun a hs => ?_
    refine st_skipU hs rfl rfl rfl rfl rfl fun a hs => ?_
    refine st_skipU hs rfl rfl rfl rfl rfl fun a hs => ?_
    refine st_skip hs rfl rfl rfl rfl rfl fun a hs => ?_
    refine st_val hs (y_pickF rfl rfl) trivial rfl rfl fun a hs => ?_
    refine wpList_nil ?_
    have hsh := Option.some.inj hsh
    subst hsh
    refine then_normal ?_
    exact ⟨Sv19, (hs.wk rfl), (hw.ft [0] [] (by decide) rfl rfl)⟩
  ·rintro a w ⟨Sv46, hs, hw⟩
   refine st_val hs (y_move rfl) trivial rfl rfl fun a hs => ?_
   obtain ⟨c72, hc72, hsh⟩ := bind_t hsh
   refine wpl_join 4 (fun a w => ∃ (Sv73 : Nat → Prop), Sl 26 [(25, .bool c72)] a ∧ Wd ⟨w0, S0, []⟩ Sv73 [] [] w) ?_ ?_
   ·rcases Bool.eq_false_or_eq_true c45 with h71 | h71
    ·have hs := hs.fix 21 (.bool true) rfl (vb h71)
     have hsh := ite_t hc72 h71
     refine st_val hs (y_fieldAddr (o' := 3) Try.runUnderlying28 rfl Try.sizeOf9 rfl rfl rfl) ⟨_, rfl, rfl⟩ rfl rfl fun a hs => ?_
     refine st_val hs (y_loadB1 (hw.ownAt 0 rfl) rfl Try.isAgg9 rfl) ⟨_, rfl, rfl⟩ rfl rfl fun a hs => ?_
     obtain ⟨rv75, h74, hsh⟩ := bind_t hsh
     refine st_callR hs (ref03_code_ok h74 hw.bdom) (do_call Try.call74 rfl) ⟨_, rfl, rfl⟩ rfl rfl ?_
     intro v79 Sv76 w a h77 h78 hs
     subst h78
     have hw := hw.callB h77
     refine st_val hs (y_pickT rfl rfl) trivial rfl rfl fun a hs => ?_
     refine wpList_nil ?_
     have hsh := Option.some.inj hsh
     subst hsh
     refine then_normal ?_
     exact ⟨Sv46, (hs.wk rfl), (hw.ft [] [] (by decide) rfl rfl)⟩
    ·have hs := hs.fix 21 (.bool false) rfl (vb h71)
     have hsh := ite_f hc72 h71
     refine st_skip hs rfl rfl rfl rfl rfl fun a hs => ?_
     refine st_skip hs rfl rfl rfl rfl rfl fun a hs => ?_
     refine st_skip hs rfl rfl rfl rfl rfl fun a hs => ?_
     refine st_val hs (y_pickF rfl rfl) trivial rfl rfl fun a hs => ?_
     refine wpList_nil ?_
     have hsh := Option.some.inj hsh
     subst hsh
     refine then_normal ?_
     exact ⟨Sv46, (hs.wk rfl), (hw.ft [] [] (by decide) rfl rfl)⟩
   ·rintro a w ⟨Sv73, hs, hw⟩
    refine st_val hs (y_assign rfl) trivial rfl rfl fun a hs => ?_
    refine wpList_nil ?_
    refine then_normal ?_
    have hsh := Option.some.inj hsh
    subst hsh
    refine wp_ret ?_
    exact ret1 hs rfl (rv_tmp rfl) (hw.ret rfl)

abbrev ref02_Valid_rd (w0 : World) (X : List Nat) (r : Bool) : (Nat → Prop) → World → Value → Prop := fun S w v => v = .bool r
set_option maxHeartbeats 4000000 in
set_option maxRecDepth 100000 in
theorem ref02_Valid_ok {w0 : World} {S0 : Nat → Prop} {r1 : Rate} {r : Bool} (hsh : ref02_Valid r1 = some r) (hS : ∀ b, S0 b → b < w0.heap.size) : Calls Try.prog 57 #[.agg #[.int .i64 r1.Num, .int .i64 r1.Den]] w0 (Ret ([]) w0 S0 (ref02_Valid_rd w0 ([]) r)) := by
 refine calls_of_wp Try.func57 rfl ?_
 have hs := Sl.enter #[.agg #[.int .i64 r1.Num, .int .i64 r1.Den]] 19 [(0, .agg #[.int .i64 r1.Num, .int .i64 r1.Den])] rfl ⟨rfl, trivial⟩
 have hw := Wd.enter (E := []) hS (fun _ h => (by cases h))
 delta ref02_Valid at hsh
 refine wp_seq ?_
 refine wp_region_lit ?_
 refine w_box (cs := [.int .i64 r1.Num, .int .i64 r1.Den]) hs hw rfl rfl rfl trivial ?_
 intro b2 a w hs hw
 refine st_val hs (y_assign rfl) trivial rfl rfl fun a hs => ?_
 refine wpList_nil ?_
 refine then_normal ?_
 refine wp_seq ?_
 refine wp_region_lit ?_
 refine st_val hs (y_fieldAddr (o' := 0) Try.runUnderlying30 rfl Try.sizeOf3 rfl rfl rfl) trivial rfl rfl fun a hs => ?_
 refine st_val hs (y_loadB1 (hw.ownAt 0 rfl) rfl Try.isAgg3 rfl) trivial rfl rfl fun a hs => ?_
 obtain ⟨rv4, h3, hsh⟩ := bind_t hsh
 refine st_callR hs (ref01_In_ok h3 hw.bdom) (do_call Try.call46 rfl) trivial rfl rfl ?_
 intro v8 Sv5 w a h6 h7 hs
 subst h7
 have hw := hw.callB h6
 refine st_val hs (y_move rfl) trivial rfl rfl fun a hs => ?_
 obtain ⟨c18, hc18, hsh⟩ := bind_t hsh
 refine wpl_join 4 (fun a w => ∃ (Sv19 : Nat → Prop), Sl 19 [(1, .pointer (some ⟨b2, 0, none⟩)), (10, .bool c18)] a ∧ Wd ⟨w0, S0, []⟩ Sv19 [.box b2 [.int .i64 r1.Num, .int .i64 r1.Den] 30] [] w) ?_ ?_
 ·rcases Bool.eq_false_or_eq_true rv4 with h17 | h17
  ·have hs := hs.fix 6 (.bool true) rfl (vb h17)
   have hsh := ite_t hc18 h17
   refine st_val hs (y_fieldAddr (o' := 1) Try.runUnderlying30 rfl Try.sizeOf3 rfl rfl rfl) ⟨_, rfl, rfl⟩ rfl rfl fun a hs => ?_
   refine st_val hs (y_loadB1 (hw.ownAt 0 rfl) rfl Try.isAgg3 rfl) ⟨_, rfl, rfl⟩ rfl rfl fun a hs => ?_
   obtain ⟨rv21, h20, hsh⟩ := bind_t hsh
   refine st_callR hs (ref01_In_ok h20 hw.bdom) (do_call Try.call46 rfl) ⟨_, rfl, rfl⟩ rfl rfl ?_
   intro v25 Sv22 w a h23 h24 hs
   subst h24
   have hw := hw.callB h23
   refine st_val hs (y_pickT rfl rfl) trivial rfl rfl fun a hs => ?_
   refine wpList_nil ?_
   have hsh := Option.some.inj hsh
   subst hsh
   refine then_normal ?_
   exact ⟨S0, (hs.wk rfl), (hw.ft [0] [] (by decide) rfl rfl)⟩
  ·have hs := hs.fix 6 (.bool false) rfl (vb h17)
   have hsh := ite_f hc18 h17
   refine st_skip hs rfl rfl rfl rfl rfl fun a hs => ?_
   refine st_skip hs rfl rfl rfl rfl rfl fun a hs => ?_
   refine st_skip hs rfl rfl rfl rfl rfl fun a hs => ?_
   refine st_val hs (y_pickF rfl rfl) trivial rfl rfl fun a hs => ?_
   refine wpList_nil ?_
   have hsh := Option.some.inj hsh
   subst hsh
   refine then_normal ?_
   exact ⟨S0, (hs.wk rfl), (hw.ft [0] [] (by decide) rfl rfl)⟩
 ·rintro a w ⟨Sv19, hs, hw⟩
  refine st_val hs (y_move rfl) trivial rfl rfl fun a hs => ?_
  obtain ⟨c35, hc35, hsh⟩ := bind_t hsh
  refine wpl_join 7 (fun a w => ∃ (Sv36 : Nat → Prop), Sl 19 [(18, .bool c35)] a ∧ Wd ⟨w0, S0, []⟩ Sv36 [] [] w) ?_ ?_
  ·rcases Bool.eq_false_or_eq_true c18 with h34 | h34
   ·have hs := hs.fix 11 (.bool true) rfl (vb h34)
    have hsh := ite_t hc35 h34
    refine st_val hs (y_fieldAddr (o' := 0) Try.runUnderlying30 rfl Try.sizeOf3 rfl rfl rfl) ⟨_, rfl, rfl⟩ rfl rfl fun a hs => ?_
    refine st_val hs (y_loadB1 (hw.ownAt 0 rfl) rfl Try.isAgg3 rfl) ⟨_, rfl, rfl⟩ rfl rfl fun a hs => ?_
    refine st_val hs (y_fieldAddr (o' := 1) Try.runUnderlying30 rfl Try.sizeOf3 rfl rfl rfl) ⟨_, rfl, rfl⟩ rfl rfl fun a hs => ?_
    refine st_val hs (y_loadB1 (hw.ownAt 0 rfl) rfl Try.isAgg3 rfl) ⟨_, rfl, rfl⟩ rfl rfl fun a hs => ?_
    obtain ⟨rv38, h37, hsh⟩ := bind_t hsh
    refine st_callR hs (ref02_gcd_ok h37 hw.bdom) (do_call Try.call63 rfl) ⟨_, rfl, rfl⟩ rfl rfl ?_
    intro v42 Sv39 w a h40 h41 hs
    subst h41
    have hw := hw.callB h40
    refine st_val hs (y_eql rfl rfl) ⟨_, rfl, rfl⟩ rfl rfl fun a hs => ?_
    refine st_val hs (y_pickT rfl rfl) trivial rfl rfl fun a hs => ?_
    refine wpList_nil ?_
    have hsh := Option.some.inj hsh
    subst hsh
    refine then_normal ?_
    exact ⟨Sv19, (hs.wk rfl), (hw.ft [] [] (by decide) rfl rfl)⟩
   ·have hs := hs.fix 11 (.bool false) rfl (vb h34)
    have hsh := ite_f hc35 h34
    refine st_skip hs rfl rfl rfl rfl rfl fun a hs => ?_
    refine st_skip hs rfl rfl rfl rfl rfl fun a hs => ?_
    refine st_skip hs rfl rfl rfl rfl rfl fun a hs => ?_
    refine st_skip hs rfl rfl rfl rfl rfl fun a hs => ?_
    refine st_skip hs rfl rfl rfl rfl rfl fun a hs => ?_
    refine st_skip hs rfl rfl rfl rfl rfl fun a hs => ?_
    refine st_val hs (y_pickF rfl rfl) trivial rfl rfl fun a hs => ?_
    refine wpList_nil ?_
    have hsh := Option.some.inj hsh
    subst hsh
    refine then_normal ?_
    exact ⟨Sv19, (hs.wk rfl), (hw.ft [] [] (by decide) rfl rfl)⟩
  ·rintro a w ⟨Sv36, hs, hw⟩
   refine st_val hs (y_assign rfl) trivial rfl rfl fun a hs => ?_
   refine wpList_nil ?_
   refine then_normal ?_
   have hsh := Option.some.inj hsh
   subst hsh
   refine wp_ret ?_
   exact ret1 hs rfl (rv_tmp rfl) (hw.ret rfl)

abbrev ref05_Sample_rd (w0 : World) (X : List Nat) (r : Bool) : (Nat → Prop) → World → Value → Prop := fun S w v => v = .bool r
set_option maxHeartbeats 4000000 in
set_option maxRecDepth 100000 in
theorem ref05_Sample_ok {w0 : World} {S0 : Nat → Prop} {n1 : Int} {r : Bool} (hsh : ref05_Sample n1 = some r) (hS : ∀ b, S0 b → b < w0.heap.size) : Calls Try.prog 75 #[.int .i64 n1] w0 (Ret ([]) w0 S0 (ref05_Sample_rd w0 ([]) r)) := by
 refine calls_of_wp Try.func75 rfl ?_
 have hs := Sl.enter #[.int .i64 n1] 5 [(0, .int .i64 n1)] rfl ⟨rfl, trivial⟩
 have hw := Wd.enter (E := []) hS (fun _ h => (by cases h))
 delta ref05_Sample at hsh
 refine wp_seq ?_
 refine wp_region_lit ?_
 refine st_val hs (y_assign rfl) trivial rfl rfl fun a hs => ?_
 refine wpList_nil ?_
 refine then_normal ?_
 refine wp_seq ?_
 refine wp_region_lit ?_
 refine st_val hs (y_move rfl) trivial rfl rfl fun a hs => ?_
 obtain ⟨rv3, h2, hsh⟩ := bind_t hsh
 refine st_callR hs (ref01_In_ok h2 hw.bdom) (do_call Try.call46 rfl) trivial rfl rfl ?_
 intro v7 Sv4 w a h5 h6 hs
 subst h6
 have hw := hw.callB h5
 refine st_val hs (y_assign rfl) trivial rfl rfl fun a hs => ?_
 refine wpList_nil ?_
 refine then_normal ?_
 have hsh := Option.some.inj hsh
 subst hsh
 refine wp_ret ?_
 exact ret1 hs rfl (rv_tmp rfl) (hw.ret rfl)

abbrev ref05_InRange_rd (w0 : World) (X : List Nat) (r : Bool) : (Nat → Prop) → World → Value → Prop := fun S w v => v = .bool r
set_option maxHeartbeats 4000000 in
set_option maxRecDepth 100000 in
theorem ref05_InRange_ok {w0 : World} {S0 : Nat → Prop} {p2 : Option Addr} {k3 : Nat} {l1 : (List Int)} {r : Bool} (hsh : ref05_InRange l1 = some r) (hS : ∀ b, S0 b → b < w0.heap.size) (h4 : (SlA p2 l1.length k3 l1).p S0 w0) : Calls Try.prog 58 #[.slice p2 l1.length k3] w0 (Ret ([]) w0 S0 (ref05_InRange_rd w0 ([]) r)) := by
 refine calls_of_wp Try.func58 rfl ?_
 have hs := Sl.enter #[.slice p2 l1.length k3] 16 [(0, .slice p2 l1.length k3)] rfl ⟨rfl, trivial⟩
 have hw := Wd.enter (E := []) hS (fun _ h => (by cases h))
 have hw := hw.addE h4
 delta ref05_InRange at hsh
 refine wp_seq ?_
 refine wp_region_lit ?_
 refine st_val hs (y_assign rfl) trivial rfl rfl fun a hs => ?_
 refine wpList_nil ?_
 refine then_normal ?_
 refine wp_seq ?_
 refine wp_seq ?_
 refine wp_region_lit ?_
 refine st_val hs (y_assign rfl) trivial rfl rfl fun a hs => ?_
 refine wpList_nil ?_
 refine then_normal ?_
 refine wp_block ?_
 refine wp_while (fun sv82 a w => ∃ (Sv132 : Nat → Prop), Sl 16 [(0, .slice p2 l1.length k3), (3, .int .i64 sv82)] a ∧ Wd ⟨w0, S0, []⟩ Sv132 [] [SlA p2 l1.length k3 l1] w) 0 hsh ⟨S0, (hs.wk rfl), (hw.ft [] [0] (by decide) rfl rfl)⟩ ?_
 repeat clear hsh
 rintro sv82 a w tv158 ⟨Sv132, hs, hw⟩ hsh hd157
 delta ref05_InRange_l2 at hsh
 refine wp_seq ?_
 refine wp_seq ?_
 refine wp_region_lit ?_
 refine st_val hs (y_move rfl) trivial rfl rfl fun a hs => ?_
 refine st_val hs (y_move rfl) trivial rfl rfl fun a hs => ?_
 refine st_val hs (y_len Try.runUnderlying22 rfl) trivial rfl rfl fun a hs => ?_
 refine st_val hs (y_lss rfl rfl) trivial rfl rfl fun a hs => ?_
 refine wpList_nil ?_
 refine then_normal ?_
 refine wp_cond_split (hs.ev rfl) (fun h162 => ?_) (fun h162 => ?_)
 ·have hsh := ite_t hsh h162
  refine wp_skip ?_
  refine then_normal ?_
  refine wp_seq ?_
  refine wp_block ?_
  refine wp_seq ?_
  refine wp_region_lit ?_
  refine st_val hs (y_move rfl) trivial rfl rfl fun a hs => ?_
  refine st_val hs (y_move rfl) trivial rfl rfl fun a hs => ?_
  obtain ⟨x186, h184, hsh⟩ := bind_t hsh
  obtain ⟨b192, o193, q190, c191, h194, h187, h188, h189, h185⟩ := hw.elemV 0 rfl h184
  have hsv195 := hs
  have hwv196 := hw
  subst h194
  have hs := hsv195
  have hw := hwv196
  obtain ⟨_, rfl, rfl⟩ := h185
  have hw := hw.addE h189
  refine st_val hs (y_indexAt Try.runUnderlying22 Try.sizeOf3 rfl rfl h187.1 h187.2 h188) trivial rfl rfl fun a hs => ?_
  refine st_val hs (y_loadE1 (j := 0) (hw.ceAt 0 rfl) rfl Try.isAgg3 rfl) trivial rfl rfl fun a hs => ?_
  obtain ⟨rv198, h197, hsh⟩ := bind_t hsh
  refine st_callR hs (ref05_Sample_ok h197 hw.bdom) (do_call Try.call75 rfl) trivial rfl rfl ?_
  intro v202 Sv199 w a h200 h201 hs
  subst h201
  have hw := hw.callB h200
  refine st_val hs (y_not rfl) trivial rfl rfl fun a hs => ?_
  refine wpList_nil ?_
  refine then_normal ?_
  refine wp_cond_split (hs.ev rfl) (fun h205 => ?_) (fun h205 => ?_)
  ·have hsh := ite_t hsh h205
   refine wp_seq ?_
   refine wp_region_lit ?_
   refine st_val hs (y_assign rfl) trivial rfl rfl fun a hs => ?_
   refine wpList_nil ?_
   refine then_normal ?_
   have hsh := Option.some.inj hsh
   subst hsh
   have h206 := hd157 _ rfl
   subst h206
   refine wp_ret ?_
   refine blk_ret ?_
   refine then_ret ?_
   refine then_ret ?_
   refine blk_ret ?_
   refine then_ret ?_
   exact ret1 hs rfl (rv_tmp rfl) (hw.ret rfl)
  ·have hsh := ite_f hsh h205
   refine wp_skip ?_
   refine blk_normal ?_
   refine then_normal ?_
   refine wp_region_lit ?_
   refine st_val hs (y_move rfl) trivial rfl rfl fun a hs => ?_
   refine st_val hs (y_add rfl rfl) trivial rfl rfl fun a hs => ?_
   obtain ⟨i208, h207, hsh⟩ := bind_t hsh
   refine st_val hs (y_assignI rfl h207) trivial rfl rfl fun a hs => ?_
   refine wpList_nil ?_
   refine then_normal ?_
   exact ⟨_, (Option.some.inj hsh).symm, Sv132, (hs.wk rfl), (hw.ft [] [1] (by decide) rfl rfl)⟩
 ·have hsh := ite_f hsh h162
  obtain ⟨rv209, hsh, h210⟩ := map_t hsh
  have h210 := (hd157 _ h210.symm).symm
  subst h210
  refine wp_exit ?_
  refine then_exit ?_
  refine then_exit ?_
  refine blk_exit ?_
  refine then_normal ?_
  refine wp_seq ?_
  refine wp_region_lit ?_
  refine st_val hs (y_assign rfl) trivial rfl rfl fun a hs => ?_
  refine wpList_nil ?_
  refine then_normal ?_
  have hsh := Option.some.inj hsh
  subst hsh
  refine wp_ret ?_
  exact ret1 hs rfl (rv_tmp rfl) (hw.ret rfl)

abbrev ref02_Time_rd (w0 : World) (X : List Nat) (r : (Int × Int)) : (Nat → Prop) → World → Value → Prop := fun S w v => v = .tuple #[.int .i64 r.1, .int .i64 r.2]
set_option maxHeartbeats 4000000 in
set_option maxRecDepth 100000 in
theorem ref02_Time_ok {w0 : World} {S0 : Nat → Prop} {start1 : Int} {r2 : Rate} {k3 : Int} {r : (Int × Int)} (hsh : ref02_Time start1 r2 k3 = some r) (hS : ∀ b, S0 b → b < w0.heap.size) : Calls Try.prog 65 #[.int .i64 start1, .agg #[.int .i64 r2.Num, .int .i64 r2.Den], .int .i64 k3] w0 (Ret ([]) w0 S0 (ref02_Time_rd w0 ([]) r)) := by
 refine calls_of_wp Try.func65 rfl ?_
 have hs := Sl.enter #[.int .i64 start1, .agg #[.int .i64 r2.Num, .int .i64 r2.Den], .int .i64 k3] 29 [(0, .int .i64 start1), (1, .agg #[.int .i64 r2.Num, .int .i64 r2.Den]), (2, .int .i64 k3)] rfl ⟨rfl, rfl, rfl, trivial⟩
 have hw := Wd.enter (E := []) hS (fun _ h => (by cases h))
 delta ref02_Time at hsh
 refine wp_seq ?_
 refine wp_region_lit ?_
 refine w_box (cs := [.int .i64 r2.Num, .int .i64 r2.Den]) hs hw rfl rfl rfl trivial ?_
 intro b4 a w hs hw
 refine st_val hs (y_assign rfl) trivial rfl rfl fun a hs => ?_
 refine st_val hs (y_assign rfl) trivial rfl rfl fun a hs => ?_
 refine wpList_nil ?_
 refine then_normal ?_
 refine wp_seq ?_
 refine wp_seq ?_
 refine wp_region_lit ?_
 refine st_val hs (y_loadBA (hw.ownAt 0 rfl) rfl Try.isAgg30 Try.sizeOf30 rfl rfl) trivial rfl rfl fun a hs => ?_
 obtain ⟨rv6, h5, hsh⟩ := bind_t hsh
 refine st_callR hs (ref02_Valid_ok h5 hw.bdom) (do_call Try.call57 rfl) trivial rfl rfl ?_
 intro v10 Sv7 w a h8 h9 hs
 subst h9
 have hw := hw.callB h8
 refine st_val hs (y_not rfl) trivial rfl rfl fun a hs => ?_
 refine wpList_nil ?_
 refine then_normal ?_
 refine wp_cond_split (hs.ev rfl) (fun h13 => ?_) (fun h13 => ?_)
 ·have hsh := ite_t hsh h13
  refine wp_seq ?_
  refine wp_region_lit ?_
  refine st_val hs (y_assign rfl) trivial rfl rfl fun a hs => ?_
  refine st_val hs (y_assign rfl) trivial rfl rfl fun a hs => ?_
  refine wpList_nil ?_
  refine then_normal ?_
  have hsh := Option.some.inj hsh
  subst hsh
  refine wp_ret ?_
  refine then_ret ?_
  exact ret2 hs rfl (rv_tmp rfl) (rv_tmp rfl) (hw.ret rfl)
 ·have hsh := ite_f hsh h13
  refine wp_skip ?_
  refine then_normal ?_
  refine wp_seq ?_
  refine wp_seq ?_
  refine wp_region_lit ?_
  refine st_val hs (y_move rfl) trivial rfl rfl fun a hs => ?_
  obtain ⟨rv15, h14, hsh⟩ := bind_t hsh
  refine st_callR hs (ref01_In_ok h14 hw.bdom) (do_call Try.call46 rfl) trivial rfl rfl ?_
  intro v19 Sv16 w a h17 h18 hs
  subst h18
  have hw := hw.callB h17
  refine st_val hs (y_not rfl) trivial rfl rfl fun a hs => ?_
  refine st_val hs (y_move rfl) trivial rfl rfl fun a hs => ?_
  obtain ⟨c29, hc29, hsh⟩ := bind_t hsh
  refine wpl_join 4 (fun a w => ∃ (Sv30 : Nat → Prop), Sl 29 [(0, .int .i64 start1), (2, .int .i64 k3), (4, .pointer (some ⟨b4, 0, none⟩)), (18, .bool c29)] a ∧ Wd ⟨w0, S0, []⟩ Sv30 [.box b4 [.int .i64 r2.Num, .int .i64 r2.Den] 30] [] w) ?_ ?_
  ·rcases Bool.eq_false_or_eq_true (!rv15) with h28 | h28
   ·have hs := hs.fix 14 (.bool true) rfl (vb h28)
    have hsh := ite_t hc29 h28
    refine st_skip hs rfl rfl rfl rfl rfl fun a hs => ?_
    refine st_skip hs rfl rfl rfl rfl rfl fun a hs => ?_
    refine st_skip hs rfl rfl rfl rfl rfl fun a hs => ?_
    refine st_val hs (y_pickT rfl rfl) trivial rfl rfl fun a hs => ?_
    refine wpList_nil ?_
    have hsh := Option.some.inj hsh
    subst hsh
    refine then_normal ?_
    exact ⟨S0, (hs.wk rfl), (hw.ft [0] [] (by decide) rfl rfl)⟩
   ·have hs := hs.fix 14 (.bool false) rfl (vb h28)
    have hsh := ite_f hc29 h28
    refine st_val hs (y_move rfl) ⟨_, rfl, rfl⟩ rfl rfl fun a hs => ?_
    obtain ⟨rv32, h31, hsh⟩ := bind_t hsh
    refine st_callR hs (ref01_In_ok h31 hw.bdom) (do_call Try.call46 rfl) ⟨_, rfl, rfl⟩ rfl rfl ?_
    intro v36 Sv33 w a h34 h35 hs
    subst h35
    have hw := hw.callB h34
    refine st_val hs (y_not rfl) ⟨_, rfl, rfl⟩ rfl rfl fun a hs => ?_
    refine st_val hs (y_pickF rfl rfl) trivial rfl rfl fun a hs => ?_
    refine wpList_nil ?_
    have hsh := Option.some.inj hsh
    subst hsh
    refine then_normal ?_
    exact ⟨S0, (hs.wk rfl), (hw.ft [0] [] (by decide) rfl rfl)⟩
  ·rintro a w ⟨Sv30, hs, hw⟩
   refine wpList_nil ?_
   refine then_normal ?_
   refine wp_cond_split (hs.ev rfl) (fun h39 => ?_) (fun h39 => ?_)
   ·have hsh := ite_t hsh h39
    refine wp_seq ?_
    refine wp_region_lit ?_
    refine st_val hs (y_assign rfl) trivial rfl rfl fun a hs => ?_
    refine st_val hs (y_assign rfl) trivial rfl rfl fun a hs => ?_
    refine wpList_nil ?_
    refine then_normal ?_
    have hsh := Option.some.inj hsh
    subst hsh
    refine wp_ret ?_
    refine then_ret ?_
    exact ret2 hs rfl (rv_tmp rfl) (rv_tmp rfl) (hw.ret rfl)
   ·have hsh := ite_f hsh h39
    refine wp_skip ?_
    refine then_normal ?_
    refine wp_seq ?_
    refine wp_region_lit ?_
    refine st_val hs (y_move rfl) trivial rfl rfl fun a hs => ?_
    refine st_val hs (y_move rfl) trivial rfl rfl fun a hs => ?_
    refine st_val hs (y_fieldAddr (o' := 1) Try.runUnderlying30 rfl Try.sizeOf3 rfl rfl rfl) trivial rfl rfl fun a hs => ?_
    refine st_val hs (y_loadB1 (hw.ownAt 0 rfl) rfl Try.isAgg3 rfl) trivial rfl rfl fun a hs => ?_
    refine st_val hs (y_mul rfl rfl) trivial rfl rfl fun a hs => ?_
    refine st_val hs (y_mul rfl rfl) trivial rfl rfl fun a hs => ?_
    refine st_val hs (y_fieldAddr (o' := 0) Try.runUnderlying30 rfl Try.sizeOf3 rfl rfl rfl) trivial rfl rfl fun a hs => ?_
    refine st_val hs (y_loadB1 (hw.ownAt 0 rfl) rfl Try.isAgg3 rfl) trivial rfl rfl fun a hs => ?_
    obtain ⟨quo41, h40, hsh⟩ := bind_t hsh
    refine st_val hs (y_quoM rfl rfl h40) trivial rfl rfl fun a hs => ?_
    refine st_val hs (y_add rfl rfl) trivial rfl rfl fun a hs => ?_
    obtain ⟨x43, h42, hsh⟩ := bind_t hsh
    refine st_val hs (y_assignI rfl h42) trivial rfl rfl fun a hs => ?_
    refine st_val hs (y_assign rfl) trivial rfl rfl fun a hs => ?_
    refine wpList_nil ?_
    refine then_normal ?_
    have hsh := Option.some.inj hsh
    subst hsh
    refine wp_ret ?_
    exact ret2 hs rfl (rv_tmp rfl) (rv_tmp rfl) (hw.ret rfl)

abbrev ref14_Time_rd (w0 : World) (X : List Nat) (r : Int) : (Nat → Prop) → World → Value → Prop := fun S w v => v = .int .i64 r
set_option maxHeartbeats 4000000 in
set_option maxRecDepth 100000 in
theorem ref14_Time_ok {w0 : World} {S0 : Nat → Prop} {p2 : Option Addr} {k3 : Nat} {r1 : Record} {i5 : Int} {r : Int} (hsh : ref14_Time r1 i5 = some r) (hS : ∀ b, S0 b → b < w0.heap.size) (h4 : (SlA p2 r1.Samples.length k3 r1.Samples).p S0 w0) : Calls Try.prog 41 #[.agg #[.string r1.Source.Network, .string r1.Source.Station, .string r1.Source.Location, .string r1.Source.Channel, .int .i64 r1.Start, .int .i64 r1.First, .int .i64 r1.Rate.Num, .int .i64 r1.Rate.Den, .int .i64 r1.Error, .int .i64 r1.Run, .int .i64 r1.Seq, .slice p2 r1.Samples.length k3], .int .i64 i5] w0 (Ret ([]) w0 S0 (ref14_Time_rd w0 ([]) r)) := by
 refine calls_of_wp Try.func41 rfl ?_
 have hs := Sl.enter #[.agg #[.string r1.Source.Network, .string r1.Source.Station, .string r1.Source.Location, .string r1.Source.Channel, .int .i64 r1.Start, .int .i64 r1.First, .int .i64 r1.Rate.Num, .int .i64 r1.Rate.Den, .int .i64 r1.Error, .int .i64 r1.Run, .int .i64 r1.Seq, .slice p2 r1.Samples.length k3], .int .i64 i5] 20 [(0, .agg #[.string r1.Source.Network, .string r1.Source.Station, .string r1.Source.Location, .string r1.Source.Channel, .int .i64 r1.Start, .int .i64 r1.First, .int .i64 r1.Rate.Num, .int .i64 r1.Rate.Den, .int .i64 r1.Error, .int .i64 r1.Run, .int .i64 r1.Seq, .slice p2 r1.Samples.length k3]), (1, .int .i64 i5)] rfl ⟨rfl, rfl, trivial⟩
 have hw := Wd.enter (E := []) hS (fun _ h => (by cases h))
 have hw := hw.addE h4
 delta ref14_Time at hsh
 refine wp_seq ?_
 refine wp_region_lit ?_
 refine w_box (cs := [.string r1.Source.Network, .string r1.Source.Station, .string r1.Source.Location, .string r1.Source.Channel, .int .i64 r1.Start, .int .i64 r1.First, .int .i64 r1.Rate.Num, .int .i64 r1.Rate.Den, .int .i64 r1.Error, .int .i64 r1.Run, .int .i64 r1.Seq, .slice p2 r1.Samples.length k3]) hs hw rfl rfl rfl trivial ?_
 intro b6 a w hs hw
 refine st_val hs (y_assign rfl) trivial rfl rfl fun a hs => ?_
 refine wpList_nil ?_
 refine then_normal ?_
 refine wp_seq ?_
 refine wp_region_lit ?_
 refine st_val hs (y_fieldAddr (o' := 4) Try.runUnderlying32 rfl Try.sizeOf3 rfl rfl rfl) trivial rfl rfl fun a hs => ?_
 refine st_val hs (y_loadB1 (hw.ownAt 0 rfl) rfl Try.isAgg3 rfl) trivial rfl rfl fun a hs => ?_
 refine st_val hs (y_fieldAddr (o' := 6) Try.runUnderlying32 rfl Try.sizeOf30 rfl rfl rfl) trivial rfl rfl fun a hs => ?_
 refine st_val hs (y_loadBA (hw.ownAt 0 rfl) rfl Try.isAgg30 Try.sizeOf30 rfl rfl) trivial rfl rfl fun a hs => ?_
 refine st_val hs (y_fieldAddr (o' := 5) Try.runUnderlying32 rfl Try.sizeOf3 rfl rfl rfl) trivial rfl rfl fun a hs => ?_
 refine st_val hs (y_loadB1 (hw.ownAt 0 rfl) rfl Try.isAgg3 rfl) trivial rfl rfl fun a hs => ?_
 refine st_val hs (y_move rfl) trivial rfl rfl fun a hs => ?_
 refine st_val hs (y_add rfl rfl) trivial rfl rfl fun a hs => ?_
 obtain ⟨rv8, h7, hsh⟩ := bind_t hsh
 refine st_callR hs (ref02_Time_ok h7 hw.bdom) (do_call Try.call65 rfl) trivial rfl rfl ?_
 intro v12 Sv9 w a h10 h11 hs
 subst h11
 have hw := hw.callB h10
 refine st_val hs (y_move rfl) trivial rfl rfl fun a hs => ?_
 refine st_val hs (y_extract rfl rfl) trivial rfl rfl fun a hs => ?_
 refine st_val hs (y_extract rfl rfl) trivial rfl rfl fun a hs => ?_
 refine st_val hs (y_assign rfl) trivial rfl rfl fun a hs => ?_
 refine st_val hs (y_assign rfl) trivial rfl rfl fun a hs => ?_
 refine wpList_nil ?_
 refine then_normal ?_
 refine wp_seq ?_
 refine wp_region_lit ?_
 refine st_val hs (y_move rfl) trivial rfl rfl fun a hs => ?_
 refine st_val hs (y_assign rfl) trivial rfl rfl fun a hs => ?_
 refine wpList_nil ?_
 refine then_normal ?_
 have hsh := Option.some.inj hsh
 subst hsh
 refine wp_ret ?_
 exact ret1 hs rfl (rv_tmp rfl) (hw.ret rfl)

abbrev ref14_Valid_rd (w0 : World) (X : List Nat) (r : Bool) : (Nat → Prop) → World → Value → Prop := fun S w v => v = .bool r
set_option maxHeartbeats 4000000 in
set_option maxRecDepth 100000 in
theorem ref14_Valid_ok {w0 : World} {S0 : Nat → Prop} {p2 : Option Addr} {k3 : Nat} {r1 : Record} {r : Bool} (hsh : ref14_Valid r1 = some r) (hS : ∀ b, S0 b → b < w0.heap.size) (h4 : (SlA p2 r1.Samples.length k3 r1.Samples).p S0 w0) : Calls Try.prog 27 #[.agg #[.string r1.Source.Network, .string r1.Source.Station, .string r1.Source.Location, .string r1.Source.Channel, .int .i64 r1.Start, .int .i64 r1.First, .int .i64 r1.Rate.Num, .int .i64 r1.Rate.Den, .int .i64 r1.Error, .int .i64 r1.Run, .int .i64 r1.Seq, .slice p2 r1.Samples.length k3]] w0 (Ret ([]) w0 S0 (ref14_Valid_rd w0 ([]) r)) := by
 refine calls_of_wp Try.func27 rfl ?_
 have hs := Sl.enter #[.agg #[.string r1.Source.Network, .string r1.Source.Station, .string r1.Source.Location, .string r1.Source.Channel, .int .i64 r1.Start, .int .i64 r1.First, .int .i64 r1.Rate.Num, .int .i64 r1.Rate.Den, .int .i64 r1.Error, .int .i64 r1.Run, .int .i64 r1.Seq, .slice p2 r1.Samples.length k3]] 68 [(0, .agg #[.string r1.Source.Network, .string r1.Source.Station, .string r1.Source.Location, .string r1.Source.Channel, .int .i64 r1.Start, .int .i64 r1.First, .int .i64 r1.Rate.Num, .int .i64 r1.Rate.Den, .int .i64 r1.Error, .int .i64 r1.Run, .int .i64 r1.Seq, .slice p2 r1.Samples.length k3])] rfl ⟨rfl, trivial⟩
 have hw := Wd.enter (E := []) hS (fun _ h => (by cases h))
 have hw := hw.addE h4
 delta ref14_Valid at hsh
 refine wp_seq ?_
 refine wp_region_lit ?_
 refine w_box (cs := [.string r1.Source.Network, .string r1.Source.Station, .string r1.Source.Location, .string r1.Source.Channel, .int .i64 r1.Start, .int .i64 r1.First, .int .i64 r1.Rate.Num, .int .i64 r1.Rate.Den, .int .i64 r1.Error, .int .i64 r1.Run, .int .i64 r1.Seq, .slice p2 r1.Samples.length k3]) hs hw rfl rfl rfl trivial ?_
 intro b5 a w hs hw
 refine st_val hs (y_assign rfl) trivial rfl rfl fun a hs => ?_
 refine wpList_nil ?_
 refine then_normal ?_
 refine wp_seq ?_
 refine wp_seq ?_
 refine wp_region_lit ?_
 refine st_val hs (y_fieldAddr (o' := 0) Try.runUnderlying32 rfl Try.sizeOf28 rfl rfl rfl) trivial rfl rfl fun a hs => ?_
 refine st_val hs (y_loadBA (hw.ownAt 0 rfl) rfl Try.isAgg28 Try.sizeOf28 rfl rfl) trivial rfl rfl fun a hs => ?_
 obtain ⟨rv7, h6, hsh⟩ := bind_t hsh
 refine st_callR hs (ref03_Valid_ok h6 hw.bdom) (do_call Try.call56 rfl) trivial rfl rfl ?_
 intro v11 Sv8 w a h9 h10 hs
 subst h10
 have hw := hw.callB h9
 refine st_val hs (y_not rfl) trivial rfl rfl fun a hs => ?_
 refine st_val hs (y_move rfl) trivial rfl rfl fun a hs => ?_
 obtain ⟨c21, hc21, hsh⟩ := bind_t hsh
 refine wpl_join 5 (fun a w => ∃ (Sv22 : Nat → Prop), Sl 68 [(1, .pointer (some ⟨b5, 0, none⟩)), (12, .bool c21)] a ∧ Wd ⟨w0, S0, []⟩ Sv22 [.box b5 [.string r1.Source.Network, .string r1.Source.Station, .string r1.Source.Location, .string r1.Source.Channel, .int .i64 r1.Start, .int .i64 r1.First, .int .i64 r1.Rate.Num, .int .i64 r1.Rate.Den, .int .i64 r1.Error, .int .i64 r1.Run, .int .i64 r1.Seq, .slice p2 r1.Samples.length k3] 32] [SlA p2 r1.Samples.length k3 r1.Samples] w) ?_ ?_
 ·rcases Bool.eq_false_or_eq_true (!rv7) with h20 | h20
  ·have hs := hs.fix 7 (.bool true) rfl (vb h20)
   have hsh := ite_t hc21 h20
   refine st_skip hs rfl rfl rfl rfl rfl fun a hs => ?_
   refine st_skip hs rfl rfl rfl rfl rfl fun a hs => ?_
   refine st_skip hs rfl rfl rfl rfl rfl fun a hs => ?_
   refine st_skip hs rfl rfl rfl rfl rfl fun a hs => ?_
   refine st_val hs (y_pickT rfl rfl) trivial rfl rfl fun a hs => ?_
   refine wpList_nil ?_
   have hsh := Option.some.inj hsh
   subst hsh
   refine then_normal ?_
   exact ⟨S0, (hs.wk rfl), (hw.ft [0] [0] (by decide) rfl rfl)⟩
  ·have hs := hs.fix 7 (.bool false) rfl (vb h20)
   have hsh := ite_f hc21 h20
   refine st_val hs (y_fieldAddr (o' := 6) Try.runUnderlying32 rfl Try.sizeOf30 rfl rfl rfl) ⟨_, rfl, rfl⟩ rfl rfl fun a hs => ?_
   refine st_val hs (y_loadBA (hw.ownAt 0 rfl) rfl Try.isAgg30 Try.sizeOf30 rfl rfl) ⟨_, rfl, rfl⟩ rfl rfl fun a hs => ?_
   obtain ⟨rv24, h23, hsh⟩ := bind_t hsh
   refine st_callR hs (ref02_Valid_ok h23 hw.bdom) (do_call Try.call57 rfl) ⟨_, rfl, rfl⟩ rfl rfl ?_
   intro v28 Sv25 w a h26 h27 hs
   subst h27
   have hw := hw.callB h26
   refine st_val hs (y_not rfl) ⟨_, rfl, rfl⟩ rfl rfl fun a hs => ?_
   refine st_val hs (y_pickF rfl rfl) trivial rfl rfl fun a hs => ?_
   refine wpList_nil ?_
   have hsh := Option.some.inj hsh
   subst hsh
   refine then_normal ?_
   exact ⟨S0, (hs.wk rfl), (hw.ft [0] [0] (by decide) rfl rfl)⟩
 ·rintro a w ⟨Sv22, hs, hw⟩
  refine st_val hs (y_move rfl) trivial rfl rfl fun a hs => ?_
  obtain ⟨c38, hc38, hsh⟩ := bind_t hsh
  refine wpl_join 5 (fun a w => ∃ (Sv39 : Nat → Prop), Sl 68 [(1, .pointer (some ⟨b5, 0, none⟩)), (18, .bool c38)] a ∧ Wd ⟨w0, S0, []⟩ Sv39 [.box b5 [.string r1.Source.Network, .string r1.Source.Station, .string r1.Source.Location, .string r1.Source.Channel, .int .i64 r1.Start, .int .i64 r1.First, .int .i64 r1.Rate.Num, .int .i64 r1.Rate.Den, .int .i64 r1.Error, .int .i64 r1.Run, .int .i64 r1.Seq, .slice p2 r1.Samples.length k3] 32] [SlA p2 r1.Samples.length k3 r1.Samples] w) ?_ ?_
  ·rcases Bool.eq_false_or_eq_true c21 with h37 | h37
   ·have hs := hs.fix 13 (.bool true) rfl (vb h37)
    have hsh := ite_t hc38 h37
    refine st_skip hs rfl rfl rfl rfl rfl fun a hs => ?_
    refine st_skip hs rfl rfl rfl rfl rfl fun a hs => ?_
    refine st_skip hs rfl rfl rfl rfl rfl fun a hs => ?_
    refine st_skip hs rfl rfl rfl rfl rfl fun a hs => ?_
    refine st_val hs (y_pickT rfl rfl) trivial rfl rfl fun a hs => ?_
    refine wpList_nil ?_
    have hsh := Option.some.inj hsh
    subst hsh
    refine then_normal ?_
    exact ⟨Sv22, (hs.wk rfl), (hw.ft [0] [0] (by decide) rfl rfl)⟩
   ·have hs := hs.fix 13 (.bool false) rfl (vb h37)
    have hsh := ite_f hc38 h37
    refine st_val hs (y_fieldAddr (o' := 4) Try.runUnderlying32 rfl Try.sizeOf3 rfl rfl rfl) ⟨_, rfl, rfl⟩ rfl rfl fun a hs => ?_
    refine st_val hs (y_loadB1 (hw.ownAt 0 rfl) rfl Try.isAgg3 rfl) ⟨_, rfl, rfl⟩ rfl rfl fun a hs => ?_
    obtain ⟨rv41, h40, hsh⟩ := bind_t hsh
    refine st_callR hs (ref01_In_ok h40 hw.bdom) (do_call Try.call46 rfl) ⟨_, rfl, rfl⟩ rfl rfl ?_
    intro v45 Sv42 w a h43 h44 hs
    subst h44
    have hw := hw.callB h43
    refine st_val hs (y_not rfl) ⟨_, rfl, rfl⟩ rfl rfl fun a hs => ?_
    refine st_val hs (y_pickF rfl rfl) trivial rfl rfl fun a hs => ?_
    refine wpList_nil ?_
    have hsh := Option.some.inj hsh
    subst hsh
    refine then_normal ?_
    exact ⟨Sv22, (hs.wk rfl), (hw.ft [0] [0] (by decide) rfl rfl)⟩
  ·rintro a w ⟨Sv39, hs, hw⟩
   refine st_val hs (y_move rfl) trivial rfl rfl fun a hs => ?_
   obtain ⟨c55, hc55, hsh⟩ := bind_t hsh
   refine wpl_join 5 (fun a w => ∃ (Sv56 : Nat → Prop), Sl 68 [(1, .pointer (some ⟨b5, 0, none⟩)), (24, .bool c55)] a ∧ Wd ⟨w0, S0, []⟩ Sv56 [.box b5 [.string r1.Source.Network, .string r1.Source.Station, .string r1.Source.Location, .string r1.Source.Channel, .int .i64 r1.Start, .int .i64 r1.First, .int .i64 r1.Rate.Num, .int .i64 r1.Rate.Den, .int .i64 r1.Error, .int .i64 r1.Run, .int .i64 r1.Seq, .slice p2 r1.Samples.length k3] 32] [SlA p2 r1.Samples.length k3 r1.Samples] w) ?_ ?_
   ·rcases Bool.eq_false_or_eq_true c38 with h54 | h54
    ·have hs := hs.fix 19 (.bool true) rfl (vb h54)
     have hsh := ite_t hc55 h54
     refine st_skip hs rfl rfl rfl rfl rfl fun a hs => ?_
     refine st_skip hs rfl rfl rfl rfl rfl fun a hs => ?_
     refine st_skip hs rfl rfl rfl rfl rfl fun a hs => ?_
     refine st_skip hs rfl rfl rfl rfl rfl fun a hs => ?_
     refine st_val hs (y_pickT rfl rfl) trivial rfl rfl fun a hs => ?_
     refine wpList_nil ?_
     have hsh := Option.some.inj hsh
     subst hsh
     refine then_normal ?_
     exact ⟨Sv39, (hs.wk rfl), (hw.ft [0] [0] (by decide) rfl rfl)⟩
    ·have hs := hs.fix 19 (.bool false) rfl (vb h54)
     have hsh := ite_f hc55 h54
     refine st_val hs (y_fieldAddr (o' := 5) Try.runUnderlying32 rfl Try.sizeOf3 rfl rfl rfl) ⟨_, rfl, rfl⟩ rfl rfl fun a hs => ?_
     refine st_val hs (y_loadB1 (hw.ownAt 0 rfl) rfl Try.isAgg3 rfl) ⟨_, rfl, rfl⟩ rfl rfl fun a hs => ?_
     obtain ⟨rv58, h57, hsh⟩ := bind_t hsh
     refine st_callR hs (ref01_In_ok h57 hw.bdom) (do_call Try.call46 rfl) ⟨_, rfl, rfl⟩ rfl rfl ?_
     intro v62 Sv59 w a h60 h61 hs
     subst h61
     have hw := hw.callB h60
     refine st_val hs (y_not rfl) ⟨_, rfl, rfl⟩ rfl rfl fun a hs => ?_
     refine st_val hs (y_pickF rfl rfl) trivial rfl rfl fun a hs => ?_
     refine wpList_nil ?_
     have hsh := Option.some.inj hsh
     subst hsh
     refine then_normal ?_
     exact ⟨Sv39, (hs.wk rfl), (hw.ft [0] [0] (by decide) rfl rfl)⟩
   ·rintro a w ⟨Sv56, hs, hw⟩
    refine st_val hs (y_move rfl) trivial rfl rfl fun a hs => ?_
    obtain ⟨c72, hc72, hsh⟩ := bind_t hsh
    refine wpl_join 6 (fun a w => ∃ (Sv73 : Nat → Prop), Sl 68 [(1, .pointer (some ⟨b5, 0, none⟩)), (31, .bool c72)] a ∧ Wd ⟨w0, S0, []⟩ Sv73 [.box b5 [.string r1.Source.Network, .string r1.Source.Station, .string r1.Source.Location, .string r1.Source.Channel, .int .i64 r1.Start, .int .i64 r1.First, .int .i64 r1.Rate.Num, .int .i64 r1.Rate.Den, .int .i64 r1.Error, .int .i64 r1.Run, .int .i64 r1.Seq, .slice p2 r1.Samples.length k3] 32] [SlA p2 r1.Samples.length k3 r1.Samples] w) ?_ ?_
    ·rcases Bool.eq_false_or_eq_true c55 with h71 | h71
     ·have hs := hs.fix 25 (.bool true) rfl (vb h71)
      have hsh := ite_t hc72 h71
      refine st_skip hs rfl rfl rfl rfl rfl fun a hs => ?_
      refine st_skip hs rfl rfl rfl rfl rfl fun a hs => ?_
      refine st_skip hs rfl rfl rfl rfl rfl fun a hs => ?_
      refine st_skip hs rfl rfl rfl rfl rfl fun a hs => ?_
      refine st_skip hs rfl rfl rfl rfl rfl fun a hs => ?_
      refine st_val hs (y_pickT rfl rfl) trivial rfl rfl fun a hs => ?_
      refine wpList_nil ?_
      have hsh := Option.some.inj hsh
      subst hsh
      refine then_normal ?_
      exact ⟨Sv56, (hs.wk rfl), (hw.ft [0] [0] (by decide) rfl rfl)⟩
     ·have hs := hs.fix 25 (.bool false) rfl (vb h71)
      have hsh := ite_f hc72 h71
      refine st_val hs (y_fieldAddr (o' := 11) Try.runUnderlying32 rfl Try.sizeOf22 rfl rfl rfl) ⟨_, rfl, rfl⟩ rfl rfl fun a hs => ?_
      refine st_val hs (y_loadB1 (hw.ownAt 0 rfl) rfl Try.isAgg22 rfl) ⟨_, rfl, rfl⟩ rfl rfl fun a hs => ?_
      refine st_val hs (y_len Try.runUnderlying22 rfl) ⟨_, rfl, rfl⟩ rfl rfl fun a hs => ?_
      obtain ⟨rv75, h74, hsh⟩ := bind_t hsh
      refine st_callR hs (ref01_In_ok h74 hw.bdom) (do_call Try.call46 rfl) ⟨_, rfl, rfl⟩ rfl rfl ?_
      intro v79 Sv76 w a h77 h78 hs
      subst h78
      have hw := hw.callB h77
      refine st_val hs (y_not rfl) ⟨_, rfl, rfl⟩ rfl rfl fun a hs => ?_
      refine st_val hs (y_pickF rfl rfl) trivial rfl rfl fun a hs => ?_
      refine wpList_nil ?_
      have hsh := Option.some.inj hsh
      subst hsh
      refine then_normal ?_
      exact ⟨Sv56, (hs.wk rfl), (hw.ft [0] [0] (by decide) rfl rfl)⟩
    ·rintro a w ⟨Sv73, hs, hw⟩
     refine st_val hs (y_move rfl) trivial rfl rfl fun a hs => ?_
     refine wpl_join 8 (fun a w1 => w = w1 ∧ Sl 68 [(1, .pointer (some ⟨b5, 0, none⟩)), (40, .bool (c72 || (decide (16777216 < (w64 (r1.First + (r1.Samples.length : Int)))))))] a) ?_ ?_
     ·rcases Bool.eq_false_or_eq_true c72 with h81 | h81
      ·have hs := hs.fix 32 (.bool true) rfl (vb h81)
       refine st_skip hs rfl rfl rfl rfl rfl fun a hs => ?_
       refine st_skip hs rfl rfl rfl rfl rfl fun a hs => ?_
       refine st_skip hs rfl rfl rfl rfl rfl fun a hs => ?_
       refine st_skip hs rfl rfl rfl rfl rfl fun a hs => ?_
       refine st_skip hs rfl rfl rfl rfl rfl fun a hs => ?_
       refine st_skip hs rfl rfl rfl rfl rfl fun a hs => ?_
       refine st_skip hs rfl rfl rfl rfl rfl fun a hs => ?_
       refine st_val hs (y_pickT rfl rfl) trivial rfl rfl fun a hs => ?_
       refine wpList_nil ?_
       refine then_normal ?_
       exact ⟨rfl, (hs.fix 40 (.bool (c72 || (decide (16777216 < (w64 (r1.First + (r1.Samples.length : Int))))))) rfl (or_t h81)).weaken _ ⟨rfl, rfl, trivial⟩⟩
      ·have hs := hs.fix 32 (.bool false) rfl (vb h81)
       refine st_val hs (y_fieldAddr (o' := 5) Try.runUnderlying32 rfl Try.sizeOf3 rfl rfl rfl) ⟨_, rfl, rfl⟩ rfl rfl fun a hs => ?_
       refine st_val hs (y_loadB1 (hw.ownAt 0 rfl) rfl Try.isAgg3 rfl) ⟨_, rfl, rfl⟩ rfl rfl fun a hs => ?_
       refine st_val hs (y_fieldAddr (o' := 11) Try.runUnderlying32 rfl Try.sizeOf22 rfl rfl rfl) ⟨_, rfl, rfl⟩ rfl rfl fun a hs => ?_
       refine st_val hs (y_loadB1 (hw.ownAt 0 rfl) rfl Try.isAgg22 rfl) ⟨_, rfl, rfl⟩ rfl rfl fun a hs => ?_
       refine st_val hs (y_len Try.runUnderlying22 rfl) ⟨_, rfl, rfl⟩ rfl rfl fun a hs => ?_
       refine st_val hs (y_add rfl rfl) ⟨_, rfl, rfl⟩ rfl rfl fun a hs => ?_
       refine st_val hs (y_gtr rfl rfl) ⟨_, rfl, rfl⟩ rfl rfl fun a hs => ?_
       refine st_val hs (y_pickF rfl rfl) trivial rfl rfl fun a hs => ?_
       refine wpList_nil ?_
       refine then_normal ?_
       exact ⟨rfl, (hs.fix 40 (.bool (c72 || (decide (16777216 < (w64 (r1.First + (r1.Samples.length : Int))))))) rfl (or_f h81)).weaken _ ⟨rfl, rfl, trivial⟩⟩
     ·rintro a w1 ⟨h159, hs⟩
      subst h159
      refine st_val hs (y_move rfl) trivial rfl rfl fun a hs => ?_
      obtain ⟨c90, hc90, hsh⟩ := bind_t hsh
      refine wpl_join 5 (fun a w => ∃ (Sv91 : Nat → Prop), Sl 68 [(1, .pointer (some ⟨b5, 0, none⟩)), (46, .bool c90)] a ∧ Wd ⟨w0, S0, []⟩ Sv91 [.box b5 [.string r1.Source.Network, .string r1.Source.Station, .string r1.Source.Location, .string r1.Source.Channel, .int .i64 r1.Start, .int .i64 r1.First, .int .i64 r1.Rate.Num, .int .i64 r1.Rate.Den, .int .i64 r1.Error, .int .i64 r1.Run, .int .i64 r1.Seq, .slice p2 r1.Samples.length k3] 32] [SlA p2 r1.Samples.length k3 r1.Samples] w) ?_ ?_
      ·rcases Bool.eq_false_or_eq_true (c72 || (decide (16777216 < (w64 (r1.First + (r1.Samples.length : Int)))))) with h89 | h89
       ·have hs := hs.fix 41 (.bool true) rfl (vb h89)
        have hsh := ite_t hc90 h89
        refine st_skip hs rfl rfl rfl rfl rfl fun a hs => ?_
        refine st_skip hs rfl rfl rfl rfl rfl fun a hs => ?_
        refine st_skip hs rfl rfl rfl rfl rfl fun a hs => ?_
        refine st_skip hs rfl rfl rfl rfl rfl fun a hs => ?_
        refine st_val hs (y_pickT rfl rfl) trivial rfl rfl fun a hs => ?_
        refine wpList_nil ?_
        have hsh := Option.some.inj hsh
        subst hsh
        refine then_normal ?_
        exact ⟨Sv73, (hs.wk rfl), (hw.ft [0] [0] (by decide) rfl rfl)⟩
       ·have hs := hs.fix 41 (.bool false) rfl (vb h89)
        have hsh := ite_f hc90 h89
        refine st_val hs (y_fieldAddr (o' := 11) Try.runUnderlying32 rfl Try.sizeOf22 rfl rfl rfl) ⟨_, rfl, rfl⟩ rfl rfl fun a hs => ?_
        refine st_val hs (y_loadB1 (hw.ownAt 0 rfl) rfl Try.isAgg22 rfl) ⟨_, rfl, rfl⟩ rfl rfl fun a hs => ?_
        obtain ⟨rv93, h92, hsh⟩ := bind_t hsh
        refine st_callR hs (ref05_InRange_ok h92 hw.bdom (hw.bE 0 rfl)) (do_call Try.call58 rfl) ⟨_, rfl, rfl⟩ rfl rfl ?_
        intro v97 Sv94 w a h95 h96 hs
        subst h96
        have hw := hw.callB h95
        refine st_val hs (y_not rfl) ⟨_, rfl, rfl⟩ rfl rfl fun a hs => ?_
        refine st_val hs (y_pickF rfl rfl) trivial rfl rfl fun a hs => ?_
        refine wpList_nil ?_
        have hsh := Option.some.inj hsh
        subst hsh
        refine then_normal ?_
        exact ⟨Sv73, (hs.wk rfl), (hw.ft [0] [0] (by decide) rfl rfl)⟩
      ·rintro a w ⟨Sv91, hs, hw⟩
       refine wpList_nil ?_
       refine then_normal ?_
       refine wp_cond_split (hs.ev rfl) (fun h100 => ?_) (fun h100 => ?_)
       ·have hsh := ite_t hsh h100
        refine wp_seq ?_
        refine wp_region_lit ?_
        refine st_val hs (y_assign rfl) trivial rfl rfl fun a hs => ?_
        refine wpList_nil ?_
        refine then_normal ?_
        have hsh := Option.some.inj hsh
        subst hsh
        refine wp_ret ?_
        refine then_ret ?_
        exact ret1 hs rfl (rv_tmp rfl) (hw.ret rfl)
       ·have hsh := ite_f hsh h100
        refine wp_skip ?_
        refine then_normal ?_
        refine wp_seq ?_
        refine wp_region_lit ?_
        refine st_val hs (y_fieldAddr (o' := 8) Try.runUnderlying32 rfl Try.sizeOf3 rfl rfl rfl) trivial rfl rfl fun a hs => ?_
        refine st_val hs (y_loadB1 (hw.ownAt 0 rfl) rfl Try.isAgg3 rfl) trivial rfl rfl fun a hs => ?_
        obtain ⟨rv102, h101, hsh⟩ := bind_t hsh
        refine st_callR hs (ref01_In_ok h101 hw.bdom) (do_call Try.call46 rfl) trivial rfl rfl ?_
        intro v106 Sv103 w a h104 h105 hs
        subst h105
        have hw := hw.callB h104
        refine st_val hs (y_move rfl) trivial rfl rfl fun a hs => ?_
        obtain ⟨c116, hc116, hsh⟩ := bind_t hsh
        refine wpl_join 4 (fun a w => ∃ (Sv117 : Nat → Prop), Sl 68 [(1, .pointer (some ⟨b5, 0, none⟩)), (54, .bool c116)] a ∧ Wd ⟨w0, S0, []⟩ Sv117 [.box b5 [.string r1.Source.Network, .string r1.Source.Station, .string r1.Source.Location, .string r1.Source.Channel, .int .i64 r1.Start, .int .i64 r1.First, .int .i64 r1.Rate.Num, .int .i64 r1.Rate.Den, .int .i64 r1.Error, .int .i64 r1.Run, .int .i64 r1.Seq, .slice p2 r1.Samples.length k3] 32] [SlA p2 r1.Samples.length k3 r1.Samples] w) ?_ ?_
        ·rcases Bool.eq_false_or_eq_true rv102 with h115 | h115
         ·have hs := hs.fix 50 (.bool true) rfl (vb h115)
          have hsh := ite_t hc116 h115
          refine st_val hs (y_fieldAddr (o' := 9) Try.runUnderlying32 rfl Try.sizeOf3 rfl rfl rfl) ⟨_, rfl, rfl⟩ rfl rfl fun a hs => ?_
          refine st_val hs (y_loadB1 (hw.ownAt 0 rfl) rfl Try.isAgg3 rfl) ⟨_, rfl, rfl⟩ rfl rfl fun a hs => ?_
          obtain ⟨rv119, h118, hsh⟩ := bind_t hsh
          refine st_callR hs (ref01_In_ok h118 hw.bdom) (do_call Try.call46 rfl) ⟨_, rfl, rfl⟩ rfl rfl ?_
          intro v123 Sv120 w a h121 h122 hs
          subst h122
          have hw := hw.callB h121
          refine st_val hs (y_pickT rfl rfl) trivial rfl rfl fun a hs => ?_
          refine wpList_nil ?_
          have hsh := Option.some.inj hsh
          subst hsh
          refine then_normal ?_
          exact ⟨Sv91, (hs.wk rfl), (hw.ft [0] [0] (by decide) rfl rfl)⟩
         ·have hs := hs.fix 50 (.bool false) rfl (vb h115)
          have hsh := ite_f hc116 h115
          refine st_skip hs rfl rfl rfl rfl rfl fun a hs => ?_
          refine st_skip hs rfl rfl rfl rfl rfl fun a hs => ?_
          refine st_skip hs rfl rfl rfl rfl rfl fun a hs => ?_
          refine st_val hs (y_pickF rfl rfl) trivial rfl rfl fun a hs => ?_
          refine wpList_nil ?_
          have hsh := Option.some.inj hsh
          subst hsh
          refine then_normal ?_
          exact ⟨Sv91, (hs.wk rfl), (hw.ft [0] [0] (by decide) rfl rfl)⟩
        ·rintro a w ⟨Sv117, hs, hw⟩
         refine st_val hs (y_move rfl) trivial rfl rfl fun a hs => ?_
         obtain ⟨c133, hc133, hsh⟩ := bind_t hsh
         refine wpl_join 4 (fun a w => ∃ (Sv134 : Nat → Prop), Sl 68 [(1, .pointer (some ⟨b5, 0, none⟩)), (59, .bool c133)] a ∧ Wd ⟨w0, S0, []⟩ Sv134 [.box b5 [.string r1.Source.Network, .string r1.Source.Station, .string r1.Source.Location, .string r1.Source.Channel, .int .i64 r1.Start, .int .i64 r1.First, .int .i64 r1.Rate.Num, .int .i64 r1.Rate.Den, .int .i64 r1.Error, .int .i64 r1.Run, .int .i64 r1.Seq, .slice p2 r1.Samples.length k3] 32] [SlA p2 r1.Samples.length k3 r1.Samples] w) ?_ ?_
         ·rcases Bool.eq_false_or_eq_true c116 with h132 | h132
          ·have hs := hs.fix 55 (.bool true) rfl (vb h132)
           have hsh := ite_t hc133 h132
           refine st_val hs (y_fieldAddr (o' := 10) Try.runUnderlying32 rfl Try.sizeOf3 rfl rfl rfl) ⟨_, rfl, rfl⟩ rfl rfl fun a hs => ?_
           refine st_val hs (y_loadB1 (hw.ownAt 0 rfl) rfl Try.isAgg3 rfl) ⟨_, rfl, rfl⟩ rfl rfl fun a hs => ?_
           obtain ⟨rv136, h135, hsh⟩ := bind_t hsh
           refine st_callR hs (ref01_In_ok h135 hw.bdom) (do_call Try.call46 rfl) ⟨_, rfl, rfl⟩ rfl rfl ?_
           intro v140 Sv137 w a h138 h139 hs
           subst h139
           have hw := hw.callB h138
           refine st_val hs (y_pickT rfl rfl) trivial rfl rfl fun a hs => ?_
           refine wpList_nil ?_
           have hsh := Option.some.inj hsh
           subst hsh
           refine then_normal ?_
           exact ⟨Sv117, (hs.wk rfl), (hw.ft [0] [0] (by decide) rfl rfl)⟩
          ·have hs := hs.fix 55 (.bool false) rfl (vb h132)
           have hsh := ite_f hc133 h132
           refine st_skip hs rfl rfl rfl rfl rfl fun a hs => ?_
           refine st_skip hs rfl rfl rfl rfl rfl fun a hs => ?_
           refine st_skip hs rfl rfl rfl rfl rfl fun a hs => ?_
           refine st_val hs (y_pickF rfl rfl) trivial rfl rfl fun a hs => ?_
           refine wpList_nil ?_
           have hsh := Option.some.inj hsh
           subst hsh
           refine then_normal ?_
           exact ⟨Sv117, (hs.wk rfl), (hw.ft [0] [0] (by decide) rfl rfl)⟩
         ·rintro a w ⟨Sv134, hs, hw⟩
          refine st_val hs (y_move rfl) trivial rfl rfl fun a hs => ?_
          obtain ⟨c150, hc150, hsh⟩ := bind_t hsh
          refine wpl_join 7 (fun a w => ∃ (Sv151 : Nat → Prop), Sl 68 [(67, .bool c150)] a ∧ Wd ⟨w0, S0, []⟩ Sv151 [] [] w) ?_ ?_
          ·rcases Bool.eq_false_or_eq_true c133 with h149 | h149
           ·have hs := hs.fix 60 (.bool true) rfl (vb h149)
            have hsh := ite_t hc150 h149
            refine st_val hs (y_loadBA (hw.ownAt 0 rfl) rfl Try.isAgg32 Try.sizeOf32 rfl rfl) ⟨_, rfl, rfl⟩ rfl rfl fun a hs => ?_
            refine st_val hs (y_fieldAddr (o' := 11) Try.runUnderlying32 rfl Try.sizeOf22 rfl rfl rfl) ⟨_, rfl, rfl⟩ rfl rfl fun a hs => ?_
            refine st_val hs (y_loadB1 (hw.ownAt 0 rfl) rfl Try.isAgg22 rfl) ⟨_, rfl, rfl⟩ rfl rfl fun a hs => ?_
            refine st_val hs (y_len Try.runUnderlying22 rfl) ⟨_, rfl, rfl⟩ rfl rfl fun a hs => ?_
            obtain ⟨rv153, h152, hsh⟩ := bind_t hsh
            refine st_callR hs (ref14_Time_ok h152 hw.bdom (hw.bE 0 rfl)) (do_call Try.call41 rfl) ⟨_, rfl, rfl⟩ rfl rfl ?_
            intro v157 Sv154 w a h155 h156 hs
            subst h156
            have hw := hw.callB h155
            refine st_val hs (y_leq rfl rfl) ⟨_, rfl, rfl⟩ rfl rfl fun a hs => ?_
            refine st_val hs (y_pickT rfl rfl) trivial rfl rfl fun a hs => ?_
            refine wpList_nil ?_
            have hsh := Option.some.inj hsh
            subst hsh
            refine then_normal ?_
            exact ⟨Sv134, (hs.wk rfl), (hw.ft [] [] (by decide) rfl rfl)⟩
           ·have hs := hs.fix 60 (.bool false) rfl (vb h149)
            have hsh := ite_f hc150 h149
            refine st_skip hs rfl rfl rfl rfl rfl fun a hs => ?_
            refine st_skip hs rfl rfl rfl rfl rfl fun a hs => ?_
            refine st_skip hs rfl rfl rfl rfl rfl fun a hs => ?_
            refine st_skip hs rfl rfl rfl rfl rfl fun a hs => ?_
            refine st_skip hs rfl rfl rfl rfl rfl fun a hs => ?_
            refine st_skip hs rfl rfl rfl rfl rfl fun a hs => ?_
            refine st_val hs (y_pickF rfl rfl) trivial rfl rfl fun a hs => ?_
            refine wpList_nil ?_
            have hsh := Option.some.inj hsh
            subst hsh
            refine then_normal ?_
            exact ⟨Sv134, (hs.wk rfl), (hw.ft [] [] (by decide) rfl rfl)⟩
          ·rintro a w ⟨Sv151, hs, hw⟩
           refine st_val hs (y_assign rfl) trivial rfl rfl fun a hs => ?_
           refine wpList_nil ?_
           refine then_normal ?_
           have hsh := Option.some.inj hsh
           subst hsh
           refine wp_ret ?_
           exact ret1 hs rfl (rv_tmp rfl) (hw.ret rfl)

abbrev ref14_Span_rd (w0 : World) (X : List Nat) (r : (Span × Int)) : (Nat → Prop) → World → Value → Prop := fun S w v => v = .tuple #[.agg #[.int .i64 r.1.From, .int .i64 r.1.To], .int .i64 r.2]
set_option maxHeartbeats 4000000 in
set_option maxRecDepth 100000 in
theorem ref14_Span_ok {w0 : World} {S0 : Nat → Prop} {p2 : Option Addr} {k3 : Nat} {r1 : Record} {r : (Span × Int)} (hsh : ref14_Span r1 = some r) (hS : ∀ b, S0 b → b < w0.heap.size) (h4 : (SlA p2 r1.Samples.length k3 r1.Samples).p S0 w0) : Calls Try.prog 18 #[.agg #[.string r1.Source.Network, .string r1.Source.Station, .string r1.Source.Location, .string r1.Source.Channel, .int .i64 r1.Start, .int .i64 r1.First, .int .i64 r1.Rate.Num, .int .i64 r1.Rate.Den, .int .i64 r1.Error, .int .i64 r1.Run, .int .i64 r1.Seq, .slice p2 r1.Samples.length k3]] w0 (Ret ([]) w0 S0 (ref14_Span_rd w0 ([]) r)) := by
 refine calls_of_wp Try.func18 rfl ?_
 have hs := Sl.enter #[.agg #[.string r1.Source.Network, .string r1.Source.Station, .string r1.Source.Location, .string r1.Source.Channel, .int .i64 r1.Start, .int .i64 r1.First, .int .i64 r1.Rate.Num, .int .i64 r1.Rate.Den, .int .i64 r1.Error, .int .i64 r1.Run, .int .i64 r1.Seq, .slice p2 r1.Samples.length k3]] 16 [(0, .agg #[.string r1.Source.Network, .string r1.Source.Station, .string r1.Source.Location, .string r1.Source.Channel, .int .i64 r1.Start, .int .i64 r1.First, .int .i64 r1.Rate.Num, .int .i64 r1.Rate.Den, .int .i64 r1.Error, .int .i64 r1.Run, .int .i64 r1.Seq, .slice p2 r1.Samples.length k3])] rfl ⟨rfl, trivial⟩
 have hw := Wd.enter (E := []) hS (fun _ h => (by cases h))
 have hw := hw.addE h4
 delta ref14_Span at hsh
 refine wp_seq ?_
 refine wp_region_lit ?_
 refine w_box (cs := [.string r1.Source.Network, .string r1.Source.Station, .string r1.Source.Location, .string r1.Source.Channel, .int .i64 r1.Start, .int .i64 r1.First, .int .i64 r1.Rate.Num, .int .i64 r1.Rate.Den, .int .i64 r1.Error, .int .i64 r1.Run, .int .i64 r1.Seq, .slice p2 r1.Samples.length k3]) hs hw rfl rfl rfl trivial ?_
 intro b5 a w hs hw
 refine w_alloc (cs := [.int .i64 0, .int .i64 0]) hs hw Try.zeroValue39 rfl rfl trivial ?_
 intro b6 a w hs hw
 refine st_val hs (y_assign rfl) trivial rfl rfl fun a hs => ?_
 refine wpList_nil ?_
 refine then_normal ?_
 refine wp_seq ?_
 refine wp_seq ?_
 refine wp_region_lit ?_
 refine st_val hs (y_loadBA (hw.ownAt 1 rfl) rfl Try.isAgg32 Try.sizeOf32 rfl rfl) trivial rfl rfl fun a hs => ?_
 obtain ⟨rv8, h7, hsh⟩ := bind_t hsh
 refine st_callR hs (ref14_Valid_ok h7 hw.bdom (hw.bE 0 rfl)) (do_call Try.call27 rfl) trivial rfl rfl ?_
 intro v12 Sv9 w a h10 h11 hs
 subst h11
 have hw := hw.callB h10
 refine st_val hs (y_not rfl) trivial rfl rfl fun a hs => ?_
 refine wpList_nil ?_
 refine then_normal ?_
 refine wp_cond_split (hs.ev rfl) (fun h15 => ?_) (fun h15 => ?_)
 ·have hsh := ite_t hsh h15
  refine wp_seq ?_
  refine wp_region_lit ?_
  refine st_val hs (y_build (vs := []) Bld39 rfl rfl) trivial rfl rfl fun a hs => ?_
  refine w_store (m := 2) (cs' := [.int .i64 0, .int .i64 0]) hs hw 0 rfl rfl rfl Try.sizeOf39 rfl rfl rfl rfl trivial ?_
  intro a w hs hw
  refine st_val hs (y_assign rfl) trivial rfl rfl fun a hs => ?_
  refine wpList_nil ?_
  refine then_normal ?_
  have hsh := Option.some.inj hsh
  subst hsh
  refine wp_ret ?_
  refine then_ret ?_
  exact ret2 hs rfl (rv_cell hw 0 rfl rfl Try.isAgg39 Try.sizeOf39 rfl) (rv_tmp rfl) (hw.ret rfl)
 ·have hsh := ite_f hsh h15
  refine wp_skip ?_
  refine then_normal ?_
  refine wp_seq ?_
  obtain ⟨rv17, h16, hsh⟩ := bind_t hsh
  obtain ⟨rv19, h18, hsh⟩ := bind_t hsh
  refine wp_only (fun a w => ∃ (Sv20 : Nat → Prop), Sl 16 [(2, .pointer (some ⟨b6, 0, none⟩)), (3, .int .i64 0)] a ∧ Wd ⟨w0, S0, []⟩ Sv20 [.box b6 [.int .i64 rv17, .int .i64 rv19] 39] [] w) ?_ ?_
  ·refine h_b (C := Cls [.box b5 [.string r1.Source.Network, .string r1.Source.Station, .string r1.Source.Location, .string r1.Source.Channel, .int .i64 r1.Start, .int .i64 r1.First, .int .i64 r1.Rate.Num, .int .i64 r1.Rate.Den, .int .i64 r1.Error, .int .i64 r1.Run, .int .i64 r1.Seq, .slice p2 r1.Samples.length k3] 32] []) (by kernel_rfl) rfl (hw.drew.cs [1] [] rfl rfl) fun hC => ?_
   have hw := hw.drew
   refine h_g hs 0 rfl (by kernel_rfl) rfl rfl hC rfl (fun w hC => y_loadBA (hC.ownAt 0 rfl) rfl Try.isAgg32 Try.sizeOf32 rfl rfl) fun a hs => ?_
   refine h_g hs 2 rfl (by kernel_rfl) rfl rfl hC rfl (fun w hC => y_loadBA (hC.ownAt 0 rfl) rfl Try.isAgg32 Try.sizeOf32 rfl rfl) fun a hs => ?_
   refine h_g hs 3 rfl (by kernel_rfl) rfl rfl hC rfl (fun w hC => y_fieldAddr (o' := 11) Try.runUnderlying32 rfl Try.sizeOf22 rfl rfl rfl) fun a hs => ?_
   refine h_g hs 4 rfl (by kernel_rfl) rfl rfl hC rfl (fun w hC => y_loadB1 (hC.ownAt 0 rfl) rfl Try.isAgg22 rfl) fun a hs => ?_
   refine h_g hs 5 rfl (by kernel_rfl) rfl rfl hC rfl (fun w hC => y_len Try.runUnderlying22 rfl) fun a hs => ?_
   refine h_one (i := 1) (by kernel_rfl) rfl ?_
   refine st_callR hs (ref14_Time_ok h16 hw.bdom (hw.bE 0 rfl)) (do_call Try.call41 rfl) trivial rfl rfl ?_
   intro v24 Sv21 w a h22 h23 hs
   subst h23
   have hw := hw.callB h22
   refine h_nx (hw.cs [1] [] rfl rfl) fun hC => ?_
   refine h_one (i := 6) (by kernel_rfl) rfl ?_
   refine st_callR hs (ref14_Time_ok h18 hw.bdom (hw.bE 0 rfl)) (do_call Try.call41 rfl) trivial rfl rfl ?_
   intro v29 Sv26 w a h27 h28 hs
   subst h28
   have hw := hw.callB h27
   refine h_nx (hw.cs [1] [] rfl rfl) fun hC => ?_
   refine h_g hs 7 rfl (by kernel_rfl) rfl rfl hC rfl (fun w hC => y_build (vs := [(0, .int .i64 rv17), (1, .int .i64 rv19)]) Bld39 rfl rfl) fun a hs => ?_
   refine h_one (i := 8) (by kernel_rfl) rfl ?_
   refine w_store (m := 2) (cs' := [.int .i64 rv17, .int .i64 rv19]) hs hw 0 rfl rfl rfl Try.sizeOf39 rfl rfl rfl rfl trivial ?_
   intro a w hs hw
   refine h_nx (hw.cs [1] [] rfl rfl) fun hC => ?_
   refine h_g hs 9 rfl (by kernel_rfl) rfl rfl hC rfl (fun w hC => y_assign rfl) fun a hs => ?_
   refine h_done (by kernel_rfl) ?_
   exact ⟨S0, (hs.wk rfl), (hw.ft [0] [] (by decide) rfl rfl)⟩
  ·rintro a w ⟨Sv20, hs, hw⟩
   refine then_normal ?_
   have hsh := Option.some.inj hsh
   subst hsh
   refine wp_ret ?_
   exact ret2 hs rfl (rv_cell hw 0 rfl rfl Try.isAgg39 Try.sizeOf39 rfl) (rv_tmp rfl) (hw.ret rfl)

abbrev ref14_At_rd (w0 : World) (X : List Nat) (r : (Int × Int)) : (Nat → Prop) → World → Value → Prop := fun S w v => v = .tuple #[.int .i64 r.1, .int .i64 r.2]
set_option maxHeartbeats 4000000 in
set_option maxRecDepth 100000 in
theorem ref14_At_ok {w0 : World} {S0 : Nat → Prop} {p2 : Option Addr} {k3 : Nat} {r1 : Record} {i5 : Int} {r : (Int × Int)} (hsh : ref14_At r1 i5 = some r) (hS : ∀ b, S0 b → b < w0.heap.size) (h4 : (SlA p2 r1.Samples.length k3 r1.Samples).p S0 w0) : Calls Try.prog 21 #[.agg #[.string r1.Source.Network, .string r1.Source.Station, .string r1.Source.Location, .string r1.Source.Channel, .int .i64 r1.Start, .int .i64 r1.First, .int .i64 r1.Rate.Num, .int .i64 r1.Rate.Den, .int .i64 r1.Error, .int .i64 r1.Run, .int .i64 r1.Seq, .slice p2 r1.Samples.length k3], .int .i64 i5] w0 (Ret ([]) w0 S0 (ref14_At_rd w0 ([]) r)) := by
 refine calls_of_wp Try.func21 rfl ?_
 have hs := Sl.enter #[.agg #[.string r1.Source.Network, .string r1.Source.Station, .string r1.Source.Location, .string r1.Source.Channel, .int .i64 r1.Start, .int .i64 r1.First, .int .i64 r1.Rate.Num, .int .i64 r1.Rate.Den, .int .i64 r1.Error, .int .i64 r1.Run, .int .i64 r1.Seq, .slice p2 r1.Samples.length k3], .int .i64 i5] 18 [(0, .agg #[.string r1.Source.Network, .string r1.Source.Station, .string r1.Source.Location, .string r1.Source.Channel, .int .i64 r1.Start, .int .i64 r1.First, .int .i64 r1.Rate.Num, .int .i64 r1.Rate.Den, .int .i64 r1.Error, .int .i64 r1.Run, .int .i64 r1.Seq, .slice p2 r1.Samples.length k3]), (1, .int .i64 i5)] rfl ⟨rfl, rfl, trivial⟩
 have hw := Wd.enter (E := []) hS (fun _ h => (by cases h))
 have hw := hw.addE h4
 delta ref14_At at hsh
 refine wp_seq ?_
 refine wp_region_lit ?_
 refine w_box (cs := [.string r1.Source.Network, .string r1.Source.Station, .string r1.Source.Location, .string r1.Source.Channel, .int .i64 r1.Start, .int .i64 r1.First, .int .i64 r1.Rate.Num, .int .i64 r1.Rate.Den, .int .i64 r1.Error, .int .i64 r1.Run, .int .i64 r1.Seq, .slice p2 r1.Samples.length k3]) hs hw rfl rfl rfl trivial ?_
 intro b6 a w hs hw
 refine st_val hs (y_assign rfl) trivial rfl rfl fun a hs => ?_
 refine st_val hs (y_assign rfl) trivial rfl rfl fun a hs => ?_
 refine wpList_nil ?_
 refine then_normal ?_
 refine wp_seq ?_
 refine wp_seq ?_
 refine wp_region_lit ?_
 refine st_val hs (y_loadBA (hw.ownAt 0 rfl) rfl Try.isAgg32 Try.sizeOf32 rfl rfl) trivial rfl rfl fun a hs => ?_
 obtain ⟨rv8, h7, hsh⟩ := bind_t hsh
 refine st_callR hs (ref14_Valid_ok h7 hw.bdom (hw.bE 0 rfl)) (do_call Try.call27 rfl) trivial rfl rfl ?_
 intro v12 Sv9 w a h10 h11 hs
 subst h11
 have hw := hw.callB h10
 refine st_val hs (y_not rfl) trivial rfl rfl fun a hs => ?_
 refine wpList_nil ?_
 refine then_normal ?_
 refine wp_cond_split (hs.ev rfl) (fun h15 => ?_) (fun h15 => ?_)
 ·have hsh := ite_t hsh h15
  refine wp_seq ?_
  refine wp_region_lit ?_
  refine st_val hs (y_assign rfl) trivial rfl rfl fun a hs => ?_
  refine st_val hs (y_assign rfl) trivial rfl rfl fun a hs => ?_
  refine wpList_nil ?_
  refine then_normal ?_
  have hsh := Option.some.inj hsh
  subst hsh
  refine wp_ret ?_
  refine then_ret ?_
  exact ret2 hs rfl (rv_tmp rfl) (rv_tmp rfl) (hw.ret rfl)
 ·have hsh := ite_f hsh h15
  refine wp_skip ?_
  refine then_normal ?_
  refine wp_seq ?_
  refine wp_seq ?_
  refine wp_region_lit ?_
  refine st_val hs (y_move rfl) trivial rfl rfl fun a hs => ?_
  refine st_val hs (y_fieldAddr (o' := 11) Try.runUnderlying32 rfl Try.sizeOf22 rfl rfl rfl) trivial rfl rfl fun a hs => ?_
  refine st_val hs (y_loadB1 (hw.ownAt 0 rfl) rfl Try.isAgg22 rfl) trivial rfl rfl fun a hs => ?_
  refine st_val hs (y_len Try.runUnderlying22 rfl) trivial rfl rfl fun a hs => ?_
  obtain ⟨rv17, h16, hsh⟩ := bind_t hsh
  refine st_callR hs (ref01_In_ok h16 hw.bdom) (do_call Try.call46 rfl) trivial rfl rfl ?_
  intro v21 Sv18 w a h19 h20 hs
  subst h20
  have hw := hw.callB h19
  refine st_val hs (y_not rfl) trivial rfl rfl fun a hs => ?_
  refine wpList_nil ?_
  refine then_normal ?_
  refine wp_cond_split (hs.ev rfl) (fun h24 => ?_) (fun h24 => ?_)
  ·have hsh := ite_t hsh h24
   refine wp_seq ?_
   refine wp_region_lit ?_
   refine st_val hs (y_assign rfl) trivial rfl rfl fun a hs => ?_
   refine st_val hs (y_assign rfl) trivial rfl rfl fun a hs => ?_
   refine wpList_nil ?_
   refine then_normal ?_
   have hsh := Option.some.inj hsh
   subst hsh
   refine wp_ret ?_
   refine then_ret ?_
   exact ret2 hs rfl (rv_tmp rfl) (rv_tmp rfl) (hw.ret rfl)
  ·have hsh := ite_f hsh h24
   refine wp_skip ?_
   refine then_normal ?_
   refine wp_seq ?_
   refine wp_region_lit ?_
   refine st_val hs (y_loadBA (hw.ownAt 0 rfl) rfl Try.isAgg32 Try.sizeOf32 rfl rfl) trivial rfl rfl fun a hs => ?_
   refine st_val hs (y_move rfl) trivial rfl rfl fun a hs => ?_
   obtain ⟨rv26, h25, hsh⟩ := bind_t hsh
   refine st_callR hs (ref14_Time_ok h25 hw.bdom (hw.bE 0 rfl)) (do_call Try.call41 rfl) trivial rfl rfl ?_
   intro v30 Sv27 w a h28 h29 hs
   subst h29
   have hw := hw.callB h28
   refine st_val hs (y_assign rfl) trivial rfl rfl fun a hs => ?_
   refine st_val hs (y_assign rfl) trivial rfl rfl fun a hs => ?_
   refine wpList_nil ?_
   refine then_normal ?_
   have hsh := Option.some.inj hsh
   subst hsh
   refine wp_ret ?_
   exact ret2 hs rfl (rv_tmp rfl) (rv_tmp rfl) (hw.ret rfl)

abbrev ref14_Sub_rd (w0 : World) (X : List Nat) (r : (Record × Int)) : (Nat → Prop) → World → Value → Prop := fun S w v => ∃ (p0_11 : Option Addr) (k0_11 : Nat) (c0_11 : List Value), v = .tuple #[.agg #[.string r.1.Source.Network, .string r.1.Source.Station, .string r.1.Source.Location, .string r.1.Source.Channel, .int .i64 r.1.Start, .int .i64 r.1.First, .int .i64 r.1.Rate.Num, .int .i64 r.1.Rate.Den, .int .i64 r.1.Error, .int .i64 r.1.Run, .int .i64 r.1.Seq, .slice p0_11 r.1.Samples.length k0_11], .int .i64 r.2] ∧ Outs X w0 S w [.row p0_11 r.1.Samples.length k0_11 c0_11 3 1] ∧ (RowA c0_11 r.1.Samples).p S w
set_option maxHeartbeats 4000000 in
set_option maxRecDepth 100000 in
theorem ref14_Sub_ok {w0 : World} {S0 : Nat → Prop} {p2 : Option Addr} {k3 : Nat} {r1 : Record} {from5 : Int} {to6 : Int} {r : (Record × Int)} (hsh : ref14_Sub r1 from5 to6 = some r) (hS : ∀ b, S0 b → b < w0.heap.size) (h4 : (SlA p2 r1.Samples.length k3 r1.Samples).p S0 w0) : Calls Try.prog 28 #[.agg #[.string r1.Source.Network, .string r1.Source.Station, .string r1.Source.Location, .string r1.Source.Channel, .int .i64 r1.Start, .int .i64 r1.First, .int .i64 r1.Rate.Num, .int .i64 r1.Rate.Den, .int .i64 r1.Error, .int .i64 r1.Run, .int .i64 r1.Seq, .slice p2 r1.Samples.length k3], .int .i64 from5, .int .i64 to6] w0 (Ret ([]) w0 S0 (ref14_Sub_rd w0 ([]) r)) := by
 refine calls_of_wp Try.func28 rfl ?_
 have hs := Sl.enter #[.agg #[.string r1.Source.Network, .string r1.Source.Station, .string r1.Source.Location, .string r1.Source.Channel, .int .i64 r1.Start, .int .i64 r1.First, .int .i64 r1.Rate.Num, .int .i64 r1.Rate.Den, .int .i64 r1.Error, .int .i64 r1.Run, .int .i64 r1.Seq, .slice p2 r1.Samples.length k3], .int .i64 from5, .int .i64 to6] 42 [(0, .agg #[.string r1.Source.Network, .string r1.Source.Station, .string r1.Source.Location, .string r1.Source.Channel, .int .i64 r1.Start, .int .i64 r1.First, .int .i64 r1.Rate.Num, .int .i64 r1.Rate.Den, .int .i64 r1.Error, .int .i64 r1.Run, .int .i64 r1.Seq, .slice p2 r1.Samples.length k3]), (1, .int .i64 from5), (2, .int .i64 to6)] rfl ⟨rfl, rfl, rfl, trivial⟩
 have hw := Wd.enter (E := []) hS (fun _ h => (by cases h))
 have hw := hw.addE h4
 delta ref14_Sub at hsh
 refine wp_seq ?_
 refine wp_region_lit ?_
 refine w_box (cs := [.string r1.Source.Network, .string r1.Source.Station, .string r1.Source.Location, .string r1.Source.Channel, .int .i64 r1.Start, .int .i64 r1.First, .int .i64 r1.Rate.Num, .int .i64 r1.Rate.Den, .int .i64 r1.Error, .int .i64 r1.Run, .int .i64 r1.Seq, .slice p2 r1.Samples.length k3]) hs hw rfl rfl rfl trivial ?_
 intro b7 a w hs hw
 refine w_alloc (cs := [.string ByteArray.empty, .string ByteArray.empty, .string ByteArray.empty, .string ByteArray.empty, .int .i64 0, .int .i64 0, .int .i64 0, .int .i64 0, .int .i64 0, .int .i64 0, .int .i64 0, .slice none ([] : List Int).length 0]) hs hw Try.zeroValue32 rfl rfl trivial ?_
 intro b8 a w hs hw
 refine st_val hs (y_assign rfl) trivial rfl rfl fun a hs => ?_
 refine wpList_nil ?_
 refine then_normal ?_
 refine wp_seq ?_
 refine wp_seq ?_
 refine wp_region_lit ?_
 refine st_val hs (y_loadBA (hw.ownAt 1 rfl) rfl Try.isAgg32 Try.sizeOf32 rfl rfl) trivial rfl rfl fun a hs => ?_
 obtain ⟨rv10, h9, hsh⟩ := bind_t hsh
 refine st_callR hs (ref14_Valid_ok h9 hw.bdom (hw.bE 0 rfl)) (do_call Try.call27 rfl) trivial rfl rfl ?_
 intro v14 Sv11 w a h12 h13 hs
 subst h13
 have hw := hw.callB h12
 refine st_val hs (y_not rfl) trivial rfl rfl fun a hs => ?_
 refine wpList_nil ?_
 refine then_normal ?_
 refine wp_cond_split (hs.ev rfl) (fun h17 => ?_) (fun h17 => ?_)
 ·have hsh := ite_t hsh h17
  refine wp_seq ?_
  refine wp_region_lit ?_
  refine st_val hs (y_build (vs := []) Bld32 rfl rfl) trivial rfl rfl fun a hs => ?_
  refine w_store (m := 12) (cs' := [.string ByteArray.empty, .string ByteArray.empty, .string ByteArray.empty, .string ByteArray.empty, .int .i64 0, .int .i64 0, .int .i64 0, .int .i64 0, .int .i64 0, .int .i64 0, .int .i64 0, .slice none ([] : List Int).length 0]) hs hw 0 rfl rfl rfl Try.sizeOf32 rfl rfl rfl rfl trivial ?_
  intro a w hs hw
  refine st_val hs (y_assign rfl) trivial rfl rfl fun a hs => ?_
  refine wpList_nil ?_
  refine then_normal ?_
  have hsh := Option.some.inj hsh
  subst hsh
  have hw := hw.nilRow Int 3
  refine wp_ret ?_
  refine then_ret ?_
  exact ret2 hs rfl (rv_cell hw 1 rfl rfl Try.isAgg32 Try.sizeOf32 rfl) (rv_tmp rfl) (hw.ret ⟨none, 0, [], rfl, (hw.outs [0] (by decide) rfl), (hw.envAt 0 rfl)⟩)
 ·have hsh := ite_f hsh h17
  refine wp_skip ?_
  refine then_normal ?_
  refine wp_seq ?_
  refine wp_seq ?_
  refine wp_region_lit ?_
  refine st_val hs (y_move rfl) trivial rfl rfl fun a hs => ?_
  refine st_val hs (y_lss rfl rfl) trivial rfl rfl fun a hs => ?_
  refine st_val hs (y_move rfl) trivial rfl rfl fun a hs => ?_
  refine wpl_join 4 (fun a w1 => w = w1 ∧ Sl 42 [(1, .int .i64 from5), (2, .int .i64 to6), (3, .pointer (some ⟨b7, 0, none⟩)), (6, .pointer (some ⟨b8, 0, none⟩)), (19, .bool ((decide (from5 < 0)) || (decide (to6 ≤ from5))))] a) ?_ ?_
  ·rcases Bool.eq_false_or_eq_true (decide (from5 < 0)) with h18 | h18
   ·have hs := hs.fix 15 (.bool true) rfl (vb h18)
    refine st_skip hs rfl rfl rfl rfl rfl fun a hs => ?_
    refine st_skip hs rfl rfl rfl rfl rfl fun a hs => ?_
    refine st_skip hs rfl rfl rfl rfl rfl fun a hs => ?_
    refine st_val hs (y_pickT rfl rfl) trivial rfl rfl fun a hs => ?_
    refine wpList_nil ?_
    refine then_normal ?_
    exact ⟨rfl, (hs.fix 19 (.bool ((decide (from5 < 0)) || (decide (to6 ≤ from5)))) rfl (or_t h18)).weaken _ ⟨rfl, rfl, rfl, rfl, rfl, trivial⟩⟩
   ·have hs := hs.fix 15 (.bool false) rfl (vb h18)
    refine st_val hs (y_move rfl) ⟨_, rfl, rfl⟩ rfl rfl fun a hs => ?_
    refine st_val hs (y_move rfl) ⟨_, rfl, rfl⟩ rfl rfl fun a hs => ?_
    refine st_val hs (y_geq rfl rfl) ⟨_, rfl, rfl⟩ rfl rfl fun a hs => ?_
    refine st_val hs (y_pickF rfl rfl) trivial rfl rfl fun a hs => ?_
    refine wpList_nil ?_
    refine then_normal ?_
    exact ⟨rfl, (hs.fix 19 (.bool ((decide (from5 < 0)) || (decide (to6 ≤ from5)))) rfl (or_f h18)).weaken _ ⟨rfl, rfl, rfl, rfl, rfl, trivial⟩⟩
  ·rintro a w1 ⟨h35, hs⟩
   subst h35
   refine st_val hs (y_move rfl) trivial rfl rfl fun a hs => ?_
   refine wpl_join 6 (fun a w1 => w = w1 ∧ Sl 42 [(1, .int .i64 from5), (2, .int .i64 to6), (3, .pointer (some ⟨b7, 0, none⟩)), (6, .pointer (some ⟨b8, 0, none⟩)), (26, .bool (((decide (from5 < 0)) || (decide (to6 ≤ from5))) || (decide ((r1.Samples.length : Int) < to6))))] a) ?_ ?_
   ·rcases Bool.eq_false_or_eq_true ((decide (from5 < 0)) || (decide (to6 ≤ from5))) with h19 | h19
    ·have hs := hs.fix 20 (.bool true) rfl (vb h19)
     refine st_skip hs rfl rfl rfl rfl rfl fun a hs => ?_
     refine st_skip hs rfl rfl rfl rfl rfl fun a hs => ?_
     refine st_skip hs rfl rfl rfl rfl rfl fun a hs => ?_
     refine st_skip hs rfl rfl rfl rfl rfl fun a hs => ?_
     refine st_skip hs rfl rfl rfl rfl rfl fun a hs => ?_
     refine st_val hs (y_pickT rfl rfl) trivial rfl rfl fun a hs => ?_
     refine wpList_nil ?_
     refine then_normal ?_
     exact ⟨rfl, (hs.fix 26 (.bool (((decide (from5 < 0)) || (decide (to6 ≤ from5))) || (decide ((r1.Samples.length : Int) < to6)))) rfl (or_t h19)).weaken _ ⟨rfl, rfl, rfl, rfl, rfl, trivial⟩⟩
    ·have hs := hs.fix 20 (.bool false) rfl (vb h19)
     refine st_val hs (y_move rfl) ⟨_, rfl, rfl⟩ rfl rfl fun a hs => ?_
     refine st_val hs (y_fieldAddr (o' := 11) Try.runUnderlying32 rfl Try.sizeOf22 rfl rfl rfl) ⟨_, rfl, rfl⟩ rfl rfl fun a hs => ?_
     refine st_val hs (y_loadB1 (hw.ownAt 1 rfl) rfl Try.isAgg22 rfl) ⟨_, rfl, rfl⟩ rfl rfl fun a hs => ?_
     refine st_val hs (y_len Try.runUnderlying22 rfl) ⟨_, rfl, rfl⟩ rfl rfl fun a hs => ?_
     refine st_val hs (y_gtr rfl rfl) ⟨_, rfl, rfl⟩ rfl rfl fun a hs => ?_
     refine st_val hs (y_pickF rfl rfl) trivial rfl rfl fun a hs => ?_
     refine wpList_nil ?_
     refine then_normal ?_
     exact ⟨rfl, (hs.fix 26 (.bool (((decide (from5 < 0)) || (decide (to6 ≤ from5))) || (decide ((r1.Samples.length : Int) < to6)))) rfl (or_f h19)).weaken _ ⟨rfl, rfl, rfl, rfl, rfl, trivial⟩⟩
   ·rintro a w1 ⟨h34, hs⟩
    subst h34
    refine wpList_nil ?_
    refine then_normal ?_
    refine wp_cond_split (hs.ev rfl) (fun h21 => ?_) (fun h21 => ?_)
    ·have hsh := ite_t hsh h21
     refine wp_seq ?_
     refine wp_region_lit ?_
     refine st_val hs (y_build (vs := []) Bld32 rfl rfl) trivial rfl rfl fun a hs => ?_
     refine w_store (m := 12) (cs' := [.string ByteArray.empty, .string ByteArray.empty, .string ByteArray.empty, .string ByteArray.empty, .int .i64 0, .int .i64 0, .int .i64 0, .int .i64 0, .int .i64 0, .int .i64 0, .int .i64 0, .slice none ([] : List Int).length 0]) hs hw 0 rfl rfl rfl Try.sizeOf32 rfl rfl rfl rfl trivial ?_
     intro a w hs hw
     refine st_val hs (y_assign rfl) trivial rfl rfl fun a hs => ?_
     refine wpList_nil ?_
     refine then_normal ?_
     have hsh := Option.some.inj hsh
     subst hsh
     have hw := hw.nilRow Int 3
     refine wp_ret ?_
     refine then_ret ?_
     exact ret2 hs rfl (rv_cell hw 1 rfl rfl Try.isAgg32 Try.sizeOf32 rfl) (rv_tmp rfl) (hw.ret ⟨none, 0, [], rfl, (hw.outs [0] (by decide) rfl), (hw.envAt 0 rfl)⟩)
    ·have hsh := ite_f hsh h21
     refine wp_skip ?_
     refine then_normal ?_
     refine wp_seq ?_
     refine wp_region_lit ?_
     refine st_val hs (y_loadBA (hw.ownAt 1 rfl) rfl Try.isAgg32 Try.sizeOf32 rfl rfl) trivial rfl rfl fun a hs => ?_
     refine w_alloc (cs := [.string ByteArray.empty, .string ByteArray.empty, .string ByteArray.empty, .string ByteArray.empty, .int .i64 0, .int .i64 0, .int .i64 0, .int .i64 0, .int .i64 0, .int .i64 0, .int .i64 0, .slice none ([] : List Int).length 0]) hs hw Try.zeroValue32 rfl rfl trivial ?_
     intro b22 a w hs hw
     refine w_store (m := 12) (cs' := [.string r1.Source.Network, .string r1.Source.Station, .string r1.Source.Location, .string r1.Source.Channel, .int .i64 r1.Start, .int .i64 r1.First, .int .i64 r1.Rate.Num, .int .i64 r1.Rate.Den, .int .i64 r1.Error, .int .i64 r1.Run, .int .i64 r1.Seq, .slice p2 r1.Samples.length k3]) hs hw 0 rfl rfl rfl Try.sizeOf32 rfl rfl rfl rfl trivial ?_
     intro a w hs hw
     refine wpList_nil ?_
     refine then_normal ?_
     refine wp_seq ?_
     refine wp_region_lit ?_
     refine st_val hs (y_fieldAddr (o' := 5) Try.runUnderlying32 rfl Try.sizeOf3 rfl rfl rfl) trivial rfl rfl fun a hs => ?_
     refine st_val hs (y_loadB1 (hw.ownAt 2 rfl) rfl Try.isAgg3 rfl) trivial rfl rfl fun a hs => ?_
     refine st_val hs (y_move rfl) trivial rfl rfl fun a hs => ?_
     refine st_val hs (y_add rfl rfl) trivial rfl rfl fun a hs => ?_
     refine st_val hs (y_fieldAddr (o' := 5) Try.runUnderlying32 rfl Try.sizeOf3 rfl rfl rfl) trivial rfl rfl fun a hs => ?_
     refine w_store (m := 1) (cs' := [.string r1.Source.Network, .string r1.Source.Station, .string r1.Source.Location, .string r1.Source.Channel, .int .i64 r1.Start, .int .i64 (w64 (r1.First + from5)), .int .i64 r1.Rate.Num, .int .i64 r1.Rate.Den, .int .i64 r1.Error, .int .i64 r1.Run, .int .i64 r1.Seq, .slice p2 r1.Samples.length k3]) hs hw 0 rfl rfl rfl Try.sizeOf3 rfl rfl rfl rfl trivial ?_
     intro a w hs hw
     refine wpList_nil ?_
     refine then_normal ?_
     refine wp_seq ?_
     refine wp_region_lit ?_
     refine st_val hs (y_fieldAddr (o' := 11) Try.runUnderlying32 rfl Try.sizeOf22 rfl rfl rfl) trivial rfl rfl fun a hs => ?_
     refine st_val hs (y_loadB1 (hw.ownAt 2 rfl) rfl Try.isAgg22 rfl) trivial rfl rfl fun a hs => ?_
     refine st_val hs (y_move rfl) trivial rfl rfl fun a hs => ?_
     refine st_val hs (y_move rfl) trivial rfl rfl fun a hs => ?_
     obtain ⟨l28, h23, hsh⟩ := bind_t hsh
     obtain ⟨p26, k27, h24, h25⟩ := sub_env (hw.envAt 0 rfl) h23
     have hw := hw.addE h24
     refine st_val hs (y_slc Try.runUnderlying22 Try.sizeOf3 rfl ⟨_, rfl⟩ ⟨_, rfl⟩ h25) trivial rfl rfl fun a hs => ?_
     obtain ⟨l30, h29, hsh⟩ := bind_t hsh
     have hw := hw.nilRow Int 3
     refine w_appendE (α := Int) hs hw El22 0 rfl rfl rfl 0 rfl 1 rfl h29 rfl trivial ?_
     intro p31 k32 c33 a w hs hw
     refine st_val hs (y_fieldAddr (o' := 11) Try.runUnderlying32 rfl Try.sizeOf22 rfl rfl rfl) trivial rfl rfl fun a hs => ?_
     refine w_store (m := 1) (cs' := [.string r1.Source.Network, .string r1.Source.Station, .string r1.Source.Location, .string r1.Source.Channel, .int .i64 r1.Start, .int .i64 (w64 (r1.First + from5)), .int .i64 r1.Rate.Num, .int .i64 r1.Rate.Den, .int .i64 r1.Error, .int .i64 r1.Run, .int .i64 r1.Seq, .slice p31 l30.length k32]) hs hw 1 rfl rfl rfl Try.sizeOf22 rfl rfl rfl rfl trivial ?_
     intro a w hs hw
     refine wpList_nil ?_
     refine then_normal ?_
     refine wp_seq ?_
     refine wp_region_lit ?_
     refine st_val hs (y_loadBA (hw.ownAt 1 rfl) rfl Try.isAgg32 Try.sizeOf32 rfl rfl) trivial rfl rfl fun a hs => ?_
     refine w_store (m := 12) (cs' := [.string r1.Source.Network, .string r1.Source.Station, .string r1.Source.Location, .string r1.Source.Channel, .int .i64 r1.Start, .int .i64 (w64 (r1.First + from5)), .int .i64 r1.Rate.Num, .int .i64 r1.Rate.Den, .int .i64 r1.Error, .int .i64 r1.Run, .int .i64 r1.Seq, .slice p31 l30.length k32]) hs hw 2 rfl rfl rfl Try.sizeOf32 rfl rfl rfl rfl trivial ?_
     intro a w hs hw
     refine st_val hs (y_assign rfl) trivial rfl rfl fun a hs => ?_
     refine wpList_nil ?_
     refine then_normal ?_
     have hsh := Option.some.inj hsh
     subst hsh
     refine wp_ret ?_
     exact ret2 hs rfl (rv_cell hw 2 rfl rfl Try.isAgg32 Try.sizeOf32 rfl) (rv_tmp rfl) (hw.ret ⟨p31, k32, c33, rfl, (hw.outs [0] (by decide) rfl), (hw.envAt 0 rfl)⟩)

abbrev ref05_Same_rd (w0 : World) (X : List Nat) (r : Bool) : (Nat → Prop) → World → Value → Prop := fun S w v => v = .bool r
set_option maxHeartbeats 4000000 in
set_option maxRecDepth 100000 in
theorem ref05_Same_ok {w0 : World} {S0 : Nat → Prop} {p2 : Option Addr} {k3 : Nat} {p6 : Option Addr} {k7 : Nat} {a1 : (List Int)} {b5 : (List Int)} {r : Bool} (hsh : ref05_Same a1 b5 = some r) (hS : ∀ b, S0 b → b < w0.heap.size) (h4 : (SlA p2 a1.length k3 a1).p S0 w0) (h8 : (SlA p6 b5.length k7 b5).p S0 w0) : Calls Try.prog 59 #[.slice p2 a1.length k3, .slice p6 b5.length k7] w0 (Ret ([]) w0 S0 (ref05_Same_rd w0 ([]) r)) := by
 refine calls_of_wp Try.func59 rfl ?_
 have hs := Sl.enter #[.slice p2 a1.length k3, .slice p6 b5.length k7] 26 [(0, .slice p2 a1.length k3), (1, .slice p6 b5.length k7)] rfl ⟨rfl, rfl, trivial⟩
 have hw := Wd.enter (E := []) hS (fun _ h => (by cases h))
 have hw := hw.addE h4
 have hw := hw.addE h8
 delta ref05_Same at hsh
 refine wp_seq ?_
 refine wp_region_lit ?_
 refine st_val hs (y_assign rfl) trivial rfl rfl fun a hs => ?_
 refine wpList_nil ?_
 refine then_normal ?_
 refine wp_seq ?_
 refine wp_seq ?_
 refine wp_region_lit ?_
 refine st_val hs (y_move rfl) trivial rfl rfl fun a hs => ?_
 refine st_val hs (y_len Try.runUnderlying22 rfl) trivial rfl rfl fun a hs => ?_
 refine st_val hs (y_move rfl) trivial rfl rfl fun a hs => ?_
 refine st_val hs (y_len Try.runUnderlying22 rfl) trivial rfl rfl fun a hs => ?_
 refine st_val hs (y_neq rfl rfl) trivial rfl rfl fun a hs => ?_
 refine wpList_nil ?_
 refine then_normal ?_
 refine wp_cond_split (hs.ev rfl) (fun h10 => ?_) (fun h10 => ?_)
 ·have hsh := ite_t hsh h10
  refine wp_seq ?_
  refine wp_region_lit ?_
  refine st_val hs (y_assign rfl) trivial rfl rfl fun a hs => ?_
  refine wpList_nil ?_
  refine then_normal ?_
  have hsh := Option.some.inj hsh
  subst hsh
  refine wp_ret ?_
  refine then_ret ?_
  exact ret1 hs rfl (rv_tmp rfl) (hw.ret rfl)
 ·have hsh := ite_f hsh h10
  refine wp_skip ?_
  refine then_normal ?_
  refine wp_seq ?_
  refine wp_seq ?_
  refine wp_region_lit ?_
  refine st_val hs (y_assign rfl) trivial rfl rfl fun a hs => ?_
  refine wpList_nil ?_
  refine then_normal ?_
  refine wp_block ?_
  refine wp_while (fun sv109 a w => ∃ (Sv173 : Nat → Prop), Sl 26 [(0, .slice p2 a1.length k3), (1, .slice p6 b5.length k7), (5, .int .i64 sv109)] a ∧ Wd ⟨w0, S0, []⟩ Sv173 [] [SlA p2 a1.length k3 a1, SlA p6 b5.length k7 b5] w) 0 hsh ⟨S0, (hs.wk rfl), (hw.ft [] [1, 0] (by decide) rfl rfl)⟩ ?_
  repeat clear hsh
  rintro sv109 a w tv206 ⟨Sv173, hs, hw⟩ hsh hd205
  delta ref05_Same_l2 at hsh
  refine wp_seq ?_
  refine wp_seq ?_
  refine wp_region_lit ?_
  refine st_val hs (y_move rfl) trivial rfl rfl fun a hs => ?_
  refine st_val hs (y_move rfl) trivial rfl rfl fun a hs => ?_
  refine st_val hs (y_len Try.runUnderlying22 rfl) trivial rfl rfl fun a hs => ?_
  refine st_val hs (y_lss rfl rfl) trivial rfl rfl fun a hs => ?_
  refine wpList_nil ?_
  refine then_normal ?_
  refine wp_cond_split (hs.ev rfl) (fun h210 => ?_) (fun h210 => ?_)
  ·have hsh := ite_t hsh h210
   refine wp_skip ?_
   refine then_normal ?_
   refine wp_seq ?_
   refine wp_block ?_
   refine wp_seq ?_
   obtain ⟨x241, h239, hsh⟩ := bind_t hsh
   obtain ⟨b247, o248, q245, c246, h249, h242, h243, h244, h240⟩ := hw.elemV 0 rfl h239
   have hsv250 := hs
   have hwv251 := hw
   subst h249
   have hs := hsv250
   have hw := hwv251
   obtain ⟨_, rfl, rfl⟩ := h240
   have hw := hw.addE h244
   obtain ⟨x254, h252, hsh⟩ := bind_t hsh
   obtain ⟨b260, o261, q258, c259, h262, h255, h256, h257, h253⟩ := hw.elemV 2 rfl h252
   have hsv263 := hs
   have hwv264 := hw
   subst h262
   have hs := hsv263
   have hw := hwv264
   obtain ⟨_, rfl, rfl⟩ := h253
   have hw := hw.addE h257
   refine wp_only (fun a w => ∃ (Sv265 : Nat → Prop), Sl 26 [(0, .slice (some ⟨b247, o248, none⟩) a1.length k3), (1, .slice (some ⟨b260, o261, none⟩) b5.length k7), (5, .int .i64 sv109), (25, .bool (x241 != x254))] a ∧ Wd ⟨w0, S0, []⟩ Sv265 [] [SlA (some ⟨b247, o248, none⟩) a1.length k3 a1, SlA (some ⟨b260, o261, none⟩) b5.length k7 b5] w) ?_ ?_
   ·refine h_b (C := Cls [] [CeA b260 q258 [.int .i64 x254], CeA b247 q245 [.int .i64 x241]]) (by kernel_rfl) rfl (hw.drew.cs [] [0, 1] rfl rfl) fun hC => ?_
    have hw := hw.drew
    refine h_g hs 0 rfl (by kernel_rfl) rfl rfl hC rfl (fun w hC => y_move rfl) fun a hs => ?_
    refine h_g hs 1 rfl (by kernel_rfl) rfl rfl hC rfl (fun w hC => y_move rfl) fun a hs => ?_
    refine h_g hs 2 rfl (by kernel_rfl) rfl rfl hC rfl (fun w hC => y_indexAt Try.runUnderlying22 Try.sizeOf3 rfl rfl h242.1 h242.2 h243) fun a hs => ?_
    refine h_g hs 3 rfl (by kernel_rfl) rfl rfl hC rfl (fun w hC => y_loadE1 (j := 0) (hC.ceAt 1 rfl) rfl Try.isAgg3 rfl) fun a hs => ?_
    refine h_g hs 4 rfl (by kernel_rfl) rfl rfl hC rfl (fun w hC => y_move rfl) fun a hs => ?_
    refine h_g hs 5 rfl (by kernel_rfl) rfl rfl hC rfl (fun w hC => y_move rfl) fun a hs => ?_
    refine h_g hs 6 rfl (by kernel_rfl) rfl rfl hC rfl (fun w hC => y_indexAt Try.runUnderlying22 Try.sizeOf3 rfl rfl h255.1 h255.2 h256) fun a hs => ?_
    refine h_g hs 7 rfl (by kernel_rfl) rfl rfl hC rfl (fun w hC => y_loadE1 (j := 0) (hC.ceAt 0 rfl) rfl Try.isAgg3 rfl) fun a hs => ?_
    refine h_g hs 8 rfl (by kernel_rfl) rfl rfl hC rfl (fun w hC => y_neq rfl rfl) fun a hs => ?_
    refine h_done (by kernel_rfl) ?_
    exact ⟨Sv173, (hs.wk rfl), (hw.ft [] [2, 3] (by decide) rfl rfl)⟩
   ·rintro a w ⟨Sv265, hs, hw⟩
    refine then_normal ?_
    refine wp_cond_split (hs.ev rfl) (fun h267 => ?_) (fun h267 => ?_)
    ·have hsh := ite_t hsh h267
     refine wp_seq ?_
     refine wp_region_lit ?_
     refine st_val hs (y_assign rfl) trivial rfl rfl fun a hs => ?_
     refine wpList_nil ?_
     refine then_normal ?_
     have hsh := Option.some.inj hsh
     subst hsh
     have h268 := hd205 _ rfl
     subst h268
     refine wp_ret ?_
     refine blk_ret ?_
     refine then_ret ?_
     refine then_ret ?_
     refine blk_ret ?_
     refine then_ret ?_
     exact ret1 hs rfl (rv_tmp rfl) (hw.ret rfl)
    ·have hsh := ite_f hsh h267
     refine wp_skip ?_
     refine blk_normal ?_
     refine then_normal ?_
     refine wp_region_lit ?_
     refine st_val hs (y_move rfl) trivial rfl rfl fun a hs => ?_
     refine st_val hs (y_add rfl rfl) trivial rfl rfl fun a hs => ?_
     obtain ⟨i270, h269, hsh⟩ := bind_t hsh
     refine st_val hs (y_assignI rfl h269) trivial rfl rfl fun a hs => ?_
     refine wpList_nil ?_
     refine then_normal ?_
     exact ⟨_, (Option.some.inj hsh).symm, Sv265, (hs.wk rfl), (hw.ft [] [0, 1] (by decide) rfl rfl)⟩
  ·have hsh := ite_f hsh h210
   obtain ⟨rv271, hsh, h272⟩ := map_t hsh
   have h272 := (hd205 _ h272.symm).symm
   subst h272
   refine wp_exit ?_
   refine then_exit ?_
   refine then_exit ?_
   refine blk_exit ?_
   refine then_normal ?_
   refine wp_seq ?_
   refine wp_region_lit ?_
   refine st_val hs (y_assign rfl) trivial rfl rfl fun a hs => ?_
   refine wpList_nil ?_
   refine then_normal ?_
   have hsh := Option.some.inj hsh
   subst hsh
   refine wp_ret ?_
   exact ret1 hs rfl (rv_tmp rfl) (hw.ret rfl)

abbrev ref14_Same_rd (w0 : World) (X : List Nat) (r : Bool) : (Nat → Prop) → World → Value → Prop := fun S w v => v = .bool r
set_option maxHeartbeats 4000000 in
set_option maxRecDepth 100000 in
theorem ref14_Same_ok {w0 : World} {S0 : Nat → Prop} {p2 : Option Addr} {k3 : Nat} {p6 : Option Addr} {k7 : Nat} {a1 : Record} {b5 : Record} {r : Bool} (hsh : ref14_Same a1 b5 = some r) (hS : ∀ b, S0 b → b < w0.heap.size) (h4 : (SlA p2 a1.Samples.length k3 a1.Samples).p S0 w0) (h8 : (SlA p6 b5.Samples.length k7 b5.Samples).p S0 w0) : Calls Try.prog 29 #[.agg #[.string a1.Source.Network, .string a1.Source.Station, .string a1.Source.Location, .string a1.Source.Channel, .int .i64 a1.Start, .int .i64 a1.First, .int .i64 a1.Rate.Num, .int .i64 a1.Rate.Den, .int .i64 a1.Error, .int .i64 a1.Run, .int .i64 a1.Seq, .slice p2 a1.Samples.length k3], .agg #[.string b5.Source.Network, .string b5.Source.Station, .string b5.Source.Location, .string b5.Source.Channel, .int .i64 b5.Start, .int .i64 b5.First, .int .i64 b5.Rate.Num, .int .i64 b5.Rate.Den, .int .i64 b5.Error, .int .i64 b5.Run, .int .i64 b5.Seq, .slice p6 b5.Samples.length k7]] w0 (Ret ([]) w0 S0 (ref14_Same_rd w0 ([]) r)) := by
 refine calls_of_wp Try.func29 rfl ?_
 have hs := Sl.enter #[.agg #[.string a1.Source.Network, .string a1.Source.Station, .string a1.Source.Location, .string a1.Source.Channel, .int .i64 a1.Start, .int .i64 a1.First, .int .i64 a1.Rate.Num, .int .i64 a1.Rate.Den, .int .i64 a1.Error, .int .i64 a1.Run, .int .i64 a1.Seq, .slice p2 a1.Samples.length k3], .agg #[.string b5.Source.Network, .string b5.Source.Station, .string b5.Source.Location, .string b5.Source.Channel, .int .i64 b5.Start, .int .i64 b5.First, .int .i64 b5.Rate.Num, .int .i64 b5.Rate.Den, .int .i64 b5.Error, .int .i64 b5.Run, .int .i64 b5.Seq, .slice p6 b5.Samples.length k7]] 59 [(0, .agg #[.string a1.Source.Network, .string a1.Source.Station, .string a1.Source.Location, .string a1.Source.Channel, .int .i64 a1.Start, .int .i64 a1.First, .int .i64 a1.Rate.Num, .int .i64 a1.Rate.Den, .int .i64 a1.Error, .int .i64 a1.Run, .int .i64 a1.Seq, .slice p2 a1.Samples.length k3]), (1, .agg #[.string b5.Source.Network, .string b5.Source.Station, .string b5.Source.Location, .string b5.Source.Channel, .int .i64 b5.Start, .int .i64 b5.First, .int .i64 b5.Rate.Num, .int .i64 b5.Rate.Den, .int .i64 b5.Error, .int .i64 b5.Run, .int .i64 b5.Seq, .slice p6 b5.Samples.length k7])] rfl ⟨rfl, rfl, trivial⟩
 have hw := Wd.enter (E := []) hS (fun _ h => (by cases h))
 have hw := hw.addE h4
 have hw := hw.addE h8
 delta ref14_Same at hsh
 refine wp_seq ?_
 refine wp_region_lit ?_
 refine w_box (cs := [.string a1.Source.Network, .string a1.Source.Station, .string a1.Source.Location, .string a1.Source.Channel, .int .i64 a1.Start, .int .i64 a1.First, .int .i64 a1.Rate.Num, .int .i64 a1.Rate.Den, .int .i64 a1.Error, .int .i64 a1.Run, .int .i64 a1.Seq, .slice p2 a1.Samples.length k3]) hs hw rfl rfl rfl trivial ?_
 intro b9 a w hs hw
 refine w_box (cs := [.string b5.Source.Network, .string b5.Source.Station, .string b5.Source.Location, .string b5.Source.Channel, .int .i64 b5.Start, .int .i64 b5.First, .int .i64 b5.Rate.Num, .int .i64 b5.Rate.Den, .int .i64 b5.Error, .int .i64 b5.Run, .int .i64 b5.Seq, .slice p6 b5.Samples.length k7]) hs hw rfl rfl rfl trivial ?_
 intro b10 a w hs hw
 refine st_val hs (y_assign rfl) trivial rfl rfl fun a hs => ?_
 refine wpList_nil ?_
 refine then_normal ?_
 refine wp_seq ?_
 refine wp_region_lit ?_
 refine st_val hs (y_fieldAddr (o' := 0) Try.runUnderlying32 rfl Try.sizeOf28 rfl rfl rfl) trivial rfl rfl fun a hs => ?_
 refine st_val hs (y_loadBA (hw.ownAt 1 rfl) rfl Try.isAgg28 Try.sizeOf28 rfl rfl) trivial rfl rfl fun a hs => ?_
 refine st_val hs (y_fieldAddr (o' := 0) Try.runUnderlying32 rfl Try.sizeOf28 rfl rfl rfl) trivial rfl rfl fun a hs => ?_
 refine st_val hs (y_loadBA (hw.ownAt 0 rfl) rfl Try.isAgg28 Try.sizeOf28 rfl rfl) trivial rfl rfl fun a hs => ?_
 refine st_val hs (y_eqlA (by kernel_rfl) rfl rfl (eqv_struct Try.runUnderlying28 (by kernel_rfl) (EqF.cons1 rfl Try.isAgg9 rfl rfl (eqv_str Try.runUnderlying9) (EqF.cons1 rfl Try.isAgg9 rfl rfl (eqv_str Try.runUnderlying9) (EqF.cons1 rfl Try.isAgg9 rfl rfl (eqv_str Try.runUnderlying9) (EqF.cons1 rfl Try.isAgg9 rfl rfl (eqv_str Try.runUnderlying9) EqF.nil)))))) trivial rfl rfl fun a hs => ?_
 refine st_val hs (y_move rfl) trivial rfl rfl fun a hs => ?_
 refine wpl_join 6 (fun a w1 => w = w1 ∧ Sl 59 [(2, .pointer (some ⟨b9, 0, none⟩)), (3, .pointer (some ⟨b10, 0, none⟩)), (16, .bool (((a1.Source.Network == b5.Source.Network) && ((a1.Source.Station == b5.Source.Station) && ((a1.Source.Location == b5.Source.Location) && ((a1.Source.Channel == b5.Source.Channel) && true)))) && (a1.Start == b5.Start)))] a) ?_ ?_
 ·rcases Bool.eq_false_or_eq_true ((a1.Source.Network == b5.Source.Network) && ((a1.Source.Station == b5.Source.Station) && ((a1.Source.Location == b5.Source.Location) && ((a1.Source.Channel == b5.Source.Channel) && true)))) with h11 | h11
  ·have hs := hs.fix 10 (.bool true) rfl (vb h11)
   refine st_val hs (y_fieldAddr (o' := 4) Try.runUnderlying32 rfl Try.sizeOf3 rfl rfl rfl) ⟨_, rfl, rfl⟩ rfl rfl fun a hs => ?_
   refine st_val hs (y_loadB1 (hw.ownAt 1 rfl) rfl Try.isAgg3 rfl) ⟨_, rfl, rfl⟩ rfl rfl fun a hs => ?_
   refine st_val hs (y_fieldAddr (o' := 4) Try.runUnderlying32 rfl Try.sizeOf3 rfl rfl rfl) ⟨_, rfl, rfl⟩ rfl rfl fun a hs => ?_
   refine st_val hs (y_loadB1 (hw.ownAt 0 rfl) rfl Try.isAgg3 rfl) ⟨_, rfl, rfl⟩ rfl rfl fun a hs => ?_
   refine st_val hs (y_eql rfl rfl) ⟨_, rfl, rfl⟩ rfl rfl fun a hs => ?_
   refine st_val hs (y_pickT rfl rfl) trivial rfl rfl fun a hs => ?_
   refine wpList_nil ?_
   refine then_normal ?_
   exact ⟨rfl, (hs.fix 16 (.bool (((a1.Source.Network == b5.Source.Network) && ((a1.Source.Station == b5.Source.Station) && ((a1.Source.Location == b5.Source.Location) && ((a1.Source.Channel == b5.Source.Channel) && true)))) && (a1.Start == b5.Start))) rfl (and_t h11)).weaken _ ⟨rfl, rfl, rfl, trivial⟩⟩
  ·have hs := hs.fix 10 (.bool false) rfl (vb h11)
   refine st_skip hs rfl rfl rfl rfl rfl fun a hs => ?_
   refine st_skip hs rfl rfl rfl rfl rfl fun a hs => ?_
   refine st_skip hs rfl rfl rfl rfl rfl fun a hs => ?_
   refine st_skip hs rfl rfl rfl rfl rfl fun a hs => ?_
   refine st_skip hs rfl rfl rfl rfl rfl fun a hs => ?_
   refine st_val hs (y_pickF rfl rfl) trivial rfl rfl fun a hs => ?_
   refine wpList_nil ?_
   refine then_normal ?_
   exact ⟨rfl, (hs.fix 16 (.bool (((a1.Source.Network == b5.Source.Network) && ((a1.Source.Station == b5.Source.Station) && ((a1.Source.Location == b5.Source.Location) && ((a1.Source.Channel == b5.Source.Channel) && true)))) && (a1.Start == b5.Start))) rfl (and_f h11)).weaken _ ⟨rfl, rfl, rfl, trivial⟩⟩
 ·rintro a w1 ⟨h39, hs⟩
  subst h39
  refine st_val hs (y_move rfl) trivial rfl rfl fun a hs => ?_
  refine wpl_join 6 (fun a w1 => w = w1 ∧ Sl 59 [(2, .pointer (some ⟨b9, 0, none⟩)), (3, .pointer (some ⟨b10, 0, none⟩)), (23, .bool ((((a1.Source.Network == b5.Source.Network) && ((a1.Source.Station == b5.Source.Station) && ((a1.Source.Location == b5.Source.Location) && ((a1.Source.Channel == b5.Source.Channel) && true)))) && (a1.Start == b5.Start)) && (a1.First == b5.First)))] a) ?_ ?_
  ·rcases Bool.eq_false_or_eq_true (((a1.Source.Network == b5.Source.Network) && ((a1.Source.Station == b5.Source.Station) && ((a1.Source.Location == b5.Source.Location) && ((a1.Source.Channel == b5.Source.Channel) && true)))) && (a1.Start == b5.Start)) with h12 | h12
   ·have hs := hs.fix 17 (.bool true) rfl (vb h12)
    refine st_val hs (y_fieldAddr (o' := 5) Try.runUnderlying32 rfl Try.sizeOf3 rfl rfl rfl) ⟨_, rfl, rfl⟩ rfl rfl fun a hs => ?_
    refine st_val hs (y_loadB1 (hw.ownAt 1 rfl) rfl Try.isAgg3 rfl) ⟨_, rfl, rfl⟩ rfl rfl fun a hs => ?_
    refine st_val hs (y_fieldAddr (o' := 5) Try.runUnderlying32 rfl Try.sizeOf3 rfl rfl rfl) ⟨_, rfl, rfl⟩ rfl rfl fun a hs => ?_
    refine st_val hs (y_loadB1 (hw.ownAt 0 rfl) rfl Try.isAgg3 rfl) ⟨_, rfl, rfl⟩ rfl rfl fun a hs => ?_
    refine st_val hs (y_eql rfl rfl) ⟨_, rfl, rfl⟩ rfl rfl fun a hs => ?_
    refine st_val hs (y_pickT rfl rfl) trivial rfl rfl fun a hs => ?_
    refine wpList_nil ?_
    refine then_normal ?_
    exact ⟨rfl, (hs.fix 23 (.bool ((((a1.Source.Network == b5.Source.Network) && ((a1.Source.Station == b5.Source.Station) && ((a1.Source.Location == b5.Source.Location) && ((a1.Source.Channel == b5.Source.Channel) && true)))) && (a1.Start == b5.Start)) && (a1.First == b5.First))) rfl (and_t h12)).weaken _ ⟨rfl, rfl, rfl, trivial⟩⟩
   ·have hs := hs.fix 17 (.bool false) rfl (vb h12)
    refine st_skip hs rfl rfl rfl rfl rfl fun a hs => ?_
    refine st_skip hs rfl rfl rfl rfl rfl fun a hs => ?_
    refine st_skip hs rfl rfl rfl rfl rfl fun a hs => ?_
    refine st_skip hs rfl rfl rfl rfl rfl fun a hs => ?_
    refine st_skip hs rfl rfl rfl rfl rfl fun a hs => ?_
    refine st_val hs (y_pickF rfl rfl) trivial rfl rfl fun a hs => ?_
    refine wpList_nil ?_
    refine then_normal ?_
    exact ⟨rfl, (hs.fix 23 (.bool ((((a1.Source.Network == b5.Source.Network) && ((a1.Source.Station == b5.Source.Station) && ((a1.Source.Location == b5.Source.Location) && ((a1.Source.Channel == b5.Source.Channel) && true)))) && (a1.Start == b5.Start)) && (a1.First == b5.First))) rfl (and_f h12)).weaken _ ⟨rfl, rfl, rfl, trivial⟩⟩
  ·rintro a w1 ⟨h38, hs⟩
   subst h38
   refine st_val hs (y_move rfl) trivial rfl rfl fun a hs => ?_
   refine wpl_join 6 (fun a w1 => w = w1 ∧ Sl 59 [(2, .pointer (some ⟨b9, 0, none⟩)), (3, .pointer (some ⟨b10, 0, none⟩)), (30, .bool (((((a1.Source.Network == b5.Source.Network) && ((a1.Source.Station == b5.Source.Station) && ((a1.Source.Location == b5.Source.Location) && ((a1.Source.Channel == b5.Source.Channel) && true)))) && (a1.Start == b5.Start)) && (a1.First == b5.First)) && ((a1.Rate.Num == b5.Rate.Num) && ((a1.Rate.Den == b5.Rate.Den) && true))))] a) ?_ ?_
   ·rcases Bool.eq_false_or_eq_true ((((a1.Source.Network == b5.Source.Network) && ((a1.Source.Station == b5.Source.Station) && ((a1.Source.Location == b5.Source.Location) && ((a1.Source.Channel == b5.Source.Channel) && true)))) && (a1.Start == b5.Start)) && (a1.First == b5.First)) with h13 | h13
    ·have hs := hs.fix 24 (.bool true) rfl (vb h13)
     refine st_val hs (y_fieldAddr (o' := 6) Try.runUnderlying32 rfl Try.sizeOf30 rfl rfl rfl) ⟨_, rfl, rfl⟩ rfl rfl fun a hs => ?_
     refine st_val hs (y_loadBA (hw.ownAt 1 rfl) rfl Try.isAgg30 Try.sizeOf30 rfl rfl) ⟨_, rfl, rfl⟩ rfl rfl fun a hs => ?_
     refine st_val hs (y_fieldAddr (o' := 6) Try.runUnderlying32 rfl Try.sizeOf30 rfl rfl rfl) ⟨_, rfl, rfl⟩ rfl rfl fun a hs => ?_
     refine st_val hs (y_loadBA (hw.ownAt 0 rfl) rfl Try.isAgg30 Try.sizeOf30 rfl rfl) ⟨_, rfl, rfl⟩ rfl rfl fun a hs => ?_
     refine st_val hs (y_eqlA (by kernel_rfl) rfl rfl (eqv_struct Try.runUnderlying30 (by kernel_rfl) (EqF.cons1 rfl Try.isAgg3 rfl rfl (eqv_int Try.runUnderlying3) (EqF.cons1 rfl Try.isAgg3 rfl rfl (eqv_int Try.runUnderlying3) EqF.nil)))) ⟨_, rfl, rfl⟩ rfl rfl fun a hs => ?_
     refine st_val hs (y_pickT rfl rfl) trivial rfl rfl fun a hs => ?_
     refine wpList_nil ?_
     refine then_normal ?_
     exact ⟨rfl, (hs.fix 30 (.bool (((((a1.Source.Network == b5.Source.Network) && ((a1.Source.Station == b5.Source.Station) && ((a1.Source.Location == b5.Source.Location) && ((a1.Source.Channel == b5.Source.Channel) && true)))) && (a1.Start == b5.Start)) && (a1.First == b5.First)) && ((a1.Rate.Num == b5.Rate.Num) && ((a1.Rate.Den == b5.Rate.Den) && true)))) rfl (and_t h13)).weaken _ ⟨rfl, rfl, rfl, trivial⟩⟩
    ·have hs := hs.fix 24 (.bool false) rfl (vb h13)
     refine st_skip hs rfl rfl rfl rfl rfl fun a hs => ?_
     refine st_skip hs rfl rfl rfl rfl rfl fun a hs => ?_
     refine st_skip hs rfl rfl rfl rfl rfl fun a hs => ?_
     refine st_skip hs rfl rfl rfl rfl rfl fun a hs => ?_
     refine st_skip hs rfl rfl rfl rfl rfl fun a hs => ?_
     refine st_val hs (y_pickF rfl rfl) trivial rfl rfl fun a hs => ?_
     refine wpList_nil ?_
     refine then_normal ?_
     exact ⟨rfl, (hs.fix 30 (.bool (((((a1.Source.Network == b5.Source.Network) && ((a1.Source.Station == b5.Source.Station) && ((a1.Source.Location == b5.Source.Location) && ((a1.Source.Channel == b5.Source.Channel) && true)))) && (a1.Start == b5.Start)) && (a1.First == b5.First)) && ((a1.Rate.Num == b5.Rate.Num) && ((a1.Rate.Den == b5.Rate.Den) && true)))) rfl (and_f h13)).weaken _ ⟨rfl, rfl, rfl, trivial⟩⟩
   ·rintro a w1 ⟨h37, hs⟩
    subst h37
    refine st_val hs (y_move rfl) trivial rfl rfl fun a hs => ?_
    refine wpl_join 6 (fun a w1 => w = w1 ∧ Sl 59 [(2, .pointer (some ⟨b9, 0, none⟩)), (3, .pointer (some ⟨b10, 0, none⟩)), (37, .bool ((((((a1.Source.Network == b5.Source.Network) && ((a1.Source.Station == b5.Source.Station) && ((a1.Source.Location == b5.Source.Location) && ((a1.Source.Channel == b5.Source.Channel) && true)))) && (a1.Start == b5.Start)) && (a1.First == b5.First)) && ((a1.Rate.Num == b5.Rate.Num) && ((a1.Rate.Den == b5.Rate.Den) && true))) && (a1.Error == b5.Error)))] a) ?_ ?_
    ·rcases Bool.eq_false_or_eq_true (((((a1.Source.Network == b5.Source.Network) && ((a1.Source.Station == b5.Source.Station) && ((a1.Source.Location == b5.Source.Location) && ((a1.Source.Channel == b5.Source.Channel) && true)))) && (a1.Start == b5.Start)) && (a1.First == b5.First)) && ((a1.Rate.Num == b5.Rate.Num) && ((a1.Rate.Den == b5.Rate.Den) && true))) with h14 | h14
     ·have hs := hs.fix 31 (.bool true) rfl (vb h14)
      refine st_val hs (y_fieldAddr (o' := 8) Try.runUnderlying32 rfl Try.sizeOf3 rfl rfl rfl) ⟨_, rfl, rfl⟩ rfl rfl fun a hs => ?_
      refine st_val hs (y_loadB1 (hw.ownAt 1 rfl) rfl Try.isAgg3 rfl) ⟨_, rfl, rfl⟩ rfl rfl fun a hs => ?_
      refine st_val hs (y_fieldAddr (o' := 8) Try.runUnderlying32 rfl Try.sizeOf3 rfl rfl rfl) ⟨_, rfl, rfl⟩ rfl rfl fun a hs => ?_
      refine st_val hs (y_loadB1 (hw.ownAt 0 rfl) rfl Try.isAgg3 rfl) ⟨_, rfl, rfl⟩ rfl rfl fun a hs => ?_
      refine st_val hs (y_eql rfl rfl) ⟨_, rfl, rfl⟩ rfl rfl fun a hs => ?_
      refine st_val hs (y_pickT rfl rfl) trivial rfl rfl fun a hs => ?_
      refine wpList_nil ?_
      refine then_normal ?_
      exact ⟨rfl, (hs.fix 37 (.bool ((((((a1.Source.Network == b5.Source.Network) && ((a1.Source.Station == b5.Source.Station) && ((a1.Source.Location == b5.Source.Location) && ((a1.Source.Channel == b5.Source.Channel) && true)))) && (a1.Start == b5.Start)) && (a1.First == b5.First)) && ((a1.Rate.Num == b5.Rate.Num) && ((a1.Rate.Den == b5.Rate.Den) && true))) && (a1.Error == b5.Error))) rfl (and_t h14)).weaken _ ⟨rfl, rfl, rfl, trivial⟩⟩
     ·have hs := hs.fix 31 (.bool false) rfl (vb h14)
      refine st_skip hs rfl rfl rfl rfl rfl fun a hs => ?_
      refine st_skip hs rfl rfl rfl rfl rfl fun a hs => ?_
      refine st_skip hs rfl rfl rfl rfl rfl fun a hs => ?_
      refine st_skip hs rfl rfl rfl rfl rfl fun a hs => ?_
      refine st_skip hs rfl rfl rfl rfl rfl fun a hs => ?_
      refine st_val hs (y_pickF rfl rfl) trivial rfl rfl fun a hs => ?_
      refine wpList_nil ?_
      refine then_normal ?_
      exact ⟨rfl, (hs.fix 37 (.bool ((((((a1.Source.Network == b5.Source.Network) && ((a1.Source.Station == b5.Source.Station) && ((a1.Source.Location == b5.Source.Location) && ((a1.Source.Channel == b5.Source.Channel) && true)))) && (a1.Start == b5.Start)) && (a1.First == b5.First)) && ((a1.Rate.Num == b5.Rate.Num) && ((a1.Rate.Den == b5.Rate.Den) && true))) && (a1.Error == b5.Error))) rfl (and_f h14)).weaken _ ⟨rfl, rfl, rfl, trivial⟩⟩
    ·rintro a w1 ⟨h36, hs⟩
     subst h36
     refine st_val hs (y_move rfl) trivial rfl rfl fun a hs => ?_
     refine wpl_join 6 (fun a w1 => w = w1 ∧ Sl 59 [(2, .pointer (some ⟨b9, 0, none⟩)), (3, .pointer (some ⟨b10, 0, none⟩)), (44, .bool (((((((a1.Source.Network == b5.Source.Network) && ((a1.Source.Station == b5.Source.Station) && ((a1.Source.Location == b5.Source.Location) && ((a1.Source.Channel == b5.Source.Channel) && true)))) && (a1.Start == b5.Start)) && (a1.First == b5.First)) && ((a1.Rate.Num == b5.Rate.Num) && ((a1.Rate.Den == b5.Rate.Den) && true))) && (a1.Error == b5.Error)) && (a1.Run == b5.Run)))] a) ?_ ?_
     ·rcases Bool.eq_false_or_eq_true ((((((a1.Source.Network == b5.Source.Network) && ((a1.Source.Station == b5.Source.Station) && ((a1.Source.Location == b5.Source.Location) && ((a1.Source.Channel == b5.Source.Channel) && true)))) && (a1.Start == b5.Start)) && (a1.First == b5.First)) && ((a1.Rate.Num == b5.Rate.Num) && ((a1.Rate.Den == b5.Rate.Den) && true))) && (a1.Error == b5.Error)) with h15 | h15
      ·have hs := hs.fix 38 (.bool true) rfl (vb h15)
       refine st_val hs (y_fieldAddr (o' := 9) Try.runUnderlying32 rfl Try.sizeOf3 rfl rfl rfl) ⟨_, rfl, rfl⟩ rfl rfl fun a hs => ?_
       refine st_val hs (y_loadB1 (hw.ownAt 1 rfl) rfl Try.isAgg3 rfl) ⟨_, rfl, rfl⟩ rfl rfl fun a hs => ?_
       refine st_val hs (y_fieldAddr (o' := 9) Try.runUnderlying32 rfl Try.sizeOf3 rfl rfl rfl) ⟨_, rfl, rfl⟩ rfl rfl fun a hs => ?_
       refine st_val hs (y_loadB1 (hw.ownAt 0 rfl) rfl Try.isAgg3 rfl) ⟨_, rfl, rfl⟩ rfl rfl fun a hs => ?_
       refine st_val hs (y_eql rfl rfl) ⟨_, rfl, rfl⟩ rfl rfl fun a hs => ?_
       refine st_val hs (y_pickT rfl rfl) trivial rfl rfl fun a hs => ?_
       refine wpList_nil ?_
       refine then_normal ?_
       exact ⟨rfl, (hs.fix 44 (.bool (((((((a1.Source.Network == b5.Source.Network) && ((a1.Source.Station == b5.Source.Station) && ((a1.Source.Location == b5.Source.Location) && ((a1.Source.Channel == b5.Source.Channel) && true)))) && (a1.Start == b5.Start)) && (a1.First == b5.First)) && ((a1.Rate.Num == b5.Rate.Num) && ((a1.Rate.Den == b5.Rate.Den) && true))) && (a1.Error == b5.Error)) && (a1.Run == b5.Run))) rfl (and_t h15)).weaken _ ⟨rfl, rfl, rfl, trivial⟩⟩
      ·have hs := hs.fix 38 (.bool false) rfl (vb h15)
       refine st_skip hs rfl rfl rfl rfl rfl fun a hs => ?_
       refine st_skip hs rfl rfl rfl rfl rfl fun a hs => ?_
       refine st_skip hs rfl rfl rfl rfl rfl fun a hs => ?_
       refine st_skip hs rfl rfl rfl rfl rfl fun a hs => ?_
       refine st_skip hs rfl rfl rfl rfl rfl fun a hs => ?_
       refine st_val hs (y_pickF rfl rfl) trivial rfl rfl fun a hs => ?_
       refine wpList_nil ?_
       refine then_normal ?_
       exact ⟨rfl, (hs.fix 44 (.bool (((((((a1.Source.Network == b5.Source.Network) && ((a1.Source.Station == b5.Source.Station) && ((a1.Source.Location == b5.Source.Location) && ((a1.Source.Channel == b5.Source.Channel) && true)))) && (a1.Start == b5.Start)) && (a1.First == b5.First)) && ((a1.Rate.Num == b5.Rate.Num) && ((a1.Rate.Den == b5.Rate.Den) && true))) && (a1.Error == b5.Error)) && (a1.Run == b5.Run))) rfl (and_f h15)).weaken _ ⟨rfl, rfl, rfl, trivial⟩⟩
     ·rintro a w1 ⟨h35, hs⟩
      subst h35
      refine st_val hs (y_move rfl) trivial rfl rfl fun a hs => ?_
      refine wpl_join 6 (fun a w1 => w = w1 ∧ Sl 59 [(2, .pointer (some ⟨b9, 0, none⟩)), (3, .pointer (some ⟨b10, 0, none⟩)), (51, .bool ((((((((a1.Source.Network == b5.Source.Network) && ((a1.Source.Station == b5.Source.Station) && ((a1.Source.Location == b5.Source.Location) && ((a1.Source.Channel == b5.Source.Channel) && true)))) && (a1.Start == b5.Start)) && (a1.First == b5.First)) && ((a1.Rate.Num == b5.Rate.Num) && ((a1.Rate.Den == b5.Rate.Den) && true))) && (a1.Error == b5.Error)) && (a1.Run == b5.Run)) && (a1.Seq == b5.Seq)))] a) ?_ ?_
      ·rcases Bool.eq_false_or_eq_true (((((((a1.Source.Network == b5.Source.Network) && ((a1.Source.Station == b5.Source.Station) && ((a1.Source.Location == b5.Source.Location) && ((a1.Source.Channel == b5.Source.Channel) && true)))) && (a1.Start == b5.Start)) && (a1.First == b5.First)) && ((a1.Rate.Num == b5.Rate.Num) && ((a1.Rate.Den == b5.Rate.Den) && true))) && (a1.Error == b5.Error)) && (a1.Run == b5.Run)) with h16 | h16
       ·have hs := hs.fix 45 (.bool true) rfl (vb h16)
        refine st_val hs (y_fieldAddr (o' := 10) Try.runUnderlying32 rfl Try.sizeOf3 rfl rfl rfl) ⟨_, rfl, rfl⟩ rfl rfl fun a hs => ?_
        refine st_val hs (y_loadB1 (hw.ownAt 1 rfl) rfl Try.isAgg3 rfl) ⟨_, rfl, rfl⟩ rfl rfl fun a hs => ?_
        refine st_val hs (y_fieldAddr (o' := 10) Try.runUnderlying32 rfl Try.sizeOf3 rfl rfl rfl) ⟨_, rfl, rfl⟩ rfl rfl fun a hs => ?_
        refine st_val hs (y_loadB1 (hw.ownAt 0 rfl) rfl Try.isAgg3 rfl) ⟨_, rfl, rfl⟩ rfl rfl fun a hs => ?_
        refine st_val hs (y_eql rfl rfl) ⟨_, rfl, rfl⟩ rfl rfl fun a hs => ?_
        refine st_val hs (y_pickT rfl rfl) trivial rfl rfl fun a hs => ?_
        refine wpList_nil ?_
        refine then_normal ?_
        exact ⟨rfl, (hs.fix 51 (.bool ((((((((a1.Source.Network == b5.Source.Network) && ((a1.Source.Station == b5.Source.Station) && ((a1.Source.Location == b5.Source.Location) && ((a1.Source.Channel == b5.Source.Channel) && true)))) && (a1.Start == b5.Start)) && (a1.First == b5.First)) && ((a1.Rate.Num == b5.Rate.Num) && ((a1.Rate.Den == b5.Rate.Den) && true))) && (a1.Error == b5.Error)) && (a1.Run == b5.Run)) && (a1.Seq == b5.Seq))) rfl (and_t h16)).weaken _ ⟨rfl, rfl, rfl, trivial⟩⟩
       ·have hs := hs.fix 45 (.bool false) rfl (vb h16)
        refine st_skip hs rfl rfl rfl rfl rfl fun a hs => ?_
        refine st_skip hs rfl rfl rfl rfl rfl fun a hs => ?_
        refine st_skip hs rfl rfl rfl rfl rfl fun a hs => ?_
        refine st_skip hs rfl rfl rfl rfl rfl fun a hs => ?_
        refine st_skip hs rfl rfl rfl rfl rfl fun a hs => ?_
        refine st_val hs (y_pickF rfl rfl) trivial rfl rfl fun a hs => ?_
        refine wpList_nil ?_
        refine then_normal ?_
        exact ⟨rfl, (hs.fix 51 (.bool ((((((((a1.Source.Network == b5.Source.Network) && ((a1.Source.Station == b5.Source.Station) && ((a1.Source.Location == b5.Source.Location) && ((a1.Source.Channel == b5.Source.Channel) && true)))) && (a1.Start == b5.Start)) && (a1.First == b5.First)) && ((a1.Rate.Num == b5.Rate.Num) && ((a1.Rate.Den == b5.Rate.Den) && true))) && (a1.Error == b5.Error)) && (a1.Run == b5.Run)) && (a1.Seq == b5.Seq))) rfl (and_f h16)).weaken _ ⟨rfl, rfl, rfl, trivial⟩⟩
      ·rintro a w1 ⟨h34, hs⟩
       subst h34
       refine st_val hs (y_move rfl) trivial rfl rfl fun a hs => ?_
       obtain ⟨c25, hc25, hsh⟩ := bind_t hsh
       refine wpl_join 6 (fun a w => ∃ (Sv26 : Nat → Prop), Sl 59 [(58, .bool c25)] a ∧ Wd ⟨w0, S0, []⟩ Sv26 [] [] w) ?_ ?_
       ·rcases Bool.eq_false_or_eq_true ((((((((a1.Source.Network == b5.Source.Network) && ((a1.Source.Station == b5.Source.Station) && ((a1.Source.Location == b5.Source.Location) && ((a1.Source.Channel == b5.Source.Channel) && true)))) && (a1.Start == b5.Start)) && (a1.First == b5.First)) && ((a1.Rate.Num == b5.Rate.Num) && ((a1.Rate.Den == b5.Rate.Den) && true))) && (a1.Error == b5.Error)) && (a1.Run == b5.Run)) && (a1.Seq == b5.Seq)) with h24 | h24
        ·have hs := hs.fix 52 (.bool true) rfl (vb h24)
         have hsh := ite_t hc25 h24
         refine st_val hs (y_fieldAddr (o' := 11) Try.runUnderlying32 rfl Try.sizeOf22 rfl rfl rfl) ⟨_, rfl, rfl⟩ rfl rfl fun a hs => ?_
         refine st_val hs (y_loadB1 (hw.ownAt 1 rfl) rfl Try.isAgg22 rfl) ⟨_, rfl, rfl⟩ rfl rfl fun a hs => ?_
         refine st_val hs (y_fieldAddr (o' := 11) Try.runUnderlying32 rfl Try.sizeOf22 rfl rfl rfl) ⟨_, rfl, rfl⟩ rfl rfl fun a hs => ?_
         refine st_val hs (y_loadB1 (hw.ownAt 0 rfl) rfl Try.isAgg22 rfl) ⟨_, rfl, rfl⟩ rfl rfl fun a hs => ?_
         obtain ⟨rv28, h27, hsh⟩ := bind_t hsh
         refine st_callR hs (ref05_Same_ok h27 hw.bdom (hw.bE 1 rfl) (hw.bE 0 rfl)) (do_call Try.call59 rfl) ⟨_, rfl, rfl⟩ rfl rfl ?_
         intro v32 Sv29 w a h30 h31 hs
         subst h31
         have hw := hw.callB h30
         refine st_val hs (y_pickT rfl rfl) trivial rfl rfl fun a hs => ?_
         refine wpList_nil ?_
         have hsh := Option.some.inj hsh
         subst hsh
         refine then_normal ?_
         exact ⟨S0, (hs.wk rfl), (hw.ft [] [] (by decide) rfl rfl)⟩
        ·have hs := hs.fix 52 (.bool false) rfl (vb h24)
         have hsh := ite_f hc25 h24
         refine st_skip hs rfl rfl rfl rfl rfl fun a hs => ?_
         refine st_skip hs rfl rfl rfl rfl rfl fun a hs => ?_
         refine st_skip hs rfl rfl rfl rfl rfl fun a hs => ?_
         refine st_skip hs rfl rfl rfl rfl rfl fun a hs => ?_
         refine st_skip hs rfl rfl rfl rfl rfl fun a hs => ?_
         refine st_val hs (y_pickF rfl rfl) trivial rfl rfl fun a hs => ?_
         refine wpList_nil ?_
         have hsh := Option.some.inj hsh
         subst hsh
         refine then_normal ?_
         exact ⟨S0, (hs.wk rfl), (hw.ft [] [] (by decide) rfl rfl)⟩
       ·rintro a w ⟨Sv26, hs, hw⟩
        refine st_val hs (y_assign rfl) trivial rfl rfl fun a hs => ?_
        refine wpList_nil ?_
        refine then_normal ?_
        have hsh := Option.some.inj hsh
        subst hsh
        refine wp_ret ?_
        exact ret1 hs rfl (rv_tmp rfl) (hw.ret rfl)

end Go.Proofs.Ytdifjkamipeibaa.Wk

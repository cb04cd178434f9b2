/- The walks of RecordWindows, part 2: each Go function computes what its plain program computes. Printed by a program of ours. -/
import Derived.Test.YtdifjkamipeibaaProg
import Derived.Test.YtdifjkamipeibaaDat
import Derived.Test.YtdifjkamipeibaaSh
import Derived.Test.YtdifjkamipeibaaLibL
import Derived.KernelRfl
import Derived.Test.YtdifjkamipeibaaWRecordWindows1
namespace Go.Proofs.Ytdifjkamipeibaa.Wk
open Go Go.RowKit Go.Proofs Go.Proofs.Ytdifjkamipeibaa.Sh
set_option linter.unusedVariables false
set_option linter.unusedSimpArgs false

abbrev made_Dice_Record_rd (w0 : World) (bd : Nat) (r : (Record × Dice)) : (Nat → Prop) → World → Value → Prop := fun S w v => ∃ (p0_11 : Option Addr) (k0_11 : Nat) (c0_11 : List Value) (q0_0 : Option Addr) (m0_0 : Nat), v = .agg #[.string r.1.Source.Network, .string r.1.Source.Station, .string r.1.Source.Location, .string r.1.Source.Channel, .int .i64 r.1.Start, .int .i64 r.1.First, .int .i64 r.1.Rate.Num, .int .i64 r.1.Rate.Den, .int .i64 r.1.Error, .int .i64 r.1.Run, .int .i64 r.1.Seq, .slice p0_11 r.1.Samples.length k0_11] ∧ Fresh w0 S w (.row p0_11 r.1.Samples.length k0_11 c0_11 3 1) ∧ (RowA c0_11 r.1.Samples).p S w ∧ w.heap[bd]? = some (.cells #[.slice q0_0 r.2.L.length m0_0, .int .i64 r.2.At] 60 (0, 0)) ∧ (SlA q0_0 r.2.L.length m0_0 r.2.L).p S w
abbrev D10t1 (b10 : Nat) (b11 : Nat) (b2 : Nat) (b44 : Nat) (n9 : Int) : Slots := [(0, .pointer (some ⟨b2, 0, none⟩)), (2, .int .i64 n9), (4, .pointer (some ⟨b10, 0, none⟩)), (6, .pointer (some ⟨b11, 0, none⟩)), (7, .pointer (some ⟨b44, 0, none⟩))]
abbrev D10t2 (b2 : Nat) (b52 : Nat) (b60 : Nat) (b79 : Nat) (rv39 : (Rate × Int)) (rv46 : (Int × Dice)) (rv54 : (Int × Dice)) (rv62 : (Int × Dice)) (rv68 : (Int × Dice)) (rv74 : (Int × Dice)) (s8 : SourceID) : Vs := [(0, 21, .agg #[.string s8.Network, .string s8.Station, .string s8.Location, .string s8.Channel]), (1, 22, .pointer (some ⟨b2, 0, none⟩)), (2, 23, .int .i64 rv46.1), (3, 24, .int .i64 (w64 (250000 * rv46.1))), (4, 25, .int .i64 (w64 (1000000000000 + (w64 (250000 * rv46.1))))), (5, 26, .pointer (some ⟨b2, 0, none⟩)), (6, 27, .slice (some ⟨b52, 0, none⟩) ([0, 0, 3] : List Int).length ([0, 0, 3] : List Int).length), (7, 28, .int .i64 rv54.1), (8, 29, .agg #[.int .i64 rv39.1.Num, .int .i64 rv39.1.Den]), (9, 30, .pointer (some ⟨b2, 0, none⟩)), (10, 31, .slice (some ⟨b60, 0, none⟩) ([0, 0, 10, 500] : List Int).length ([0, 0, 10, 500] : List Int).length), (11, 32, .int .i64 rv62.1), (12, 33, .pointer (some ⟨b2, 0, none⟩)), (13, 34, .int .i64 rv68.1), (14, 35, .pointer (some ⟨b2, 0, none⟩)), (15, 36, .int .i64 rv74.1), (16, 37, .agg #[.string s8.Network, .string s8.Station, .string s8.Location, .string s8.Channel, .int .i64 (w64 (1000000000000 + (w64 (250000 * rv46.1)))), .int .i64 rv54.1, .int .i64 rv39.1.Num, .int .i64 rv39.1.Den, .int .i64 rv62.1, .int .i64 rv68.1, .int .i64 rv74.1, .slice none ([] : List Int).length 0]), (17, 9, .pointer (some ⟨b79, 0, none⟩))]
abbrev D10t3 : List Value := [.int .i64 0, .int .i64 0, .int .i64 3]
abbrev D10t4 : List Int := ([0, 0, 3] : List Int)
abbrev D10t5 : List Value := [.int .i64 0, .int .i64 0, .int .i64 10, .int .i64 500]
abbrev D10t6 : List Int := ([0, 0, 10, 500] : List Int)
set_option maxHeartbeats 4000000 in
set_option maxRecDepth 100000 in
theorem made_Dice_Record_ok {w0 : World} {S0 : Nat → Prop} {b2 : Nat} {p3 : Option Addr} {k4 : Nat} {d1 : Dice} {s8 : SourceID} {n9 : Int} {r : (Record × Dice)} (hsh : made_Dice_Record d1 s8 n9 = some r) (hS : ∀ b, S0 b → b < w0.heap.size) (h5 : w0.heap[b2]? = some (.cells #[.slice p3 d1.L.length k4, .int .i64 d1.At] 60 (0, 0))) (h6 : ¬ S0 b2) (h7 : (SlA p3 d1.L.length k4 d1.L).p S0 w0) : Calls Try.prog 10 #[.pointer (some ⟨b2, 0, none⟩), .agg #[.string s8.Network, .string s8.Station, .string s8.Location, .string s8.Channel], .int .i64 n9] w0 (Ret [b2] w0 S0 (made_Dice_Record_rd w0 b2 r)) := by
  refine calls_of_wp Try.func10 rfl ?_
  have hs := Sl.enter #[.pointer (some ⟨b2, 0, none⟩), .agg #[.string s8.Network, .string s8.Station, .string s8.Location, .string s8.Channel], .int .i64 n9] 54 [(0, .pointer (some ⟨b2, 0, none⟩)), (1, .agg #[.string s8.Network, .string s8.Station, .string s8.Location, .string s8.Channel]), (2, .int .i64 n9)] rfl ⟨rfl, rfl, rfl, trivial⟩
  have hw := Wd.enter1 (E := []) hS h5 h6 (fun _ h => (by cases h))
  have hw := hw.addE h7
  delta made_Dice_Record at hsh
  refine wp_seq ?_
  refine wp_region_lit ?_
  refine w_box (cs := [.string s8.Network, .string s8.Station, .string s8.Location, .string s8.Channel]) hs hw rfl rfl rfl trivial ?_
  intro b10 a w hs hw
  refine w_alloc (cs := [.string ByteArray.empty, .string ByteArray.empty, .string ByteArray.empty, .string ByteArray.empty, .int .i64 0, .int .i64 0, .int .i64 0, .int .i64 0, .int .i64 0, .int .i64 0, .int .i64 0, .slice none ([] : List Int).length 0]) hs hw Try.zeroValue32 rfl rfl trivial ?_
  intro b11 a w hs hw
  refine wpList_nil ?_
  refine then_normal ?_
  refine wp_seq ?_
  refine wp_region_lit ?_
  refine st_val hs (y_move rfl) trivial rfl rfl fun a hs => ?_
  refine w_litSlice (α := Int) (vs := [.int .i64 1, .int .i64 2, .int .i64 2, .int .i64 3]) (cs := [.int .i64 1, .int .i64 2, .int .i64 2, .int .i64 3]) (xs := ([1, 2, 2, 3] : List Int)) hs hw El22 rfl rfl rfl rfl rfl rfl ⟨⟨_, rfl, rfl⟩, ⟨⟨_, rfl, rfl⟩, ⟨⟨_, rfl, rfl⟩, ⟨⟨_, rfl, rfl⟩, rfl⟩⟩⟩⟩ rfl trivial rfl fun b13 a w hs hw => ?_
  obtain ⟨rv15, h14, hsh⟩ := bind_t hsh
  obtain ⟨Sv20, hw⟩ := w_share (α := Int) hw 0 rfl 0 rfl (.inr ⟨3, _, _, _, rfl, rfl, rfl⟩)
  refine st_callR hs (made_Dice_Pick_ok h14 hw.dom (hw.ownAt 2 rfl) (hw.boxS 2 rfl) (hw.envAt 2 rfl) (hw.envAt 0 rfl)) (do_call Try.call36 rfl) trivial rfl rfl ?_
  intro v24 Sv21 w a h22 h23 hs
  obtain ⟨p17, k18, rfl, h16, h19⟩ := h23
  have hw := hw.call1 2 rfl h22 h16
  have hw := hw.addE (e := SlA p17 rv15.2.L.length k18 rv15.2.L) h19
  refine st_val hs (y_move rfl) trivial rfl rfl fun a hs => ?_
  refine w_litSlice (α := Int) (vs := [.int .i64 1, .int .i64 1, .int .i64 1, .int .i64 3]) (cs := [.int .i64 1, .int .i64 1, .int .i64 1, .int .i64 3]) (xs := ([1, 1, 1, 3] : List Int)) hs hw El22 rfl rfl rfl rfl rfl rfl ⟨⟨_, rfl, rfl⟩, ⟨⟨_, rfl, rfl⟩, ⟨⟨_, rfl, rfl⟩, ⟨⟨_, rfl, rfl⟩, rfl⟩⟩⟩⟩ rfl trivial rfl fun b26 a w hs hw => ?_
  obtain ⟨rv28, h27, hsh⟩ := bind_t hsh
  obtain ⟨Sv33, hw⟩ := w_share (α := Int) hw 0 rfl 0 rfl (.inr ⟨3, _, _, _, rfl, rfl, rfl⟩)
  refine st_callR hs (made_Dice_Pick_ok h27 hw.dom (hw.ownAt 2 rfl) (hw.boxS 2 rfl) (hw.envAt 2 rfl) (hw.envAt 0 rfl)) (do_call Try.call36 rfl) trivial rfl rfl ?_
  intro v37 Sv34 w a h35 h36 hs
  obtain ⟨p30, k31, rfl, h29, h32⟩ := h36
  have hw := hw.call1 2 rfl h35 h29
  have hw := hw.addE (e := SlA p30 rv28.2.L.length k31 rv28.2.L) h32
  obtain ⟨rv39, h38, hsh⟩ := bind_t hsh
  refine st_callR hs (ref02_New_ok h38 hw.dom) (do_call Try.call35 rfl) trivial rfl rfl ?_
  intro v43 Sv40 w a h41 h42 hs
  subst h42
  have hw := hw.call h41
  refine st_val hs (y_move rfl) trivial rfl rfl fun a hs => ?_
  refine st_val hs (y_extract rfl rfl) trivial rfl rfl fun a hs => ?_
  refine st_val hs (y_extract rfl rfl) trivial rfl rfl fun a hs => ?_
  refine w_alloc (cs := [.int .i64 0, .int .i64 0]) hs hw Try.zeroValue30 rfl rfl trivial ?_
  intro b44 a w hs hw
  refine w_store (m := 2) (cs' := [.int .i64 rv39.1.Num, .int .i64 rv39.1.Den]) hs hw 0 rfl rfl rfl Try.sizeOf30 rfl rfl rfl rfl trivial ?_
  intro a w hs hw
  refine st_val hs (y_assign rfl) trivial rfl rfl fun a hs => ?_
  refine wpList_nil ?_
  refine then_normal ?_
  refine wp_seq ?_
  obtain ⟨rv46, h45, hsh⟩ := bind_t hsh
  obtain ⟨rv54, h53, hsh⟩ := bind_t hsh
  obtain ⟨rv62, h61, hsh⟩ := bind_t hsh
  obtain ⟨rv68, h67, hsh⟩ := bind_t hsh
  obtain ⟨rv74, h73, hsh⟩ := bind_t hsh
  refine wp_only (fun a w => ∃ (Sv80 : Nat → Prop) (b79 : Nat) (k77 : Nat) (p76 : Option Addr), Sl 54 [(0, .pointer (some ⟨b2, 0, none⟩)), (2, .int .i64 n9), (6, .pointer (some ⟨b11, 0, none⟩)), (9, .pointer (some ⟨b79, 0, none⟩))] a ∧ Wd ⟨w0, S0, [b2]⟩ Sv80 [.box b2 [.slice p76 rv74.2.L.length k77, .int .i64 rv74.2.At] 60, .box b11 [.string ByteArray.empty, .string ByteArray.empty, .string ByteArray.empty, .string ByteArray.empty, .int .i64 0, .int .i64 0, .int .i64 0, .int .i64 0, .int .i64 0, .int .i64 0, .int .i64 0, .slice none ([] : List Int).length 0] 32, .box b79 [.string s8.Network, .string s8.Station, .string s8.Location, .string s8.Channel, .int .i64 (w64 (1000000000000 + (w64 (250000 * rv46.1)))), .int .i64 rv54.1, .int .i64 rv39.1.Num, .int .i64 rv39.1.Den, .int .i64 rv62.1, .int .i64 rv68.1, .int .i64 rv74.1, .slice none ([] : List Int).length 0] 32] [SlA p76 rv74.2.L.length k77 rv74.2.L, SlA none ([] : List Int).length 0 ([] : List Int)] w) ?_ ?_
  · refine wp_region_phi (n := 19) (Φ := fun l a w => ∃ (b52 : Nat) (b60 : Nat) (b79 : Nat) (k49 : Nat) (k57 : Nat) (k65 : Nat) (k71 : Nat) (k77 : Nat) (p48 : Option Addr) (p56 : Option Addr) (p64 : Option Addr) (p70 : Option Addr) (p76 : Option Addr) (S : Nat → Prop), SlF 54 (D10t1 b10 b11 b2 b44 n9) (D10t2 b2 b52 b60 b79 rv39 rv46 rv54 rv62 rv68 rv74 s8) l a ∧ Wd ⟨w0, S0, [b2]⟩ S [.box b44 [.int .i64 rv39.1.Num, .int .i64 rv39.1.Den] 30, .box b11 [.string ByteArray.empty, .string ByteArray.empty, .string ByteArray.empty, .string ByteArray.empty, .int .i64 0, .int .i64 0, .int .i64 0, .int .i64 0, .int .i64 0, .int .i64 0, .int .i64 0, .slice none ([] : List Int).length 0] 32, .box b10 [.string s8.Network, .string s8.Station, .string s8.Location, .string s8.Channel] 28, ((bif l 15 then .box b2 [.slice p76 rv74.2.L.length k77, .int .i64 rv74.2.At] 60 else (bif l 13 then .box b2 [.slice p70 rv68.2.L.length k71, .int .i64 rv68.2.At] 60 else (bif l 11 then .box b2 [.slice p64 rv62.2.L.length k65, .int .i64 rv62.2.At] 60 else (bif l 7 then .box b2 [.slice p56 rv54.2.L.length k57, .int .i64 rv54.2.At] 60 else (bif l 2 then .box b2 [.slice p48 rv46.2.L.length k49, .int .i64 rv46.2.At] 60 else .box b2 [.slice p30 rv28.2.L.length k31, .int .i64 rv28.2.At] 60))))) : Res), ((bif l 7 then emp else (bif l 6 then .row (some ⟨b52, 0, none⟩) ([0, 0, 3] : List Int).length ([0, 0, 3] : List Int).length [.int .i64 0, .int .i64 0, .int .i64 3] 3 1 else emp)) : Res), ((bif l 11 then emp else (bif l 10 then .row (some ⟨b60, 0, none⟩) ([0, 0, 10, 500] : List Int).length ([0, 0, 10, 500] : List Int).length [.int .i64 0, .int .i64 0, .int .i64 10, .int .i64 500] 3 1 else emp)) : Res), ((bif l 18 then .box b79 [.string s8.Network, .string s8.Station, .string s8.Location, .string s8.Channel, .int .i64 (w64 (1000000000000 + (w64 (250000 * rv46.1)))), .int .i64 rv54.1, .int .i64 rv39.1.Num, .int .i64 rv39.1.Den, .int .i64 rv62.1, .int .i64 rv68.1, .int .i64 rv74.1, .slice none ([] : List Int).length 0] 32 else (bif l 17 then .box b79 [.string ByteArray.empty, .string ByteArray.empty, .string ByteArray.empty, .string ByteArray.empty, .int .i64 0, .int .i64 0, .int .i64 0, .int .i64 0, .int .i64 0, .int .i64 0, .int .i64 0, .slice none ([] : List Int).length 0] 32 else emp)) : Res)] [SlA p30 rv28.2.L.length k31 rv28.2.L, SlA (some ⟨b26, 0, none⟩) ([1, 1, 1, 3] : List Int).length ([1, 1, 1, 3] : List Int).length ([1, 1, 1, 3] : List Int), RowA [.int .i64 1, .int .i64 1, .int .i64 1, .int .i64 3] ([1, 1, 1, 3] : List Int), SlA p17 rv15.2.L.length k18 rv15.2.L, SlA (some ⟨b13, 0, none⟩) ([1, 2, 2, 3] : List Int).length ([1, 2, 2, 3] : List Int).length ([1, 2, 2, 3] : List Int), RowA [.int .i64 1, .int .i64 2, .int .i64 2, .int .i64 3] ([1, 2, 2, 3] : List Int), SlA p3 d1.L.length k4 d1.L, optA (l 2) (SlA p48 rv46.2.L.length k49 rv46.2.L), optA (l 6) (RowA [.int .i64 0, .int .i64 0, .int .i64 3] ([0, 0, 3] : List Int)), optA (l 7) (SlA (some ⟨b52, 0, none⟩) ([0, 0, 3] : List Int).length ([0, 0, 3] : List Int).length ([0, 0, 3] : List Int)), optA (l 7) (SlA p56 rv54.2.L.length k57 rv54.2.L), optA (l 10) (RowA [.int .i64 0, .int .i64 0, .int .i64 10, .int .i64 500] ([0, 0, 10, 500] : List Int)), optA (l 11) (SlA (some ⟨b60, 0, none⟩) ([0, 0, 10, 500] : List Int).length ([0, 0, 10, 500] : List Int).length ([0, 0, 10, 500] : List Int)), optA (l 11) (SlA p64 rv62.2.L.length k65 rv62.2.L), optA (l 13) (SlA p70 rv68.2.L.length k71 rv68.2.L), optA (l 15) (SlA p76 rv74.2.L.length k77 rv74.2.L)] w) [1, 1, 2, 3, 4, 1, 1, 3, 1, 1, 1, 4, 1, 5, 1, 6, 7, 1, 8] (by kernel_rfl) rfl (by kernel_rfl) ?_ (AllS.succ (AllS.succ (AllS.succ (AllS.succ (AllS.succ (AllS.succ (AllS.succ (AllS.succ (AllS.succ (AllS.succ (AllS.succ (AllS.succ (AllS.succ (AllS.succ (AllS.succ (AllS.succ (AllS.succ (AllS.succ (AllS.succ AllS.zero ?_) ?_) ?_) ?_) ?_) ?_) ?_) ?_) ?_) ?_) ?_) ?_) ?_) ?_) ?_) ?_) ?_) ?_) ?_) ?_
    · obtain ⟨b52, b60, b79, k49, k57, k65, k71, k77, p48, p56, p64, p70, p76, _⟩ : ∃ (b52 : Nat) (b60 : Nat) (b79 : Nat) (k49 : Nat) (k57 : Nat) (k65 : Nat) (k71 : Nat) (k77 : Nat) (p48 : Option Addr) (p56 : Option Addr) (p64 : Option Addr) (p70 : Option Addr) (p76 : Option Addr), True := ⟨0, 0, 0, 0, 0, 0, 0, 0, none, none, none, none, none, trivial⟩
      have hw := hw.drew
      have hw := hw.emp
      have hw := hw.emp
      have hw := hw.emp
      have hw := hw.noE (SlA p76 rv74.2.L.length k77 rv74.2.L)
      have hw := hw.noE (SlA p70 rv68.2.L.length k71 rv68.2.L)
      have hw := hw.noE (SlA p64 rv62.2.L.length k65 rv62.2.L)
      have hw := hw.noE (SlA (some ⟨b60, 0, none⟩) ([0, 0, 10, 500] : List Int).length ([0, 0, 10, 500] : List Int).length ([0, 0, 10, 500] : List Int))
      have hw := hw.noE (RowA [.int .i64 0, .int .i64 0, .int .i64 10, .int .i64 500] ([0, 0, 10, 500] : List Int))
      have hw := hw.noE (SlA p56 rv54.2.L.length k57 rv54.2.L)
      have hw := hw.noE (SlA (some ⟨b52, 0, none⟩) ([0, 0, 3] : List Int).length ([0, 0, 3] : List Int).length ([0, 0, 3] : List Int))
      have hw := hw.noE (RowA [.int .i64 0, .int .i64 0, .int .i64 3] ([0, 0, 3] : List Int))
      have hw := hw.noE (SlA p48 rv46.2.L.length k49 rv46.2.L)
      exact ⟨b52, b60, b79, k49, k57, k65, k71, k77, p48, p56, p64, p70, p76, Sv40, SlF.init (hs.wk rfl) (by kernel_rfl), hw.ft [3, 4, 5, 6, 0, 1, 2] [9, 10, 11, 12, 13, 14, 15, 0, 1, 2, 3, 4, 5, 6, 7, 8] (by decide) rfl rfl⟩
    · intro l hi hp hc a w ⟨b52, b60, b79, k49, k57, k65, k71, k77, p48, p56, p64, p70, p76, S, hS, hw⟩
      refine S_val hS (.b (t := 4) rfl .nil) rfl rfl trivial (y_loadBA (hw.ownAt 2 rfl) rfl Try.isAgg28 Try.sizeOf28 rfl rfl) (rfl) 0 rfl fun a hS => ⟨b52, b60, b79, k49, k57, k65, k71, k77, p48, p56, p64, p70, p76, S, hS, hw⟩
    · intro l hi hp hc a w ⟨b52, b60, b79, k49, k57, k65, k71, k77, p48, p56, p64, p70, p76, S, hS, hw⟩
      refine S_val hS (.b (t := 0) rfl .nil) rfl rfl trivial (y_move rfl) (rfl) 1 rfl fun a hS => ⟨b52, b60, b79, k49, k57, k65, k71, k77, p48, p56, p64, p70, p76, S, hS, hw⟩
    · intro l hi hp hc a w ⟨b52, b60, b79, k49, k57, k65, k71, k77, p48, p56, p64, p70, p76, S, hS, hw⟩
      have h_7 := l_neg hc 7 hi rfl
      have h_11 := l_neg hc 11 h_7 rfl
      have h_13 := l_neg hc 13 h_11 rfl
      have h_15 := l_neg hc 15 h_13 rfl
      have hw := hw.fixR 3 (r' := .box b2 [.slice p30 rv28.2.L.length k31, .int .i64 rv28.2.At] 60) rfl ((bF h_15).trans ((bF h_13).trans ((bF h_11).trans ((bF h_7).trans ((bF hi))))))
      have h_1 := hp 1 rfl
      refine S_eff rfl ?_
      have hs := hS.open_ (.v (t := 22) 1 rfl h_1 .nil)
      refine st_callR hs (made_Dice_Next_ok h45 hw.dom (hw.ownAt 3 rfl) (hw.boxS 3 rfl) (hw.envAt 0 rfl)) (do_call Try.call16 rfl) trivial rfl rfl ?_
      intro v110 Sv107 w a h108 h109 hs
      obtain ⟨p48, k49, rfl, h47, h50⟩ := h109
      have hw := hw.call1 3 rfl h108 h47
      have hw := hw.addE (e := SlA p48 rv46.2.L.length k49 rv46.2.L) h50
      have hw := hw.fixR 3 (r' := (bif l 15 then .box b2 [.slice p76 rv74.2.L.length k77, .int .i64 rv74.2.At] 60 else (bif l 13 then .box b2 [.slice p70 rv68.2.L.length k71, .int .i64 rv68.2.At] 60 else (bif l 11 then .box b2 [.slice p64 rv62.2.L.length k65, .int .i64 rv62.2.At] 60 else (bif l 7 then .box b2 [.slice p56 rv54.2.L.length k57, .int .i64 rv54.2.At] 60 else .box b2 [.slice p48 rv46.2.L.length k49, .int .i64 rv46.2.At] 60))))) rfl ((bF h_15).trans ((bF h_13).trans ((bF h_11).trans ((bF h_7))))).symm
      have hw := hw.opt 0 rfl true
      refine wpList_nil ?_
      refine then_normal ?_
      exact ⟨b52, b60, b79, k49, k57, k65, k71, k77, p48, p56, p64, p70, p76, Sv107, hS.close (.v (t := 22) 1 rfl h_1 .nil) hs rfl (.same (.same (.here (.same (.same (.same (.same (.same (.same (.same (.same (.same (.same (.same (.same (.same (.same (.same .nil)))))))))))))))))) 2 rfl, hw.ft [0, 1, 2, 3, 4, 5, 6] [2, 3, 4, 5, 6, 7, 8, 0, 10, 11, 12, 13, 14, 15, 16, 17] (by decide) rfl rfl⟩
    · intro l hi hp hc a w ⟨b52, b60, b79, k49, k57, k65, k71, k77, p48, p56, p64, p70, p76, S, hS, hw⟩
      have h_2 := hp 2 rfl
      refine S_val hS (.v (t := 23) 2 rfl h_2 .nil) rfl rfl trivial (y_mul rfl rfl) (rfl) 3 rfl fun a hS => ⟨b52, b60, b79, k49, k57, k65, k71, k77, p48, p56, p64, p70, p76, S, hS, hw⟩
    · intro l hi hp hc a w ⟨b52, b60, b79, k49, k57, k65, k71, k77, p48, p56, p64, p70, p76, S, hS, hw⟩
      have h_3 := hp 3 rfl
      refine S_val hS (.v (t := 24) 3 rfl h_3 .nil) rfl rfl trivial (y_add rfl rfl) (rfl) 4 rfl fun a hS => ⟨b52, b60, b79, k49, k57, k65, k71, k77, p48, p56, p64, p70, p76, S, hS, hw⟩
    · intro l hi hp hc a w ⟨b52, b60, b79, k49, k57, k65, k71, k77, p48, p56, p64, p70, p76, S, hS, hw⟩
      refine S_val hS (.b (t := 0) rfl .nil) rfl rfl trivial (y_move rfl) (rfl) 5 rfl fun a hS => ⟨b52, b60, b79, k49, k57, k65, k71, k77, p48, p56, p64, p70, p76, S, hS, hw⟩
    · intro l hi hp hc a w ⟨b52, b60, b79, k49, k57, k65, k71, k77, p48, p56, p64, p70, p76, S, hS, hw⟩
      refine S_eff rfl ?_
      have hs := hS.open_ .nil
      refine w_litSlice (α := Int) (vs := D10t3) (cs := D10t3) (xs := D10t4) hs hw El22 rfl rfl rfl rfl rfl rfl ⟨⟨_, rfl, rfl⟩, ⟨⟨_, rfl, rfl⟩, ⟨⟨_, rfl, rfl⟩, rfl⟩⟩⟩ rfl trivial rfl fun b52 a w hs hw => ?_
      have h_7 := l_neg hc 7 hi rfl
      have hw := hw.fixR 0 (r' := (bif l 7 then emp else .row (some ⟨b52, 0, none⟩) ([0, 0, 3] : List Int).length ([0, 0, 3] : List Int).length [.int .i64 0, .int .i64 0, .int .i64 3] 3 1)) rfl ((bF h_7)).symm
      have hw := hw.opt 0 rfl true
      have hw := hw.noL h_7 (SlA (some ⟨b52, 0, none⟩) ([0, 0, 3] : List Int).length ([0, 0, 3] : List Int).length ([0, 0, 3] : List Int))
      refine wpList_nil ?_
      refine then_normal ?_
      exact ⟨b52, b60, b79, k49, k57, k65, k71, k77, p48, p56, p64, p70, p76, S, hS.close .nil hs rfl (.same (.same (.same (.same (.same (.same (.here (.same (.same (.same (.same (.same (.same (.same (.same (.same (.same (.same .nil)))))))))))))))))) 6 rfl, hw.ft [1, 2, 3, 4, 0, 6, 7] [3, 4, 5, 6, 7, 8, 9, 10, 1, 0, 13, 14, 15, 16, 17, 18] (by decide) rfl rfl⟩
    · intro l hi hp hc a w ⟨b52, b60, b79, k49, k57, k65, k71, k77, p48, p56, p64, p70, p76, S, hS, hw⟩
      have h_11 := l_neg hc 11 hi rfl
      have h_13 := l_neg hc 13 h_11 rfl
      have h_15 := l_neg hc 15 h_13 rfl
      have h_2 := hp 2 rfl
      have hw := hw.fixR 3 (r' := .box b2 [.slice p48 rv46.2.L.length k49, .int .i64 rv46.2.At] 60) rfl ((bF h_15).trans ((bF h_13).trans ((bF h_11).trans ((bF hi).trans ((bT h_2))))))
      have h_6 := hp 6 rfl
      have hw := hw.fixR 4 (r' := .row (some ⟨b52, 0, none⟩) ([0, 0, 3] : List Int).length ([0, 0, 3] : List Int).length [.int .i64 0, .int .i64 0, .int .i64 3] 3 1) rfl ((bF hi).trans ((bT h_6)))
      have hw := hw.yes 7 rfl h_2
      have hw := hw.yes 9 rfl h_6
      have h_5 := hp 5 rfl
      refine S_eff rfl ?_
      have hs := hS.open_ (.v (t := 26) 5 rfl h_5 (.v (t := 27) 6 rfl h_6 .nil))
      obtain ⟨Sv116, hw⟩ := w_share (α := Int) hw 4 rfl 0 rfl (.inr ⟨3, _, _, _, rfl, rfl, rfl⟩)
      refine st_callR hs (made_Dice_Pick_ok h53 hw.dom (hw.ownAt 3 rfl) (hw.boxS 3 rfl) (hw.envAt 2 rfl) (hw.envAt 0 rfl)) (do_call Try.call36 rfl) trivial rfl rfl ?_
      intro v120 Sv117 w a h118 h119 hs
      obtain ⟨p56, k57, rfl, h55, h58⟩ := h119
      have hw := hw.call1 3 rfl h118 h55
      have hw := hw.addE (e := SlA p56 rv54.2.L.length k57 rv54.2.L) h58
      have hw := hw.fixR 3 (r' := (bif l 15 then .box b2 [.slice p76 rv74.2.L.length k77, .int .i64 rv74.2.At] 60 else (bif l 13 then .box b2 [.slice p70 rv68.2.L.length k71, .int .i64 rv68.2.At] 60 else (bif l 11 then .box b2 [.slice p64 rv62.2.L.length k65, .int .i64 rv62.2.At] 60 else .box b2 [.slice p56 rv54.2.L.length k57, .int .i64 rv54.2.At] 60)))) rfl ((bF h_15).trans ((bF h_13).trans ((bF h_11)))).symm
      have hw := hw.emp
      have hw := hw.opt 1 rfl true
      have hw := hw.opt 1 rfl true
      refine wpList_nil ?_
      refine then_normal ?_
      exact ⟨b52, b60, b79, k49, k57, k65, k71, k77, p48, p56, p64, p70, p76, Sv117, hS.close (.v (t := 26) 5 rfl h_5 (.v (t := 27) 6 rfl h_6 .nil)) hs rfl (.same (.same (.same (.same (.same (.same (.same (.here (.same (.same (.same (.same (.same (.same (.same (.same (.same (.same .nil)))))))))))))))))) 7 rfl, hw.ft [1, 2, 3, 4, 0, 5, 6] [6, 7, 8, 9, 10, 11, 12, 13, 14, 1, 0, 17, 18, 19, 20, 21] (by decide) rfl rfl⟩
    · intro l hi hp hc a w ⟨b52, b60, b79, k49, k57, k65, k71, k77, p48, p56, p64, p70, p76, S, hS, hw⟩
      refine S_val hS (.b (t := 7) rfl .nil) rfl rfl trivial (y_loadBA (hw.ownAt 0 rfl) rfl Try.isAgg30 Try.sizeOf30 rfl rfl) (rfl) 8 rfl fun a hS => ⟨b52, b60, b79, k49, k57, k65, k71, k77, p48, p56, p64, p70, p76, S, hS, hw⟩
    · intro l hi hp hc a w ⟨b52, b60, b79, k49, k57, k65, k71, k77, p48, p56, p64, p70, p76, S, hS, hw⟩
      refine S_val hS (.b (t := 0) rfl .nil) rfl rfl trivial (y_move rfl) (rfl) 9 rfl fun a hS => ⟨b52, b60, b79, k49, k57, k65, k71, k77, p48, p56, p64, p70, p76, S, hS, hw⟩
    · intro l hi hp hc a w ⟨b52, b60, b79, k49, k57, k65, k71, k77, p48, p56, p64, p70, p76, S, hS, hw⟩
      refine S_eff rfl ?_
      have hs := hS.open_ .nil
      refine w_litSlice (α := Int) (vs := D10t5) (cs := D10t5) (xs := D10t6) hs hw El22 rfl rfl rfl rfl rfl rfl ⟨⟨_, rfl, rfl⟩, ⟨⟨_, rfl, rfl⟩, ⟨⟨_, rfl, rfl⟩, ⟨⟨_, rfl, rfl⟩, rfl⟩⟩⟩⟩ rfl trivial rfl fun b60 a w hs hw => ?_
      have h_11 := l_neg hc 11 hi rfl
      have hw := hw.fixR 0 (r' := (bif l 11 then emp else .row (some ⟨b60, 0, none⟩) ([0, 0, 10, 500] : List Int).length ([0, 0, 10, 500] : List Int).length [.int .i64 0, .int .i64 0, .int .i64 10, .int .i64 500] 3 1)) rfl ((bF h_11)).symm
      have hw := hw.opt 0 rfl true
      have hw := hw.noL h_11 (SlA (some ⟨b60, 0, none⟩) ([0, 0, 10, 500] : List Int).length ([0, 0, 10, 500] : List Int).length ([0, 0, 10, 500] : List Int))
      refine wpList_nil ?_
      refine then_normal ?_
      exact ⟨b52, b60, b79, k49, k57, k65, k71, k77, p48, p56, p64, p70, p76, S, hS.close .nil hs rfl (.same (.same (.same (.same (.same (.same (.same (.same (.same (.same (.here (.same (.same (.same (.same (.same (.same (.same .nil)))))))))))))))))) 10 rfl, hw.ft [1, 2, 3, 4, 5, 0, 7] [3, 4, 5, 6, 7, 8, 9, 10, 11, 12, 13, 1, 0, 16, 17, 18] (by decide) rfl rfl⟩
    · intro l hi hp hc a w ⟨b52, b60, b79, k49, k57, k65, k71, k77, p48, p56, p64, p70, p76, S, hS, hw⟩
      have h_13 := l_neg hc 13 hi rfl
      have h_15 := l_neg hc 15 h_13 rfl
      have h_7 := hp 7 rfl
      have hw := hw.fixR 3 (r' := .box b2 [.slice p56 rv54.2.L.length k57, .int .i64 rv54.2.At] 60) rfl ((bF h_15).trans ((bF h_13).trans ((bF hi).trans ((bT h_7)))))
      have h_10 := hp 10 rfl
      have hw := hw.fixR 5 (r' := .row (some ⟨b60, 0, none⟩) ([0, 0, 10, 500] : List Int).length ([0, 0, 10, 500] : List Int).length [.int .i64 0, .int .i64 0, .int .i64 10, .int .i64 500] 3 1) rfl ((bF hi).trans ((bT h_10)))
      have hw := hw.yes 10 rfl h_7
      have hw := hw.yes 12 rfl h_10
      have h_9 := hp 9 rfl
      refine S_eff rfl ?_
      have hs := hS.open_ (.v (t := 30) 9 rfl h_9 (.v (t := 31) 10 rfl h_10 .nil))
      obtain ⟨Sv126, hw⟩ := w_share (α := Int) hw 5 rfl 0 rfl (.inr ⟨3, _, _, _, rfl, rfl, rfl⟩)
      refine st_callR hs (made_Dice_Pick_ok h61 hw.dom (hw.ownAt 3 rfl) (hw.boxS 3 rfl) (hw.envAt 2 rfl) (hw.envAt 0 rfl)) (do_call Try.call36 rfl) trivial rfl rfl ?_
      intro v130 Sv127 w a h128 h129 hs
      obtain ⟨p64, k65, rfl, h63, h66⟩ := h129
      have hw := hw.call1 3 rfl h128 h63
      have hw := hw.addE (e := SlA p64 rv62.2.L.length k65 rv62.2.L) h66
      have hw := hw.fixR 3 (r' := (bif l 15 then .box b2 [.slice p76 rv74.2.L.length k77, .int .i64 rv74.2.At] 60 else (bif l 13 then .box b2 [.slice p70 rv68.2.L.length k71, .int .i64 rv68.2.At] 60 else .box b2 [.slice p64 rv62.2.L.length k65, .int .i64 rv62.2.At] 60))) rfl ((bF h_15).trans ((bF h_13))).symm
      have hw := hw.emp
      have hw := hw.opt 1 rfl true
      have hw := hw.opt 1 rfl true
      refine wpList_nil ?_
      refine then_normal ?_
      exact ⟨b52, b60, b79, k49, k57, k65, k71, k77, p48, p56, p64, p70, p76, Sv127, hS.close (.v (t := 30) 9 rfl h_9 (.v (t := 31) 10 rfl h_10 .nil)) hs rfl (.same (.same (.same (.same (.same (.same (.same (.same (.same (.same (.same (.here (.same (.same (.same (.same (.same (.same .nil)))))))))))))))))) 11 rfl, hw.ft [1, 2, 3, 4, 5, 0, 6] [6, 7, 8, 9, 10, 11, 12, 13, 14, 15, 16, 17, 1, 0, 20, 21] (by decide) rfl rfl⟩
    · intro l hi hp hc a w ⟨b52, b60, b79, k49, k57, k65, k71, k77, p48, p56, p64, p70, p76, S, hS, hw⟩
      refine S_val hS (.b (t := 0) rfl .nil) rfl rfl trivial (y_move rfl) (rfl) 12 rfl fun a hS => ⟨b52, b60, b79, k49, k57, k65, k71, k77, p48, p56, p64, p70, p76, S, hS, hw⟩
    · intro l hi hp hc a w ⟨b52, b60, b79, k49, k57, k65, k71, k77, p48, p56, p64, p70, p76, S, hS, hw⟩
      have h_15 := l_neg hc 15 hi rfl
      have h_11 := hp 11 rfl
      have hw := hw.fixR 3 (r' := .box b2 [.slice p64 rv62.2.L.length k65, .int .i64 rv62.2.At] 60) rfl ((bF h_15).trans ((bF hi).trans ((bT h_11))))
      have hw := hw.yes 13 rfl h_11
      have h_12 := hp 12 rfl
      refine S_eff rfl ?_
      have hs := hS.open_ (.v (t := 33) 12 rfl h_12 .nil)
      refine st_callR hs (made_Dice_Next_ok h67 hw.dom (hw.ownAt 3 rfl) (hw.boxS 3 rfl) (hw.envAt 0 rfl)) (do_call Try.call16 rfl) trivial rfl rfl ?_
      intro v138 Sv135 w a h136 h137 hs
      obtain ⟨p70, k71, rfl, h69, h72⟩ := h137
      have hw := hw.call1 3 rfl h136 h69
      have hw := hw.addE (e := SlA p70 rv68.2.L.length k71 rv68.2.L) h72
      have hw := hw.fixR 3 (r' := (bif l 15 then .box b2 [.slice p76 rv74.2.L.length k77, .int .i64 rv74.2.At] 60 else .box b2 [.slice p70 rv68.2.L.length k71, .int .i64 rv68.2.At] 60)) rfl ((bF h_15)).symm
      have hw := hw.opt 0 rfl true
      refine wpList_nil ?_
      refine then_normal ?_
      exact ⟨b52, b60, b79, k49, k57, k65, k71, k77, p48, p56, p64, p70, p76, Sv135, hS.close (.v (t := 33) 12 rfl h_12 .nil) hs rfl (.same (.same (.same (.same (.same (.same (.same (.same (.same (.same (.same (.same (.same (.here (.same (.same (.same (.same .nil)))))))))))))))))) 13 rfl, hw.ft [0, 1, 2, 3, 4, 5, 6] [3, 4, 5, 6, 7, 8, 9, 10, 11, 12, 13, 14, 15, 16, 0, 18] (by decide) rfl rfl⟩
    · intro l hi hp hc a w ⟨b52, b60, b79, k49, k57, k65, k71, k77, p48, p56, p64, p70, p76, S, hS, hw⟩
      refine S_val hS (.b (t := 0) rfl .nil) rfl rfl trivial (y_move rfl) (rfl) 14 rfl fun a hS => ⟨b52, b60, b79, k49, k57, k65, k71, k77, p48, p56, p64, p70, p76, S, hS, hw⟩
    · intro l hi hp hc a w ⟨b52, b60, b79, k49, k57, k65, k71, k77, p48, p56, p64, p70, p76, S, hS, hw⟩
      have h_13 := hp 13 rfl
      have hw := hw.fixR 3 (r' := .box b2 [.slice p70 rv68.2.L.length k71, .int .i64 rv68.2.At] 60) rfl ((bF hi).trans ((bT h_13)))
      have hw := hw.yes 14 rfl h_13
      have h_14 := hp 14 rfl
      refine S_eff rfl ?_
      have hs := hS.open_ (.v (t := 35) 14 rfl h_14 .nil)
      refine st_callR hs (made_Dice_Next_ok h73 hw.dom (hw.ownAt 3 rfl) (hw.boxS 3 rfl) (hw.envAt 0 rfl)) (do_call Try.call16 rfl) trivial rfl rfl ?_
      intro v146 Sv143 w a h144 h145 hs
      obtain ⟨p76, k77, rfl, h75, h78⟩ := h145
      have hw := hw.call1 3 rfl h144 h75
      have hw := hw.addE (e := SlA p76 rv74.2.L.length k77 rv74.2.L) h78
      have hw := hw.opt 0 rfl true
      refine wpList_nil ?_
      refine then_normal ?_
      exact ⟨b52, b60, b79, k49, k57, k65, k71, k77, p48, p56, p64, p70, p76, Sv143, hS.close (.v (t := 35) 14 rfl h_14 .nil) hs rfl (.same (.same (.same (.same (.same (.same (.same (.same (.same (.same (.same (.same (.same (.same (.same (.here (.same (.same .nil)))))))))))))))))) 15 rfl, hw.ft [0, 1, 2, 3, 4, 5, 6] [3, 4, 5, 6, 7, 8, 9, 10, 11, 12, 13, 14, 15, 16, 17, 0] (by decide) rfl rfl⟩
    · intro l hi hp hc a w ⟨b52, b60, b79, k49, k57, k65, k71, k77, p48, p56, p64, p70, p76, S, hS, hw⟩
      have h_15 := hp 15 rfl
      have h_13 := hp 13 rfl
      have h_11 := hp 11 rfl
      have h_8 := hp 8 rfl
      have h_7 := hp 7 rfl
      have h_4 := hp 4 rfl
      have h_0 := hp 0 rfl
      refine S_val hS (.v (t := 21) 0 rfl h_0 (.v (t := 25) 4 rfl h_4 (.v (t := 28) 7 rfl h_7 (.v (t := 29) 8 rfl h_8 (.v (t := 32) 11 rfl h_11 (.v (t := 34) 13 rfl h_13 (.v (t := 36) 15 rfl h_15 .nil))))))) rfl rfl trivial (y_build (vs := [(0, .agg #[.string s8.Network, .string s8.Station, .string s8.Location, .string s8.Channel]), (1, .int .i64 (w64 (1000000000000 + (w64 (250000 * rv46.1))))), (2, .int .i64 rv54.1), (3, .agg #[.int .i64 rv39.1.Num, .int .i64 rv39.1.Den]), (4, .int .i64 rv62.1), (5, .int .i64 rv68.1), (6, .int .i64 rv74.1)]) Bld32 rfl rfl) (rfl) 16 rfl fun a hS => ⟨b52, b60, b79, k49, k57, k65, k71, k77, p48, p56, p64, p70, p76, S, hS, hw⟩
    · intro l hi hp hc a w ⟨b52, b60, b79, k49, k57, k65, k71, k77, p48, p56, p64, p70, p76, S, hS, hw⟩
      refine S_eff rfl ?_
      have hs := hS.open_ .nil
      refine w_alloc (cs := [.string ByteArray.empty, .string ByteArray.empty, .string ByteArray.empty, .string ByteArray.empty, .int .i64 0, .int .i64 0, .int .i64 0, .int .i64 0, .int .i64 0, .int .i64 0, .int .i64 0, .slice none ([] : List Int).length 0]) hs hw Try.zeroValue32 rfl rfl trivial ?_
      intro b79 a w hs hw
      have h_18 := l_neg hc 18 hi rfl
      have hw := hw.fixR 0 (r' := (bif l 18 then .box b79 [.string s8.Network, .string s8.Station, .string s8.Location, .string s8.Channel, .int .i64 (w64 (1000000000000 + (w64 (250000 * rv46.1)))), .int .i64 rv54.1, .int .i64 rv39.1.Num, .int .i64 rv39.1.Den, .int .i64 rv62.1, .int .i64 rv68.1, .int .i64 rv74.1, .slice none ([] : List Int).length 0] 32 else .box b79 [.string ByteArray.empty, .string ByteArray.empty, .string ByteArray.empty, .string ByteArray.empty, .int .i64 0, .int .i64 0, .int .i64 0, .int .i64 0, .int .i64 0, .int .i64 0, .int .i64 0, .slice none ([] : List Int).length 0] 32)) rfl ((bF h_18)).symm
      refine wpList_nil ?_
      refine then_normal ?_
      exact ⟨b52, b60, b79, k49, k57, k65, k71, k77, p48, p56, p64, p70, p76, S, hS.close .nil hs rfl (.same (.same (.same (.same (.same (.same (.same (.same (.same (.same (.same (.same (.same (.same (.same (.same (.same (.here .nil)))))))))))))))))) 17 rfl, hw.ft [1, 2, 3, 4, 5, 6, 0] [0, 1, 2, 3, 4, 5, 6, 7, 8, 9, 10, 11, 12, 13, 14, 15] (by decide) rfl rfl⟩
    · intro l hi hp hc a w ⟨b52, b60, b79, k49, k57, k65, k71, k77, p48, p56, p64, p70, p76, S, hS, hw⟩
      have h_17 := hp 17 rfl
      have hw := hw.fixR 6 (r' := .box b79 [.string ByteArray.empty, .string ByteArray.empty, .string ByteArray.empty, .string ByteArray.empty, .int .i64 0, .int .i64 0, .int .i64 0, .int .i64 0, .int .i64 0, .int .i64 0, .int .i64 0, .slice none ([] : List Int).length 0] 32) rfl ((bF hi).trans ((bT h_17)))
      have h_16 := hp 16 rfl
      refine S_eff rfl ?_
      have hs := hS.open_ (.v (t := 9) 17 rfl h_17 (.v (t := 37) 16 rfl h_16 .nil))
      refine w_store (m := 12) (cs' := [.string s8.Network, .string s8.Station, .string s8.Location, .string s8.Channel, .int .i64 (w64 (1000000000000 + (w64 (250000 * rv46.1)))), .int .i64 rv54.1, .int .i64 rv39.1.Num, .int .i64 rv39.1.Den, .int .i64 rv62.1, .int .i64 rv68.1, .int .i64 rv74.1, .slice none ([] : List Int).length 0]) hs hw 6 rfl rfl rfl Try.sizeOf32 rfl rfl rfl rfl trivial ?_
      intro a w hs hw
      refine wpList_nil ?_
      refine then_normal ?_
      exact ⟨b52, b60, b79, k49, k57, k65, k71, k77, p48, p56, p64, p70, p76, S, hS.close0 (.v (t := 9) 17 rfl h_17 (.v (t := 37) 16 rfl h_16 .nil)) hs rfl, hw.ft [0, 1, 2, 3, 4, 5, 6] [0, 1, 2, 3, 4, 5, 6, 7, 8, 9, 10, 11, 12, 13, 14, 15] (by decide) rfl rfl⟩
    · intro l a w hl ⟨b52, b60, b79, k49, k57, k65, k71, k77, p48, p56, p64, p70, p76, S, hS, hw⟩
      have hw := hw.yes 15 rfl (hl 15 (by decide))
      have hw := hw.fixR 3 (r' := .box b2 [.slice p76 rv74.2.L.length k77, .int .i64 rv74.2.At] 60) rfl (bT (hl 15 (by decide)))
      have hw := hw.fixR 6 (r' := .box b79 [.string s8.Network, .string s8.Station, .string s8.Location, .string s8.Channel, .int .i64 (w64 (1000000000000 + (w64 (250000 * rv46.1)))), .int .i64 rv54.1, .int .i64 rv39.1.Num, .int .i64 rv39.1.Den, .int .i64 rv62.1, .int .i64 rv68.1, .int .i64 rv74.1, .slice none ([] : List Int).length 0] 32) rfl (bT (hl 18 (by decide)))
      have hs := hS.on (.b (t := 0) rfl (.b (t := 2) rfl (.b (t := 6) rfl (.v (t := 9) 17 rfl (hl 17 (by decide)) .nil))))
      have hw := hw.addE (e := SlA (α := Int) none 0 0 []) nil_sl
      exact ⟨S, b79, k77, p76, (hs.wk rfl), (hw.ft [3, 1, 6] [1, 0] (by decide) rfl rfl)⟩
  · rintro a w ⟨Sv80, b79, k77, p76, hs, hw⟩
    refine then_normal ?_
    refine wp_seq ?_
    refine wp_seq ?_
    refine wp_region_lit ?_
    refine st_val hs (y_move rfl) trivial rfl rfl fun a hs => ?_
    refine st_val hs (y_move rfl) trivial rfl rfl fun a hs => ?_
    obtain ⟨rv148, h147, hsh⟩ := bind_t hsh
    refine st_callR hs (made_Dice_Next_ok h147 hw.dom (hw.ownAt 0 rfl) (hw.boxS 0 rfl) (hw.envAt 0 rfl)) (do_call Try.call16 rfl) trivial rfl rfl ?_
    intro v156 Sv153 w a h154 h155 hs
    obtain ⟨p150, k151, rfl, h149, h152⟩ := h155
    have hw := hw.call1 0 rfl h154 h149
    have hw := hw.addE (e := SlA p150 rv148.2.L.length k151 rv148.2.L) h152
    refine st_val hs (y_add rfl rfl) trivial rfl rfl fun a hs => ?_
    obtain ⟨i158, h157, hsh⟩ := bind_t hsh
    refine st_val hs (y_assignI rfl h157) trivial rfl rfl fun a hs => ?_
    refine wpList_nil ?_
    refine then_normal ?_
    obtain ⟨e226, h274, hsh⟩ := bind_t hsh
    refine wp_join (fun a w => ∃ (p227 : Option Addr) (k228 : Nat) (p229 : Option Addr) (k230 : Nat) (c231 : List Value) (Sv232 : Nat → Prop), Sl 54 [(6, .pointer (some ⟨b11, 0, none⟩)), (9, .pointer (some ⟨b79, 0, none⟩))] a ∧ Wd ⟨w0, S0, [b2]⟩ Sv232 [.box b2 [.slice p227 e226.1.length k228, .int .i64 e226.2.1] 60, .box b11 [.string ByteArray.empty, .string ByteArray.empty, .string ByteArray.empty, .string ByteArray.empty, .int .i64 0, .int .i64 0, .int .i64 0, .int .i64 0, .int .i64 0, .int .i64 0, .int .i64 0, .slice none ([] : List Int).length 0] 32, .box b79 [.string s8.Network, .string s8.Station, .string s8.Location, .string s8.Channel, .int .i64 (w64 (1000000000000 + (w64 (250000 * rv46.1)))), .int .i64 rv54.1, .int .i64 rv39.1.Num, .int .i64 rv39.1.Den, .int .i64 rv62.1, .int .i64 rv68.1, .int .i64 rv74.1, .slice p229 e226.2.2.length k230] 32, .row p229 e226.2.2.length k230 c231 3 1] [SlA p227 e226.1.length k228 e226.1, SlA none ([] : List Int).length 0 ([] : List Int), RowA c231 e226.2.2] w) ?_ ?_
    · refine wp_block ?_
      have hw := hw.nilRow Int 3
      refine wp_while (fun sv159 a w => ∃ (p200 : Option Addr) (k201 : Nat) (p202 : Option Addr) (k203 : Nat) (c204 : List Value) (Sv205 : Nat → Prop), Sl 54 [(0, .pointer (some ⟨b2, 0, none⟩)), (6, .pointer (some ⟨b11, 0, none⟩)), (9, .pointer (some ⟨b79, 0, none⟩)), (10, .int .i64 sv159.2.2.2)] a ∧ Wd ⟨w0, S0, [b2]⟩ Sv205 [.box b2 [.slice p200 sv159.1.length k201, .int .i64 sv159.2.1] 60, .box b11 [.string ByteArray.empty, .string ByteArray.empty, .string ByteArray.empty, .string ByteArray.empty, .int .i64 0, .int .i64 0, .int .i64 0, .int .i64 0, .int .i64 0, .int .i64 0, .int .i64 0, .slice none ([] : List Int).length 0] 32, .box b79 [.string s8.Network, .string s8.Station, .string s8.Location, .string s8.Channel, .int .i64 (w64 (1000000000000 + (w64 (250000 * rv46.1)))), .int .i64 rv54.1, .int .i64 rv39.1.Num, .int .i64 rv39.1.Den, .int .i64 rv62.1, .int .i64 rv68.1, .int .i64 rv74.1, .slice p202 sv159.2.2.1.length k203] 32, .row p202 sv159.2.2.1.length k203 c204 3 1] [SlA p200 sv159.1.length k201 sv159.1, SlA none ([] : List Int).length 0 ([] : List Int), RowA c204 sv159.2.2.1] w) (rv148.2.L, rv148.2.At, ([] : List Int), i158) h274 ⟨p150, k151, none, 0, [], Sv153, (hs.wk rfl), (hw.ft [1, 2, 3, 0] [1, 3, 0] (by decide) rfl rfl)⟩ ?_
      clear h274
      repeat clear hsh
      rintro sv159 a w tv224 ⟨p200, k201, p202, k203, c204, Sv205, hs, hw⟩ hsh hd223
      delta made_Dice_Record_l1 at hsh
      refine wp_seq ?_
      refine wp_seq ?_
      refine wp_region_lit ?_
      refine st_val hs (y_move rfl) trivial rfl rfl fun a hs => ?_
      refine st_val hs (y_gtr rfl rfl) trivial rfl rfl fun a hs => ?_
      refine wpList_nil ?_
      refine then_normal ?_
      refine wp_cond_split (hs.ev rfl) (fun h234 => ?_) (fun h234 => ?_)
      · have hsh := ite_t hsh h234
        refine wp_skip ?_
        refine then_normal ?_
        refine wp_seq ?_
        refine wp_block ?_
        obtain ⟨rv250, h249, hsh⟩ := bind_t hsh
        obtain ⟨l258, h257, hsh⟩ := bind_t hsh
        refine wp_only (fun a w => ∃ (Sv262 : Nat → Prop) (c261 : List Value) (k253 : Nat) (k260 : Nat) (p252 : Option Addr) (p259 : Option Addr), Sl 54 [(0, .pointer (some ⟨b2, 0, none⟩)), (6, .pointer (some ⟨b11, 0, none⟩)), (9, .pointer (some ⟨b79, 0, none⟩)), (10, .int .i64 sv159.2.2.2)] a ∧ Wd ⟨w0, S0, [b2]⟩ Sv262 [.box b2 [.slice p252 rv250.2.L.length k253, .int .i64 rv250.2.At] 60, .box b11 [.string ByteArray.empty, .string ByteArray.empty, .string ByteArray.empty, .string ByteArray.empty, .int .i64 0, .int .i64 0, .int .i64 0, .int .i64 0, .int .i64 0, .int .i64 0, .int .i64 0, .slice none ([] : List Int).length 0] 32, .box b79 [.string s8.Network, .string s8.Station, .string s8.Location, .string s8.Channel, .int .i64 (w64 (1000000000000 + (w64 (250000 * rv46.1)))), .int .i64 rv54.1, .int .i64 rv39.1.Num, .int .i64 rv39.1.Den, .int .i64 rv62.1, .int .i64 rv68.1, .int .i64 rv74.1, .slice p259 l258.length k260] 32, .row p259 l258.length k260 c261 3 1] [SlA p252 rv250.2.L.length k253 rv250.2.L, SlA none ([] : List Int).length 0 ([] : List Int), RowA c261 l258] w) ?_ ?_
        · refine h_begin (C := Cls [.box b11 [.string ByteArray.empty, .string ByteArray.empty, .string ByteArray.empty, .string ByteArray.empty, .int .i64 0, .int .i64 0, .int .i64 0, .int .i64 0, .int .i64 0, .int .i64 0, .int .i64 0, .slice none ([] : List Int).length 0] 32] []) (by kernel_rfl) rfl ?_
          have hw := hw.drew
          have hC : Cls [.box b11 [.string ByteArray.empty, .string ByteArray.empty, .string ByteArray.empty, .string ByteArray.empty, .int .i64 0, .int .i64 0, .int .i64 0, .int .i64 0, .int .i64 0, .int .i64 0, .int .i64 0, .slice none ([] : List Int).length 0] 32] [] _ := hw.cs [1] [] rfl rfl
          refine h_get hs (i := 0) rfl (by kernel_rfl) rfl rfl hC rfl (fun w hC => y_fieldAddr (o' := 11) Try.runUnderlying32 rfl Try.sizeOf22 rfl rfl rfl) fun a hs => ?_
          refine h_get hs (i := 2) rfl (by kernel_rfl) rfl rfl hC rfl (fun w hC => y_move rfl) fun a hs => ?_
          refine h_all (rs := [1, 3]) (by kernel_rfl) rfl ?_
          refine AllH.cons rfl ?_ ?_
          · refine st_val hs (y_loadB1 (hw.ownAt 2 rfl) rfl Try.isAgg22 rfl) trivial rfl rfl fun a hs => ?_
            refine wpList_nil ?_
            refine then_normal ?_
            have hC : Cls [.box b11 [.string ByteArray.empty, .string ByteArray.empty, .string ByteArray.empty, .string ByteArray.empty, .int .i64 0, .int .i64 0, .int .i64 0, .int .i64 0, .int .i64 0, .int .i64 0, .int .i64 0, .slice none ([] : List Int).length 0] 32] [] _ := hw.cs [1] [] rfl rfl
            refine ⟨hC, ?_⟩
            refine h_all (rs := [3]) (by kernel_rfl) rfl ?_
            refine AllH.cons rfl ?_ ?_
            · refine st_callR hs (made_Dice_Next_ok h249 hw.dom (hw.ownAt 0 rfl) (hw.boxS 0 rfl) (hw.envAt 0 rfl)) (do_call Try.call16 rfl) trivial rfl rfl ?_
              intro v266 Sv263 w a h264 h265 hs
              obtain ⟨p252, k253, rfl, h251, h254⟩ := h265
              have hw := hw.call1 0 rfl h264 h251
              have hw := hw.addE (e := SlA p252 rv250.2.L.length k253 rv250.2.L) h254
              refine wpList_nil ?_
              refine then_normal ?_
              have hC : Cls [.box b11 [.string ByteArray.empty, .string ByteArray.empty, .string ByteArray.empty, .string ByteArray.empty, .int .i64 0, .int .i64 0, .int .i64 0, .int .i64 0, .int .i64 0, .int .i64 0, .int .i64 0, .slice none ([] : List Int).length 0] 32] [] _ := hw.cs [1] [] rfl rfl
              refine ⟨hC, ?_⟩
              refine h_all (rs := [4]) (by kernel_rfl) rfl ?_
              refine AllH.cons rfl ?_ ?_
              · refine w_litSlice (α := Int) (vs := [.int .i64 rv250.1]) (cs := [.int .i64 rv250.1]) (xs := ([rv250.1] : List Int)) hs hw El22 rfl rfl rfl rfl rfl rfl ⟨⟨_, rfl, rfl⟩, rfl⟩ rfl trivial rfl fun b256 a w hs hw => ?_
                refine wpList_nil ?_
                refine then_normal ?_
                have hC : Cls [.box b11 [.string ByteArray.empty, .string ByteArray.empty, .string ByteArray.empty, .string ByteArray.empty, .int .i64 0, .int .i64 0, .int .i64 0, .int .i64 0, .int .i64 0, .int .i64 0, .int .i64 0, .slice none ([] : List Int).length 0] 32] [] _ := hw.cs [2] [] rfl rfl
                refine ⟨hC, ?_⟩
                refine h_strong (C' := Cls [.box b11 [.string ByteArray.empty, .string ByteArray.empty, .string ByteArray.empty, .string ByteArray.empty, .int .i64 0, .int .i64 0, .int .i64 0, .int .i64 0, .int .i64 0, .int .i64 0, .int .i64 0, .slice none ([] : List Int).length 0] 32, .row (some ⟨b256, 0, none⟩) ([rv250.1] : List Int).length ([rv250.1] : List Int).length [.int .i64 rv250.1] 3 1] []) (fun _ h => by exact h.sub [0] (Sel.of rfl) (AllIn.of [] rfl)) ?_
                have hC : Cls [.box b11 [.string ByteArray.empty, .string ByteArray.empty, .string ByteArray.empty, .string ByteArray.empty, .int .i64 0, .int .i64 0, .int .i64 0, .int .i64 0, .int .i64 0, .int .i64 0, .int .i64 0, .slice none ([] : List Int).length 0] 32, .row (some ⟨b256, 0, none⟩) ([rv250.1] : List Int).length ([rv250.1] : List Int).length [.int .i64 rv250.1] 3 1] [] _ := hw.cs [2, 0] [] rfl rfl
                refine h_all (rs := [5]) (by kernel_rfl) rfl ?_
                refine AllH.cons rfl ?_ ?_
                · refine w_appendR (α := Int) hs hw El22 4 rfl rfl rfl 4 rfl 0 rfl 0 rfl h257 rfl trivial ?_
                  intro p259 k260 c261 a w hs hw
                  refine wpList_nil ?_
                  refine then_normal ?_
                  have hC : Cls [.box b11 [.string ByteArray.empty, .string ByteArray.empty, .string ByteArray.empty, .string ByteArray.empty, .int .i64 0, .int .i64 0, .int .i64 0, .int .i64 0, .int .i64 0, .int .i64 0, .int .i64 0, .slice none ([] : List Int).length 0] 32, .row (some ⟨b256, 0, none⟩) ([rv250.1] : List Int).length ([rv250.1] : List Int).length [.int .i64 rv250.1] 3 1] [] _ := hw.cs [2, 0] [] rfl rfl
                  refine ⟨hC, ?_⟩
                  refine h_get hs (i := 6) rfl (by kernel_rfl) rfl rfl hC rfl (fun w hC => y_fieldAddr (o' := 11) Try.runUnderlying32 rfl Try.sizeOf22 rfl rfl rfl) fun a hs => ?_
                  refine h_all (rs := [7]) (by kernel_rfl) rfl ?_
                  refine AllH.cons rfl ?_ ?_
                  · refine w_store (m := 1) (cs' := [.string s8.Network, .string s8.Station, .string s8.Location, .string s8.Channel, .int .i64 (w64 (1000000000000 + (w64 (250000 * rv46.1)))), .int .i64 rv54.1, .int .i64 rv39.1.Num, .int .i64 rv39.1.Den, .int .i64 rv62.1, .int .i64 rv68.1, .int .i64 rv74.1, .slice p259 l258.length k260]) hs hw 3 rfl rfl rfl Try.sizeOf22 rfl rfl rfl rfl trivial ?_
                    intro a w hs hw
                    refine wpList_nil ?_
                    refine then_normal ?_
                    have hC : Cls [.box b11 [.string ByteArray.empty, .string ByteArray.empty, .string ByteArray.empty, .string ByteArray.empty, .int .i64 0, .int .i64 0, .int .i64 0, .int .i64 0, .int .i64 0, .int .i64 0, .int .i64 0, .slice none ([] : List Int).length 0] 32, .row (some ⟨b256, 0, none⟩) ([rv250.1] : List Int).length ([rv250.1] : List Int).length [.int .i64 rv250.1] 3 1] [] _ := hw.cs [2, 0] [] rfl rfl
                    refine ⟨hC, ?_⟩
                    refine h_done (by kernel_rfl) ?_
                    exact ⟨Sv263, c261, k253, k260, p252, p259, (hs.wk rfl), (hw.ft [1, 2, 3, 4] [2, 4, 0] (by decide) rfl rfl)⟩
                  exact AllH.nil
                exact AllH.nil
              exact AllH.nil
            exact AllH.nil
          refine AllH.cons rfl ?_ ?_
          · refine st_callR hs (made_Dice_Next_ok h249 hw.dom (hw.ownAt 0 rfl) (hw.boxS 0 rfl) (hw.envAt 0 rfl)) (do_call Try.call16 rfl) trivial rfl rfl ?_
            intro v270 Sv267 w a h268 h269 hs
            obtain ⟨p252, k253, rfl, h251, h254⟩ := h269
            have hw := hw.call1 0 rfl h268 h251
            have hw := hw.addE (e := SlA p252 rv250.2.L.length k253 rv250.2.L) h254
            refine wpList_nil ?_
            refine then_normal ?_
            have hC : Cls [.box b11 [.string ByteArray.empty, .string ByteArray.empty, .string ByteArray.empty, .string ByteArray.empty, .int .i64 0, .int .i64 0, .int .i64 0, .int .i64 0, .int .i64 0, .int .i64 0, .int .i64 0, .slice none ([] : List Int).length 0] 32] [] _ := hw.cs [1] [] rfl rfl
            refine ⟨hC, ?_⟩
            refine h_all (rs := [1, 4]) (by kernel_rfl) rfl ?_
            refine AllH.cons rfl ?_ ?_
            · refine st_val hs (y_loadB1 (hw.ownAt 2 rfl) rfl Try.isAgg22 rfl) trivial rfl rfl fun a hs => ?_
              refine wpList_nil ?_
              refine then_normal ?_
              have hC : Cls [.box b11 [.string ByteArray.empty, .string ByteArray.empty, .string ByteArray.empty, .string ByteArray.empty, .int .i64 0, .int .i64 0, .int .i64 0, .int .i64 0, .int .i64 0, .int .i64 0, .int .i64 0, .slice none ([] : List Int).length 0] 32] [] _ := hw.cs [1] [] rfl rfl
              refine ⟨hC, ?_⟩
              refine h_all (rs := [4]) (by kernel_rfl) rfl ?_
              refine AllH.cons rfl ?_ ?_
              · refine w_litSlice (α := Int) (vs := [.int .i64 rv250.1]) (cs := [.int .i64 rv250.1]) (xs := ([rv250.1] : List Int)) hs hw El22 rfl rfl rfl rfl rfl rfl ⟨⟨_, rfl, rfl⟩, rfl⟩ rfl trivial rfl fun b256 a w hs hw => ?_
                refine wpList_nil ?_
                refine then_normal ?_
                have hC : Cls [.box b11 [.string ByteArray.empty, .string ByteArray.empty, .string ByteArray.empty, .string ByteArray.empty, .int .i64 0, .int .i64 0, .int .i64 0, .int .i64 0, .int .i64 0, .int .i64 0, .int .i64 0, .slice none ([] : List Int).length 0] 32] [] _ := hw.cs [2] [] rfl rfl
                refine ⟨hC, ?_⟩
                refine h_strong (C' := Cls [.box b11 [.string ByteArray.empty, .string ByteArray.empty, .string ByteArray.empty, .string ByteArray.empty, .int .i64 0, .int .i64 0, .int .i64 0, .int .i64 0, .int .i64 0, .int .i64 0, .int .i64 0, .slice none ([] : List Int).length 0] 32, .row (some ⟨b256, 0, none⟩) ([rv250.1] : List Int).length ([rv250.1] : List Int).length [.int .i64 rv250.1] 3 1] []) (fun _ h => by exact h.sub [0] (Sel.of rfl) (AllIn.of [] rfl)) ?_
                have hC : Cls [.box b11 [.string ByteArray.empty, .string ByteArray.empty, .string ByteArray.empty, .string ByteArray.empty, .int .i64 0, .int .i64 0, .int .i64 0, .int .i64 0, .int .i64 0, .int .i64 0, .int .i64 0, .slice none ([] : List Int).length 0] 32, .row (some ⟨b256, 0, none⟩) ([rv250.1] : List Int).length ([rv250.1] : List Int).length [.int .i64 rv250.1] 3 1] [] _ := hw.cs [2, 0] [] rfl rfl
                refine h_all (rs := [5]) (by kernel_rfl) rfl ?_
                refine AllH.cons rfl ?_ ?_
                · refine w_appendR (α := Int) hs hw El22 4 rfl rfl rfl 4 rfl 0 rfl 0 rfl h257 rfl trivial ?_
                  intro p259 k260 c261 a w hs hw
                  refine wpList_nil ?_
                  refine then_normal ?_
                  have hC : Cls [.box b11 [.string ByteArray.empty, .string ByteArray.empty, .string ByteArray.empty, .string ByteArray.empty, .int .i64 0, .int .i64 0, .int .i64 0, .int .i64 0, .int .i64 0, .int .i64 0, .int .i64 0, .slice none ([] : List Int).length 0] 32, .row (some ⟨b256, 0, none⟩) ([rv250.1] : List Int).length ([rv250.1] : List Int).length [.int .i64 rv250.1] 3 1] [] _ := hw.cs [2, 0] [] rfl rfl
                  refine ⟨hC, ?_⟩
                  refine h_get hs (i := 6) rfl (by kernel_rfl) rfl rfl hC rfl (fun w hC => y_fieldAddr (o' := 11) Try.runUnderlying32 rfl Try.sizeOf22 rfl rfl rfl) fun a hs => ?_
                  refine h_all (rs := [7]) (by kernel_rfl) rfl ?_
                  refine AllH.cons rfl ?_ ?_
                  · refine w_store (m := 1) (cs' := [.string s8.Network, .string s8.Station, .string s8.Location, .string s8.Channel, .int .i64 (w64 (1000000000000 + (w64 (250000 * rv46.1)))), .int .i64 rv54.1, .int .i64 rv39.1.Num, .int .i64 rv39.1.Den, .int .i64 rv62.1, .int .i64 rv68.1, .int .i64 rv74.1, .slice p259 l258.length k260]) hs hw 3 rfl rfl rfl Try.sizeOf22 rfl rfl rfl rfl trivial ?_
                    intro a w hs hw
                    refine wpList_nil ?_
                    refine then_normal ?_
                    have hC : Cls [.box b11 [.string ByteArray.empty, .string ByteArray.empty, .string ByteArray.empty, .string ByteArray.empty, .int .i64 0, .int .i64 0, .int .i64 0, .int .i64 0, .int .i64 0, .int .i64 0, .int .i64 0, .slice none ([] : List Int).length 0] 32, .row (some ⟨b256, 0, none⟩) ([rv250.1] : List Int).length ([rv250.1] : List Int).length [.int .i64 rv250.1] 3 1] [] _ := hw.cs [2, 0] [] rfl rfl
                    refine ⟨hC, ?_⟩
                    refine h_done (by kernel_rfl) ?_
                    exact ⟨Sv267, c261, k253, k260, p252, p259, (hs.wk rfl), (hw.ft [1, 2, 3, 4] [2, 4, 0] (by decide) rfl rfl)⟩
                  exact AllH.nil
                exact AllH.nil
              exact AllH.nil
            refine AllH.cons rfl ?_ ?_
            · refine w_litSlice (α := Int) (vs := [.int .i64 rv250.1]) (cs := [.int .i64 rv250.1]) (xs := ([rv250.1] : List Int)) hs hw El22 rfl rfl rfl rfl rfl rfl ⟨⟨_, rfl, rfl⟩, rfl⟩ rfl trivial rfl fun b256 a w hs hw => ?_
              refine wpList_nil ?_
              refine then_normal ?_
              have hC : Cls [.box b11 [.string ByteArray.empty, .string ByteArray.empty, .string ByteArray.empty, .string ByteArray.empty, .int .i64 0, .int .i64 0, .int .i64 0, .int .i64 0, .int .i64 0, .int .i64 0, .int .i64 0, .slice none ([] : List Int).length 0] 32] [] _ := hw.cs [2] [] rfl rfl
              refine ⟨hC, ?_⟩
              refine h_strong (C' := Cls [.box b11 [.string ByteArray.empty, .string ByteArray.empty, .string ByteArray.empty, .string ByteArray.empty, .int .i64 0, .int .i64 0, .int .i64 0, .int .i64 0, .int .i64 0, .int .i64 0, .int .i64 0, .slice none ([] : List Int).length 0] 32, .row (some ⟨b256, 0, none⟩) ([rv250.1] : List Int).length ([rv250.1] : List Int).length [.int .i64 rv250.1] 3 1] []) (fun _ h => by exact h.sub [0] (Sel.of rfl) (AllIn.of [] rfl)) ?_
              have hC : Cls [.box b11 [.string ByteArray.empty, .string ByteArray.empty, .string ByteArray.empty, .string ByteArray.empty, .int .i64 0, .int .i64 0, .int .i64 0, .int .i64 0, .int .i64 0, .int .i64 0, .int .i64 0, .slice none ([] : List Int).length 0] 32, .row (some ⟨b256, 0, none⟩) ([rv250.1] : List Int).length ([rv250.1] : List Int).length [.int .i64 rv250.1] 3 1] [] _ := hw.cs [2, 0] [] rfl rfl
              refine h_all (rs := [1]) (by kernel_rfl) rfl ?_
              refine AllH.cons rfl ?_ ?_
              · refine st_val hs (y_loadB1 (hw.ownAt 3 rfl) rfl Try.isAgg22 rfl) trivial rfl rfl fun a hs => ?_
                refine wpList_nil ?_
                refine then_normal ?_
                have hC : Cls [.box b11 [.string ByteArray.empty, .string ByteArray.empty, .string ByteArray.empty, .string ByteArray.empty, .int .i64 0, .int .i64 0, .int .i64 0, .int .i64 0, .int .i64 0, .int .i64 0, .int .i64 0, .slice none ([] : List Int).length 0] 32, .row (some ⟨b256, 0, none⟩) ([rv250.1] : List Int).length ([rv250.1] : List Int).length [.int .i64 rv250.1] 3 1] [] _ := hw.cs [2, 0] [] rfl rfl
                refine ⟨hC, ?_⟩
                refine h_all (rs := [5]) (by kernel_rfl) rfl ?_
                refine AllH.cons rfl ?_ ?_
                · refine w_appendR (α := Int) hs hw El22 4 rfl rfl rfl 4 rfl 0 rfl 0 rfl h257 rfl trivial ?_
                  intro p259 k260 c261 a w hs hw
                  refine wpList_nil ?_
                  refine then_normal ?_
                  have hC : Cls [.box b11 [.string ByteArray.empty, .string ByteArray.empty, .string ByteArray.empty, .string ByteArray.empty, .int .i64 0, .int .i64 0, .int .i64 0, .int .i64 0, .int .i64 0, .int .i64 0, .int .i64 0, .slice none ([] : List Int).length 0] 32, .row (some ⟨b256, 0, none⟩) ([rv250.1] : List Int).length ([rv250.1] : List Int).length [.int .i64 rv250.1] 3 1] [] _ := hw.cs [2, 0] [] rfl rfl
                  refine ⟨hC, ?_⟩
                  refine h_get hs (i := 6) rfl (by kernel_rfl) rfl rfl hC rfl (fun w hC => y_fieldAddr (o' := 11) Try.runUnderlying32 rfl Try.sizeOf22 rfl rfl rfl) fun a hs => ?_
                  refine h_all (rs := [7]) (by kernel_rfl) rfl ?_
                  refine AllH.cons rfl ?_ ?_
                  · refine w_store (m := 1) (cs' := [.string s8.Network, .string s8.Station, .string s8.Location, .string s8.Channel, .int .i64 (w64 (1000000000000 + (w64 (250000 * rv46.1)))), .int .i64 rv54.1, .int .i64 rv39.1.Num, .int .i64 rv39.1.Den, .int .i64 rv62.1, .int .i64 rv68.1, .int .i64 rv74.1, .slice p259 l258.length k260]) hs hw 3 rfl rfl rfl Try.sizeOf22 rfl rfl rfl rfl trivial ?_
                    intro a w hs hw
                    refine wpList_nil ?_
                    refine then_normal ?_
                    have hC : Cls [.box b11 [.string ByteArray.empty, .string ByteArray.empty, .string ByteArray.empty, .string ByteArray.empty, .int .i64 0, .int .i64 0, .int .i64 0, .int .i64 0, .int .i64 0, .int .i64 0, .int .i64 0, .slice none ([] : List Int).length 0] 32, .row (some ⟨b256, 0, none⟩) ([rv250.1] : List Int).length ([rv250.1] : List Int).length [.int .i64 rv250.1] 3 1] [] _ := hw.cs [2, 0] [] rfl rfl
                    refine ⟨hC, ?_⟩
                    refine h_done (by kernel_rfl) ?_
                    exact ⟨Sv267, c261, k253, k260, p252, p259, (hs.wk rfl), (hw.ft [1, 2, 3, 4] [2, 4, 0] (by decide) rfl rfl)⟩
                  exact AllH.nil
                exact AllH.nil
              exact AllH.nil
            exact AllH.nil
          exact AllH.nil
        · rintro a w ⟨Sv262, c261, k253, k260, p252, p259, hs, hw⟩
          refine blk_normal ?_
          refine then_normal ?_
          refine wp_region_lit ?_
          refine st_val hs (y_move rfl) trivial rfl rfl fun a hs => ?_
          refine st_val hs (y_sub rfl rfl) trivial rfl rfl fun a hs => ?_
          obtain ⟨i272, h271, hsh⟩ := bind_t hsh
          refine st_val hs (y_assignI rfl h271) trivial rfl rfl fun a hs => ?_
          refine wpList_nil ?_
          refine then_normal ?_
          exact ⟨_, (Option.some.inj hsh).symm, p252, k253, p259, k260, c261, Sv262, (hs.wk rfl), (hw.ft [0, 1, 2, 3] [0, 1, 2] (by decide) rfl rfl)⟩
      · have hsh := ite_f hsh h234
        refine wp_exit ?_
        refine then_exit ?_
        refine then_exit ?_
        refine blk_exit ?_
        have hsh := Option.some.inj hsh
        subst hsh
        have h273 := hd223 _ rfl
        subst h273
        refine then_normal ?_
        exact ⟨p200, k201, p202, k203, c204, Sv205, (hs.wk rfl), (hw.ft [0, 1, 2, 3] [0, 1, 2] (by decide) rfl rfl)⟩
    · rintro a w ⟨p227, k228, p229, k230, c231, Sv232, hs, hw⟩
      refine then_normal ?_
      refine wp_seq ?_
      refine wp_region_lit ?_
      refine st_val hs (y_loadBA (hw.ownAt 2 rfl) rfl Try.isAgg32 Try.sizeOf32 rfl rfl) trivial rfl rfl fun a hs => ?_
      refine w_store (m := 12) (cs' := [.string s8.Network, .string s8.Station, .string s8.Location, .string s8.Channel, .int .i64 (w64 (1000000000000 + (w64 (250000 * rv46.1)))), .int .i64 rv54.1, .int .i64 rv39.1.Num, .int .i64 rv39.1.Den, .int .i64 rv62.1, .int .i64 rv68.1, .int .i64 rv74.1, .slice p229 e226.2.2.length k230]) hs hw 1 rfl rfl rfl Try.sizeOf32 rfl rfl rfl rfl trivial ?_
      intro a w hs hw
      refine wpList_nil ?_
      refine then_normal ?_
      have hsh := Option.some.inj hsh
      subst hsh
      refine wp_ret ?_
      exact ret1 hs rfl (rv_cell hw 1 rfl rfl Try.isAgg32 Try.sizeOf32 rfl) (hw.ret ⟨p229, k230, c231, p227, k228, rfl, (hw.freshOf 3 rfl (.inr ⟨0, _, _, _, rfl, rfl, rfl⟩)), (hw.envAt 2 rfl), (hw.ownAt 0 rfl), (hw.envAt 0 rfl)⟩)

abbrev ref03_code_rd (w0 : World) (r : Bool) : (Nat → Prop) → World → Value → Prop := fun S w v => v = .bool r
set_option maxHeartbeats 4000000 in
set_option maxRecDepth 100000 in
theorem ref03_code_ok {w0 : World} {S0 : Nat → Prop} {s1 : ByteArray} {lo2 : Int} {hi3 : Int} {r : Bool} (hsh : ref03_code s1 lo2 hi3 = some r) (hS : ∀ b, S0 b → b < w0.heap.size) : Calls Try.prog 74 #[.string s1, .int .i64 lo2, .int .i64 hi3] w0 (Ret [] w0 S0 (ref03_code_rd w0 r)) := by
  refine calls_of_wp Try.func74 rfl ?_
  have hs := Sl.enter #[.string s1, .int .i64 lo2, .int .i64 hi3] 47 [(0, .string s1), (1, .int .i64 lo2), (2, .int .i64 hi3)] rfl ⟨rfl, rfl, rfl, trivial⟩
  have hw := Wd.enter (E := []) hS (fun _ h => (by cases h))
  delta ref03_code at hsh
  refine wp_seq ?_
  refine wp_region_lit ?_
  refine st_val hs (y_assign rfl) trivial rfl rfl fun a hs => ?_
  refine wpList_nil ?_
  refine then_normal ?_
  refine wp_seq ?_
  refine wp_seq ?_
  refine wp_region_lit ?_
  refine st_val hs (y_assign rfl) trivial rfl rfl fun a hs => ?_
  refine wpList_nil ?_
  refine then_normal ?_
  refine wp_block ?_
  refine wp_while (fun sv111 a w => ∃ (Sv181 : Nat → Prop), Sl 47 [(0, .string s1), (1, .int .i64 lo2), (2, .int .i64 hi3), (7, .int .i64 sv111)] a ∧ Wd ⟨w0, S0, []⟩ Sv181 [] [] w) 0 hsh ⟨S0, (hs.wk rfl), (hw.ft [] [] (by decide) rfl rfl)⟩ ?_
  repeat clear hsh
  rintro sv111 a w tv217 ⟨Sv181, hs, hw⟩ hsh hd216
  delta ref03_code_l2 at hsh
  refine wp_seq ?_
  refine wp_seq ?_
  refine wp_region_lit ?_
  refine st_val hs (y_move rfl) trivial rfl rfl fun a hs => ?_
  refine st_val hs (y_move rfl) trivial rfl rfl fun a hs => ?_
  refine st_val hs (y_lenS Try.runUnderlying9 rfl) trivial rfl rfl fun a hs => ?_
  refine st_val hs (y_lss rfl rfl) trivial rfl rfl fun a hs => ?_
  refine wpList_nil ?_
  refine then_normal ?_
  refine wp_cond_split (hs.ev rfl) (fun h221 => ?_) (fun h221 => ?_)
  · have hsh := ite_t hsh h221
    refine wp_skip ?_
    refine then_normal ?_
    refine wp_seq ?_
    refine wp_block ?_
    refine wp_seq ?_
    refine wp_region_lit ?_
    refine st_val hs (y_move rfl) trivial rfl rfl fun a hs => ?_
    refine st_val hs (y_move rfl) trivial rfl rfl fun a hs => ?_
    obtain ⟨c254, h253, hsh⟩ := bind_t hsh
    refine st_val hs (y_indexSM Try.runUnderlying9 rfl rfl h253) trivial rfl rfl fun a hs => ?_
    refine st_val hs (y_geq rfl rfl) trivial rfl rfl fun a hs => ?_
    refine st_val hs (y_move rfl) trivial rfl rfl fun a hs => ?_
    obtain ⟨c258, hc258, hsh⟩ := bind_t hsh
    refine wpl_join 5 (fun a w => ∃ (Sv259 : Nat → Prop), Sl 47 [(0, .string s1), (1, .int .i64 lo2), (2, .int .i64 hi3), (7, .int .i64 sv111), (23, .bool c258)] a ∧ Wd ⟨w0, S0, []⟩ Sv259 [] [] w) ?_ ?_
    · rcases Bool.eq_false_or_eq_true (decide (65 ≤ c254)) with h257 | h257
      · have hs := hs.fix 18 (.bool true) rfl (vb h257)
        have hsh := ite_t hc258 h257
        refine st_val hs (y_move rfl) ⟨_, rfl, rfl⟩ rfl rfl fun a hs => ?_
        refine st_val hs (y_move rfl) ⟨_, rfl, rfl⟩ rfl rfl fun a hs => ?_
        obtain ⟨c261, h260, hsh⟩ := bind_t hsh
        refine st_val hs (y_indexSM Try.runUnderlying9 rfl rfl h260) ⟨_, rfl, rfl⟩ rfl rfl fun a hs => ?_
        refine st_val hs (y_leq rfl rfl) ⟨_, rfl, rfl⟩ rfl rfl fun a hs => ?_
        refine st_val hs (y_pickT rfl rfl) trivial rfl rfl fun a hs => ?_
        refine wpList_nil ?_
        have hsh := Option.some.inj hsh
        subst hsh
        refine then_normal ?_
        exact ⟨Sv181, (hs.wk rfl), (hw.ft [] [] (by decide) rfl rfl)⟩
      · have hs := hs.fix 18 (.bool false) rfl (vb h257)
        have hsh := ite_f hc258 h257
        refine st_skip hs rfl rfl rfl rfl rfl fun a hs => ?_
        refine st_skip hs rfl rfl rfl rfl rfl fun a hs => ?_
        refine st_skip hs rfl rfl rfl rfl rfl fun a hs => ?_
        refine st_skip hs rfl rfl rfl rfl rfl fun a hs => ?_
        refine st_val hs (y_pickF rfl rfl) trivial rfl rfl fun a hs => ?_
        refine wpList_nil ?_
        have hsh := Option.some.inj hsh
        subst hsh
        refine then_normal ?_
        exact ⟨Sv181, (hs.wk rfl), (hw.ft [] [] (by decide) rfl rfl)⟩
    · rintro a w ⟨Sv259, hs, hw⟩
      refine st_val hs (y_move rfl) trivial rfl rfl fun a hs => ?_
      obtain ⟨c272, hc272, hsh⟩ := bind_t hsh
      refine wpl_join 11 (fun a w => ∃ (Sv273 : Nat → Prop), Sl 47 [(0, .string s1), (1, .int .i64 lo2), (2, .int .i64 hi3), (7, .int .i64 sv111), (35, .bool c272)] a ∧ Wd ⟨w0, S0, []⟩ Sv273 [] [] w) ?_ ?_
      · rcases Bool.eq_false_or_eq_true c258 with h271 | h271
        · have hs := hs.fix 24 (.bool true) rfl (vb h271)
          have hsh := ite_t hc272 h271
          refine st_skip hs rfl rfl rfl rfl rfl fun a hs => ?_
          refine st_skip hs rfl rfl rfl rfl rfl fun a hs => ?_
          refine st_skip hs rfl rfl rfl rfl rfl fun a hs => ?_
          refine st_skip hs rfl rfl rfl rfl rfl fun a hs => ?_
          refine st_skip hs rfl rfl rfl rfl rfl fun a hs => ?_
          refine st_skipU hs rfl rfl rfl rfl rfl fun a hs => ?_
          refine st_skipU hs rfl rfl rfl rfl rfl fun a hs => ?_
          refine st_skipU hs rfl rfl rfl rfl rfl fun a hs => ?_
          refine st_skipU hs rfl rfl rfl rfl rfl fun a hs => ?_
          refine st_skip hs rfl rfl rfl rfl rfl fun a hs => ?_
          refine st_val hs (y_pickT rfl rfl) trivial rfl rfl fun a hs => ?_
          refine wpList_nil ?_
          have hsh := Option.some.inj hsh
          subst hsh
          refine then_normal ?_
          exact ⟨Sv259, (hs.wk rfl), (hw.ft [] [] (by decide) rfl rfl)⟩
        · have hs := hs.fix 24 (.bool false) rfl (vb h271)
          have hsh := ite_f hc272 h271
          refine st_val hs (y_move rfl) ⟨_, rfl, rfl⟩ rfl rfl fun a hs => ?_
          refine st_val hs (y_move rfl) ⟨_, rfl, rfl⟩ rfl rfl fun a hs => ?_
          obtain ⟨c275, h274, hsh⟩ := bind_t hsh
          refine st_val hs (y_indexSM Try.runUnderlying9 rfl rfl h274) ⟨_, rfl, rfl⟩ rfl rfl fun a hs => ?_
          refine st_val hs (y_geq rfl rfl) ⟨_, rfl, rfl⟩ rfl rfl fun a hs => ?_
          refine st_val hs (y_move rfl) ⟨_, rfl, rfl⟩ rfl rfl fun a hs => ?_
          obtain ⟨c279, hc279, hsh⟩ := bind_t hsh
          refine wpl_join 5 (fun a w => ∃ (Sv280 : Nat → Prop), Sl 47 [(0, .string s1), (1, .int .i64 lo2), (2, .int .i64 hi3), (7, .int .i64 sv111), (24, .bool false), (25, .string s1), (26, .int .i64 sv111), (27, .int .u8 c275), (28, .bool (decide (48 ≤ c275))), (29, .bool c279.1), (34, .bool c279.2)] a ∧ Wd ⟨w0, S0, []⟩ Sv280 [] [] w) ?_ ?_
          · rcases Bool.eq_false_or_eq_true (decide (48 ≤ c275)) with h278 | h278
            · have hs := hs.fix 29 (.bool true) rfl (vb h278)
              have hsh := ite_t hc279 h278
              refine st_val hs (y_move rfl) ⟨_, rfl, rfl⟩ rfl rfl fun a hs => ?_
              refine st_val hs (y_move rfl) ⟨_, rfl, rfl⟩ rfl rfl fun a hs => ?_
              obtain ⟨c282, h281, hsh⟩ := bind_t hsh
              refine st_val hs (y_indexSM Try.runUnderlying9 rfl rfl h281) ⟨_, rfl, rfl⟩ rfl rfl fun a hs => ?_
              refine st_val hs (y_leq rfl rfl) ⟨_, rfl, rfl⟩ rfl rfl fun a hs => ?_
              refine st_val hs (y_pickT rfl rfl) ⟨_, rfl, rfl⟩ rfl rfl fun a hs => ?_
              refine wpList_nil ?_
              have hsh := Option.some.inj hsh
              subst hsh
              refine then_normal ?_
              exact ⟨Sv259, (hs.wk rfl), (hw.ft [] [] (by decide) rfl rfl)⟩
            · have hs := hs.fix 29 (.bool false) rfl (vb h278)
              have hsh := ite_f hc279 h278
              refine st_skip hs rfl rfl rfl rfl rfl fun a hs => ?_
              refine st_skip hs rfl rfl rfl rfl rfl fun a hs => ?_
              refine st_skip hs rfl rfl rfl rfl rfl fun a hs => ?_
              refine st_skip hs rfl rfl rfl rfl rfl fun a hs => ?_
              refine st_val hs (y_pickF rfl rfl) ⟨_, rfl, rfl⟩ rfl rfl fun a hs => ?_
              refine wpList_nil ?_
              have hsh := Option.some.inj hsh
              subst hsh
              refine then_normal ?_
              exact ⟨Sv259, (hs.wk rfl), (hw.ft [] [] (by decide) rfl rfl)⟩
          · rintro a w ⟨Sv280, hs, hw⟩
            refine st_val hs (y_pickF rfl rfl) trivial rfl rfl fun a hs => ?_
            refine wpList_nil ?_
            have hsh := Option.some.inj hsh
            subst hsh
            refine then_normal ?_
            exact ⟨Sv280, (hs.wk rfl), (hw.ft [] [] (by decide) rfl rfl)⟩
      · rintro a w ⟨Sv273, hs, hw⟩
        refine st_val hs (y_not rfl) trivial rfl rfl fun a hs => ?_
        refine wpList_nil ?_
        refine then_normal ?_
        refine wp_cond_split (hs.ev rfl) (fun h284 => ?_) (fun h284 => ?_)
        · have hsh := ite_t hsh h284
          refine wp_seq ?_
          refine wp_region_lit ?_
          refine st_val hs (y_assign rfl) trivial rfl rfl fun a hs => ?_
          refine wpList_nil ?_
          refine then_normal ?_
          have hsh := Option.some.inj hsh
          subst hsh
          have h285 := hd216 _ rfl
          subst h285
          refine wp_ret ?_
          refine blk_ret ?_
          refine then_ret ?_
          refine then_ret ?_
          refine blk_ret ?_
          refine then_ret ?_
          exact ret1 hs rfl (rv_tmp rfl) (hw.ret rfl)
        · have hsh := ite_f hsh h284
          refine wp_skip ?_
          refine blk_normal ?_
          refine then_normal ?_
          refine wp_region_lit ?_
          refine st_val hs (y_move rfl) trivial rfl rfl fun a hs => ?_
          refine st_val hs (y_add rfl rfl) trivial rfl rfl fun a hs => ?_
          obtain ⟨i287, h286, hsh⟩ := bind_t hsh
          refine st_val hs (y_assignI rfl h286) trivial rfl rfl fun a hs => ?_
          refine wpList_nil ?_
          refine then_normal ?_
          exact ⟨_, (Option.some.inj hsh).symm, Sv273, (hs.wk rfl), (hw.ft [] [] (by decide) rfl rfl)⟩
  · have hsh := ite_f hsh h221
    obtain ⟨rv290, hsh, h291⟩ := map_t hsh
    have h291 := hd216 _ h291.symm
    subst h291
    refine wp_exit ?_
    refine then_exit ?_
    refine then_exit ?_
    refine blk_exit ?_
    refine then_normal ?_
    refine wp_seq ?_
    refine wp_region_lit ?_
    refine st_val hs (y_move rfl) trivial rfl rfl fun a hs => ?_
    refine st_val hs (y_lenS Try.runUnderlying9 rfl) trivial rfl rfl fun a hs => ?_
    refine st_val hs (y_move rfl) trivial rfl rfl fun a hs => ?_
    refine st_val hs (y_geq rfl rfl) trivial rfl rfl fun a hs => ?_
    refine st_val hs (y_move rfl) trivial rfl rfl fun a hs => ?_
    refine wpl_join 5 (fun a w1 => w = w1 ∧ Sl 47 [(46, .bool ((decide (lo2 ≤ (s1.size : Int))) && (decide ((s1.size : Int) ≤ hi3))))] a) ?_ ?_
    · rcases Bool.eq_false_or_eq_true (decide (lo2 ≤ (s1.size : Int))) with h288 | h288
      · have hs := hs.fix 41 (.bool true) rfl (vb h288)
        refine st_val hs (y_move rfl) ⟨_, rfl, rfl⟩ rfl rfl fun a hs => ?_
        refine st_val hs (y_lenS Try.runUnderlying9 rfl) ⟨_, rfl, rfl⟩ rfl rfl fun a hs => ?_
        refine st_val hs (y_move rfl) ⟨_, rfl, rfl⟩ rfl rfl fun a hs => ?_
        refine st_val hs (y_leq rfl rfl) ⟨_, rfl, rfl⟩ rfl rfl fun a hs => ?_
        refine st_val hs (y_pickT rfl rfl) trivial rfl rfl fun a hs => ?_
        refine wpList_nil ?_
        refine then_normal ?_
        exact ⟨rfl, (hs.fix 46 (.bool ((decide (lo2 ≤ (s1.size : Int))) && (decide ((s1.size : Int) ≤ hi3)))) rfl (and_t h288)).weaken _ ⟨rfl, trivial⟩⟩
      · have hs := hs.fix 41 (.bool false) rfl (vb h288)
        refine st_skip hs rfl rfl rfl rfl rfl fun a hs => ?_
        refine st_skip hs rfl rfl rfl rfl rfl fun a hs => ?_
        refine st_skip hs rfl rfl rfl rfl rfl fun a hs => ?_
        refine st_skip hs rfl rfl rfl rfl rfl fun a hs => ?_
        refine st_val hs (y_pickF rfl rfl) trivial rfl rfl fun a hs => ?_
        refine wpList_nil ?_
        refine then_normal ?_
        exact ⟨rfl, (hs.fix 46 (.bool ((decide (lo2 ≤ (s1.size : Int))) && (decide ((s1.size : Int) ≤ hi3)))) rfl (and_f h288)).weaken _ ⟨rfl, trivial⟩⟩
    · rintro a w1 ⟨h289, hs⟩
      subst h289
      refine st_val hs (y_assign rfl) trivial rfl rfl fun a hs => ?_
      refine wpList_nil ?_
      refine then_normal ?_
      have hsh := Option.some.inj hsh
      subst hsh
      refine wp_ret ?_
      exact ret1 hs rfl (rv_tmp rfl) (hw.ret rfl)

abbrev ref03_Valid_rd (w0 : World) (r : Bool) : (Nat → Prop) → World → Value → Prop := fun S w v => v = .bool r
set_option maxHeartbeats 4000000 in
set_option maxRecDepth 100000 in
theorem ref03_Valid_ok {w0 : World} {S0 : Nat → Prop} {s1 : SourceID} {r : Bool} (hsh : ref03_Valid s1 = some r) (hS : ∀ b, S0 b → b < w0.heap.size) : Calls Try.prog 56 #[.agg #[.string s1.Network, .string s1.Station, .string s1.Location, .string s1.Channel]] w0 (Ret [] w0 S0 (ref03_Valid_rd w0 r)) := by
  refine calls_of_wp Try.func56 rfl ?_
  have hs := Sl.enter #[.agg #[.string s1.Network, .string s1.Station, .string s1.Location, .string s1.Channel]] 26 [(0, .agg #[.string s1.Network, .string s1.Station, .string s1.Location, .string s1.Channel])] rfl ⟨rfl, trivial⟩
  have hw := Wd.enter (E := []) hS (fun _ h => (by cases h))
  delta ref03_Valid at hsh
  refine wp_seq ?_
  refine wp_region_lit ?_
  refine w_box (cs := [.string s1.Network, .string s1.Station, .string s1.Location, .string s1.Channel]) hs hw rfl rfl rfl trivial ?_
  intro b2 a w hs hw
  refine st_val hs (y_assign rfl) trivial rfl rfl fun a hs => ?_
  refine wpList_nil ?_
  refine then_normal ?_
  refine wp_seq ?_
  refine wp_region_lit ?_
  refine st_val hs (y_fieldAddr (o' := 0) Try.runUnderlying28 rfl Try.sizeOf9 rfl rfl rfl) trivial rfl rfl fun a hs => ?_
  refine st_val hs (y_loadB1 (hw.ownAt 0 rfl) rfl Try.isAgg9 rfl) trivial rfl rfl fun a hs => ?_
  obtain ⟨rv4, h3, hsh⟩ := bind_t hsh
  refine st_callR hs (ref03_code_ok h3 hw.dom) (do_call Try.call74 rfl) trivial rfl rfl ?_
  intro v8 Sv5 w a h6 h7 hs
  subst h7
  have hw := hw.call h6
  refine st_val hs (y_move rfl) trivial rfl rfl fun a hs => ?_
  obtain ⟨c16, hc16, hsh⟩ := bind_t hsh
  refine wpl_join 4 (fun a w => ∃ (Sv17 : Nat → Prop), Sl 26 [(1, .pointer (some ⟨b2, 0, none⟩)), (10, .bool c16)] a ∧ Wd ⟨w0, S0, []⟩ Sv17 [.box b2 [.string s1.Network, .string s1.Station, .string s1.Location, .string s1.Channel] 28] [] w) ?_ ?_
  · rcases Bool.eq_false_or_eq_true rv4 with h15 | h15
    · have hs := hs.fix 6 (.bool true) rfl (vb h15)
      have hsh := ite_t hc16 h15
      refine st_val hs (y_fieldAddr (o' := 1) Try.runUnderlying28 rfl Try.sizeOf9 rfl rfl rfl) ⟨_, rfl, rfl⟩ rfl rfl fun a hs => ?_
      refine st_val hs (y_loadB1 (hw.ownAt 0 rfl) rfl Try.isAgg9 rfl) ⟨_, rfl, rfl⟩ rfl rfl fun a hs => ?_
      obtain ⟨rv19, h18, hsh⟩ := bind_t hsh
      refine st_callR hs (ref03_code_ok h18 hw.dom) (do_call Try.call74 rfl) ⟨_, rfl, rfl⟩ rfl rfl ?_
      intro v23 Sv20 w a h21 h22 hs
      subst h22
      have hw := hw.call h21
      refine st_val hs (y_pickT rfl rfl) trivial rfl rfl fun a hs => ?_
      refine wpList_nil ?_
      have hsh := Option.some.inj hsh
      subst hsh
      refine then_normal ?_
      exact ⟨Sv20, (hs.wk rfl), (hw.ft [0] [] (by decide) rfl rfl)⟩
    · have hs := hs.fix 6 (.bool false) rfl (vb h15)
      have hsh := ite_f hc16 h15
      refine st_skip hs rfl rfl rfl rfl rfl fun a hs => ?_
      refine st_skip hs rfl rfl rfl rfl rfl fun a hs => ?_
      refine st_skip hs rfl rfl rfl rfl rfl fun a hs => ?_
      refine st_val hs (y_pickF rfl rfl) trivial rfl rfl fun a hs => ?_
      refine wpList_nil ?_
      have hsh := Option.some.inj hsh
      subst hsh
      refine then_normal ?_
      exact ⟨Sv5, (hs.wk rfl), (hw.ft [0] [] (by decide) rfl rfl)⟩
  · rintro a w ⟨Sv17, hs, hw⟩
    refine st_val hs (y_move rfl) trivial rfl rfl fun a hs => ?_
    obtain ⟨c40, hc40, hsh⟩ := bind_t hsh
    refine wpl_join 9 (fun a w => ∃ (Sv41 : Nat → Prop), Sl 26 [(1, .pointer (some ⟨b2, 0, none⟩)), (20, .bool c40)] a ∧ Wd ⟨w0, S0, []⟩ Sv41 [.box b2 [.string s1.Network, .string s1.Station, .string s1.Location, .string s1.Channel] 28] [] w) ?_ ?_
    · rcases Bool.eq_false_or_eq_true c16 with h39 | h39
      · have hs := hs.fix 11 (.bool true) rfl (vb h39)
        have hsh := ite_t hc40 h39
        refine st_val hs (y_fieldAddr (o' := 2) Try.runUnderlying28 rfl Try.sizeOf9 rfl rfl rfl) ⟨_, rfl, rfl⟩ rfl rfl fun a hs => ?_
        refine st_val hs (y_loadB1 (hw.ownAt 0 rfl) rfl Try.isAgg9 rfl) ⟨_, rfl, rfl⟩ rfl rfl fun a hs => ?_
        refine st_val hs (y_eqlS rfl rfl) ⟨_, rfl, rfl⟩ rfl rfl fun a hs => ?_
        refine st_val hs (y_move rfl) ⟨_, rfl, rfl⟩ rfl rfl fun a hs => ?_
        obtain ⟨c49, hc49, hsh⟩ := bind_t hsh
        refine wpl_join 4 (fun a w => ∃ (Sv50 : Nat → Prop), Sl 26 [(1, .pointer (some ⟨b2, 0, none⟩)), (11, .bool true), (19, .bool c49)] a ∧ Wd ⟨w0, S0, []⟩ Sv50 [.box b2 [.string s1.Network, .string s1.Station, .string s1.Location, .string s1.Channel] 28] [] w) ?_ ?_
        · rcases Bool.eq_false_or_eq_true (s1.Location.toList == (⟨#[]⟩ : ByteArray).toList) with h48 | h48
          · have hs := hs.fix 15 (.bool true) rfl (vb h48)
            have hsh := ite_t hc49 h48
            refine st_skip hs rfl rfl rfl rfl rfl fun a hs => ?_
            refine st_skip hs rfl rfl rfl rfl rfl fun a hs => ?_
            refine st_skip hs rfl rfl rfl rfl rfl fun a hs => ?_
            refine st_val hs (y_pickT rfl rfl) ⟨_, rfl, rfl⟩ rfl rfl fun a hs => ?_
            refine wpList_nil ?_
            have hsh := Option.some.inj hsh
            subst hsh
            refine then_normal ?_
            exact ⟨Sv17, (hs.wk rfl), (hw.ft [0] [] (by decide) rfl rfl)⟩
          · have hs := hs.fix 15 (.bool false) rfl (vb h48)
            have hsh := ite_f hc49 h48
            refine st_val hs (y_fieldAddr (o' := 2) Try.runUnderlying28 rfl Try.sizeOf9 rfl rfl rfl) ⟨_, rfl, rfl⟩ rfl rfl fun a hs => ?_
            refine st_val hs (y_loadB1 (hw.ownAt 0 rfl) rfl Try.isAgg9 rfl) ⟨_, rfl, rfl⟩ rfl rfl fun a hs => ?_
            obtain ⟨rv52, h51, hsh⟩ := bind_t hsh
            refine st_callR hs (ref03_code_ok h51 hw.dom) (do_call Try.call74 rfl) ⟨_, rfl, rfl⟩ rfl rfl ?_
            intro v56 Sv53 w a h54 h55 hs
            subst h55
            have hw := hw.call h54
            refine st_val hs (y_pickF rfl rfl) ⟨_, rfl, rfl⟩ rfl rfl fun a hs => ?_
            refine wpList_nil ?_
            have hsh := Option.some.inj hsh
            subst hsh
            refine then_normal ?_
            exact ⟨Sv53, (hs.wk rfl), (hw.ft [0] [] (by decide) rfl rfl)⟩
        · rintro a w ⟨Sv50, hs, hw⟩
          refine st_val hs (y_pickT rfl rfl) trivial rfl rfl fun a hs => ?_
          refine wpList_nil ?_
          have hsh := Option.some.inj hsh
          subst hsh
          refine then_normal ?_
          exact ⟨Sv50, (hs.wk rfl), (hw.ft [0] [] (by decide) rfl rfl)⟩
      · have hs := hs.fix 11 (.bool false) rfl (vb h39)
        have hsh := ite_f hc40 h39
        refine st_skip hs rfl rfl rfl rfl rfl fun a hs => ?_
        refine st_skip hs rfl rfl rfl rfl rfl fun a hs => ?_
        refine st_skip hs rfl rfl rfl rfl rfl fun a hs => ?_
        refine st_skip hs rfl rfl rfl rfl rfl fun a hs => ?_
        refine st_skipU hs rfl rfl rfl rfl rfl fun a hs => ?_
        refine st_skipU hs rfl rfl rfl rfl rfl fun a hs => ?_
        refine st_skipU hs rfl rfl rfl rfl rfl fun a hs => ?_
        refine st_skip hs rfl rfl rfl rfl rfl fun a hs => ?_
        refine st_val hs (y_pickF rfl rfl) trivial rfl rfl fun a hs => ?_
        refine wpList_nil ?_
        have hsh := Option.some.inj hsh
        subst hsh
        refine then_normal ?_
        exact ⟨Sv17, (hs.wk rfl), (hw.ft [0] [] (by decide) rfl rfl)⟩
    · rintro a w ⟨Sv41, hs, hw⟩
      refine st_val hs (y_move rfl) trivial rfl rfl fun a hs => ?_
      obtain ⟨c64, hc64, hsh⟩ := bind_t hsh
      refine wpl_join 4 (fun a w => ∃ (Sv65 : Nat → Prop), Sl 26 [(25, .bool c64)] a ∧ Wd ⟨w0, S0, []⟩ Sv65 [] [] w) ?_ ?_
      · rcases Bool.eq_false_or_eq_true c40 with h63 | h63
        · have hs := hs.fix 21 (.bool true) rfl (vb h63)
          have hsh := ite_t hc64 h63
          refine st_val hs (y_fieldAddr (o' := 3) Try.runUnderlying28 rfl Try.sizeOf9 rfl rfl rfl) ⟨_, rfl, rfl⟩ rfl rfl fun a hs => ?_
          refine st_val hs (y_loadB1 (hw.ownAt 0 rfl) rfl Try.isAgg9 rfl) ⟨_, rfl, rfl⟩ rfl rfl fun a hs => ?_
          obtain ⟨rv67, h66, hsh⟩ := bind_t hsh
          refine st_callR hs (ref03_code_ok h66 hw.dom) (do_call Try.call74 rfl) ⟨_, rfl, rfl⟩ rfl rfl ?_
          intro v71 Sv68 w a h69 h70 hs
          subst h70
          have hw := hw.call h69
          refine st_val hs (y_pickT rfl rfl) trivial rfl rfl fun a hs => ?_
          refine wpList_nil ?_
          have hsh := Option.some.inj hsh
          subst hsh
          refine then_normal ?_
          exact ⟨Sv68, (hs.wk rfl), (hw.ft [] [] (by decide) rfl rfl)⟩
        · have hs := hs.fix 21 (.bool false) rfl (vb h63)
          have hsh := ite_f hc64 h63
          refine st_skip hs rfl rfl rfl rfl rfl fun a hs => ?_
          refine st_skip hs rfl rfl rfl rfl rfl fun a hs => ?_
          refine st_skip hs rfl rfl rfl rfl rfl fun a hs => ?_
          refine st_val hs (y_pickF rfl rfl) trivial rfl rfl fun a hs => ?_
          refine wpList_nil ?_
          have hsh := Option.some.inj hsh
          subst hsh
          refine then_normal ?_
          exact ⟨Sv41, (hs.wk rfl), (hw.ft [] [] (by decide) rfl rfl)⟩
      · rintro a w ⟨Sv65, hs, hw⟩
        refine st_val hs (y_assign rfl) trivial rfl rfl fun a hs => ?_
        refine wpList_nil ?_
        refine then_normal ?_
        have hsh := Option.some.inj hsh
        subst hsh
        refine wp_ret ?_
        exact ret1 hs rfl (rv_tmp rfl) (hw.ret rfl)

abbrev ref02_Valid_rd (w0 : World) (r : Bool) : (Nat → Prop) → World → Value → Prop := fun S w v => v = .bool r
set_option maxHeartbeats 4000000 in
set_option maxRecDepth 100000 in
theorem ref02_Valid_ok {w0 : World} {S0 : Nat → Prop} {r1 : Rate} {r : Bool} (hsh : ref02_Valid r1 = some r) (hS : ∀ b, S0 b → b < w0.heap.size) : Calls Try.prog 57 #[.agg #[.int .i64 r1.Num, .int .i64 r1.Den]] w0 (Ret [] w0 S0 (ref02_Valid_rd w0 r)) := by
  refine calls_of_wp Try.func57 rfl ?_
  have hs := Sl.enter #[.agg #[.int .i64 r1.Num, .int .i64 r1.Den]] 19 [(0, .agg #[.int .i64 r1.Num, .int .i64 r1.Den])] rfl ⟨rfl, trivial⟩
  have hw := Wd.enter (E := []) hS (fun _ h => (by cases h))
  delta ref02_Valid at hsh
  refine wp_seq ?_
  refine wp_region_lit ?_
  refine w_box (cs := [.int .i64 r1.Num, .int .i64 r1.Den]) hs hw rfl rfl rfl trivial ?_
  intro b2 a w hs hw
  refine st_val hs (y_assign rfl) trivial rfl rfl fun a hs => ?_
  refine wpList_nil ?_
  refine then_normal ?_
  refine wp_seq ?_
  refine wp_region_lit ?_
  refine st_val hs (y_fieldAddr (o' := 0) Try.runUnderlying30 rfl Try.sizeOf3 rfl rfl rfl) trivial rfl rfl fun a hs => ?_
  refine st_val hs (y_loadB1 (hw.ownAt 0 rfl) rfl Try.isAgg3 rfl) trivial rfl rfl fun a hs => ?_
  obtain ⟨rv4, h3, hsh⟩ := bind_t hsh
  refine st_callR hs (ref01_In_ok h3 hw.dom) (do_call Try.call46 rfl) trivial rfl rfl ?_
  intro v8 Sv5 w a h6 h7 hs
  subst h7
  have hw := hw.call h6
  refine st_val hs (y_move rfl) trivial rfl rfl fun a hs => ?_
  obtain ⟨c16, hc16, hsh⟩ := bind_t hsh
  refine wpl_join 4 (fun a w => ∃ (Sv17 : Nat → Prop), Sl 19 [(1, .pointer (some ⟨b2, 0, none⟩)), (10, .bool c16)] a ∧ Wd ⟨w0, S0, []⟩ Sv17 [.box b2 [.int .i64 r1.Num, .int .i64 r1.Den] 30] [] w) ?_ ?_
  · rcases Bool.eq_false_or_eq_true rv4 with h15 | h15
    · have hs := hs.fix 6 (.bool true) rfl (vb h15)
      have hsh := ite_t hc16 h15
      refine st_val hs (y_fieldAddr (o' := 1) Try.runUnderlying30 rfl Try.sizeOf3 rfl rfl rfl) ⟨_, rfl, rfl⟩ rfl rfl fun a hs => ?_
      refine st_val hs (y_loadB1 (hw.ownAt 0 rfl) rfl Try.isAgg3 rfl) ⟨_, rfl, rfl⟩ rfl rfl fun a hs => ?_
      obtain ⟨rv19, h18, hsh⟩ := bind_t hsh
      refine st_callR hs (ref01_In_ok h18 hw.dom) (do_call Try.call46 rfl) ⟨_, rfl, rfl⟩ rfl rfl ?_
      intro v23 Sv20 w a h21 h22 hs
      subst h22
      have hw := hw.call h21
      refine st_val hs (y_pickT rfl rfl) trivial rfl rfl fun a hs => ?_
      refine wpList_nil ?_
      have hsh := Option.some.inj hsh
      subst hsh
      refine then_normal ?_
      exact ⟨Sv20, (hs.wk rfl), (hw.ft [0] [] (by decide) rfl rfl)⟩
    · have hs := hs.fix 6 (.bool false) rfl (vb h15)
      have hsh := ite_f hc16 h15
      refine st_skip hs rfl rfl rfl rfl rfl fun a hs => ?_
      refine st_skip hs rfl rfl rfl rfl rfl fun a hs => ?_
      refine st_skip hs rfl rfl rfl rfl rfl fun a hs => ?_
      refine st_val hs (y_pickF rfl rfl) trivial rfl rfl fun a hs => ?_
      refine wpList_nil ?_
      have hsh := Option.some.inj hsh
      subst hsh
      refine then_normal ?_
      exact ⟨Sv5, (hs.wk rfl), (hw.ft [0] [] (by decide) rfl rfl)⟩
  · rintro a w ⟨Sv17, hs, hw⟩
    refine st_val hs (y_move rfl) trivial rfl rfl fun a hs => ?_
    obtain ⟨c31, hc31, hsh⟩ := bind_t hsh
    refine wpl_join 7 (fun a w => ∃ (Sv32 : Nat → Prop), Sl 19 [(18, .bool c31)] a ∧ Wd ⟨w0, S0, []⟩ Sv32 [] [] w) ?_ ?_
    · rcases Bool.eq_false_or_eq_true c16 with h30 | h30
      · have hs := hs.fix 11 (.bool true) rfl (vb h30)
        have hsh := ite_t hc31 h30
        refine st_val hs (y_fieldAddr (o' := 0) Try.runUnderlying30 rfl Try.sizeOf3 rfl rfl rfl) ⟨_, rfl, rfl⟩ rfl rfl fun a hs => ?_
        refine st_val hs (y_loadB1 (hw.ownAt 0 rfl) rfl Try.isAgg3 rfl) ⟨_, rfl, rfl⟩ rfl rfl fun a hs => ?_
        refine st_val hs (y_fieldAddr (o' := 1) Try.runUnderlying30 rfl Try.sizeOf3 rfl rfl rfl) ⟨_, rfl, rfl⟩ rfl rfl fun a hs => ?_
        refine st_val hs (y_loadB1 (hw.ownAt 0 rfl) rfl Try.isAgg3 rfl) ⟨_, rfl, rfl⟩ rfl rfl fun a hs => ?_
        obtain ⟨rv34, h33, hsh⟩ := bind_t hsh
        refine st_callR hs (ref02_gcd_ok h33 hw.dom) (do_call Try.call63 rfl) ⟨_, rfl, rfl⟩ rfl rfl ?_
        intro v38 Sv35 w a h36 h37 hs
        subst h37
        have hw := hw.call h36
        refine st_val hs (y_eql rfl rfl) ⟨_, rfl, rfl⟩ rfl rfl fun a hs => ?_
        refine st_val hs (y_pickT rfl rfl) trivial rfl rfl fun a hs => ?_
        refine wpList_nil ?_
        have hsh := Option.some.inj hsh
        subst hsh
        refine then_normal ?_
        exact ⟨Sv35, (hs.wk rfl), (hw.ft [] [] (by decide) rfl rfl)⟩
      · have hs := hs.fix 11 (.bool false) rfl (vb h30)
        have hsh := ite_f hc31 h30
        refine st_skip hs rfl rfl rfl rfl rfl fun a hs => ?_
        refine st_skip hs rfl rfl rfl rfl rfl fun a hs => ?_
        refine st_skip hs rfl rfl rfl rfl rfl fun a hs => ?_
        refine st_skip hs rfl rfl rfl rfl rfl fun a hs => ?_
        refine st_skip hs rfl rfl rfl rfl rfl fun a hs => ?_
        refine st_skip hs rfl rfl rfl rfl rfl fun a hs => ?_
        refine st_val hs (y_pickF rfl rfl) trivial rfl rfl fun a hs => ?_
        refine wpList_nil ?_
        have hsh := Option.some.inj hsh
        subst hsh
        refine then_normal ?_
        exact ⟨Sv17, (hs.wk rfl), (hw.ft [] [] (by decide) rfl rfl)⟩
    · rintro a w ⟨Sv32, hs, hw⟩
      refine st_val hs (y_assign rfl) trivial rfl rfl fun a hs => ?_
      refine wpList_nil ?_
      refine then_normal ?_
      have hsh := Option.some.inj hsh
      subst hsh
      refine wp_ret ?_
      exact ret1 hs rfl (rv_tmp rfl) (hw.ret rfl)

abbrev ref05_Sample_rd (w0 : World) (r : Bool) : (Nat → Prop) → World → Value → Prop := fun S w v => v = .bool r
set_option maxHeartbeats 4000000 in
set_option maxRecDepth 100000 in
theorem ref05_Sample_ok {w0 : World} {S0 : Nat → Prop} {n1 : Int} {r : Bool} (hsh : ref05_Sample n1 = some r) (hS : ∀ b, S0 b → b < w0.heap.size) : Calls Try.prog 75 #[.int .i64 n1] w0 (Ret [] w0 S0 (ref05_Sample_rd w0 r)) := by
  refine calls_of_wp Try.func75 rfl ?_
  have hs := Sl.enter #[.int .i64 n1] 5 [(0, .int .i64 n1)] rfl ⟨rfl, trivial⟩
  have hw := Wd.enter (E := []) hS (fun _ h => (by cases h))
  delta ref05_Sample at hsh
  refine wp_seq ?_
  refine wp_region_lit ?_
  refine st_val hs (y_assign rfl) trivial rfl rfl fun a hs => ?_
  refine wpList_nil ?_
  refine then_normal ?_
  refine wp_seq ?_
  refine wp_region_lit ?_
  refine st_val hs (y_move rfl) trivial rfl rfl fun a hs => ?_
  obtain ⟨rv3, h2, hsh⟩ := bind_t hsh
  refine st_callR hs (ref01_In_ok h2 hw.dom) (do_call Try.call46 rfl) trivial rfl rfl ?_
  intro v7 Sv4 w a h5 h6 hs
  subst h6
  have hw := hw.call h5
  refine st_val hs (y_assign rfl) trivial rfl rfl fun a hs => ?_
  refine wpList_nil ?_
  refine then_normal ?_
  have hsh := Option.some.inj hsh
  subst hsh
  refine wp_ret ?_
  exact ret1 hs rfl (rv_tmp rfl) (hw.ret rfl)

abbrev ref05_InRange_rd (w0 : World) (r : Bool) : (Nat → Prop) → World → Value → Prop := fun S w v => v = .bool r
set_option maxHeartbeats 4000000 in
set_option maxRecDepth 100000 in
theorem ref05_InRange_ok {w0 : World} {S0 : Nat → Prop} {p2 : Option Addr} {k3 : Nat} {l1 : (List Int)} {r : Bool} (hsh : ref05_InRange l1 = some r) (hS : ∀ b, S0 b → b < w0.heap.size) (h4 : (SlA p2 l1.length k3 l1).p S0 w0) : Calls Try.prog 58 #[.slice p2 l1.length k3] w0 (Ret [] w0 S0 (ref05_InRange_rd w0 r)) := by
  refine calls_of_wp Try.func58 rfl ?_
  have hs := Sl.enter #[.slice p2 l1.length k3] 16 [(0, .slice p2 l1.length k3)] rfl ⟨rfl, trivial⟩
  have hw := Wd.enter (E := []) hS (fun _ h => (by cases h))
  have hw := hw.addE h4
  delta ref05_InRange at hsh
  refine wp_seq ?_
  refine wp_region_lit ?_
  refine st_val hs (y_assign rfl) trivial rfl rfl fun a hs => ?_
  refine wpList_nil ?_
  refine then_normal ?_
  refine wp_seq ?_
  refine wp_seq ?_
  refine wp_region_lit ?_
  refine st_val hs (y_assign rfl) trivial rfl rfl fun a hs => ?_
  refine wpList_nil ?_
  refine then_normal ?_
  refine wp_block ?_
  refine wp_while (fun sv79 a w => ∃ (Sv127 : Nat → Prop), Sl 16 [(0, .slice p2 l1.length k3), (3, .int .i64 sv79)] a ∧ Wd ⟨w0, S0, []⟩ Sv127 [] [SlA p2 l1.length k3 l1] w) 0 hsh ⟨S0, (hs.wk rfl), (hw.ft [] [0] (by decide) rfl rfl)⟩ ?_
  repeat clear hsh
  rintro sv79 a w tv152 ⟨Sv127, hs, hw⟩ hsh hd151
  delta ref05_InRange_l2 at hsh
  refine wp_seq ?_
  refine wp_seq ?_
  refine wp_region_lit ?_
  refine st_val hs (y_move rfl) trivial rfl rfl fun a hs => ?_
  refine st_val hs (y_move rfl) trivial rfl rfl fun a hs => ?_
  refine st_val hs (y_len Try.runUnderlying22 rfl) trivial rfl rfl fun a hs => ?_
  refine st_val hs (y_lss rfl rfl) trivial rfl rfl fun a hs => ?_
  refine wpList_nil ?_
  refine then_normal ?_
  refine wp_cond_split (hs.ev rfl) (fun h156 => ?_) (fun h156 => ?_)
  · have hsh := ite_t hsh h156
    refine wp_skip ?_
    refine then_normal ?_
    refine wp_seq ?_
    refine wp_block ?_
    refine wp_seq ?_
    refine wp_region_lit ?_
    refine st_val hs (y_move rfl) trivial rfl rfl fun a hs => ?_
    refine st_val hs (y_move rfl) trivial rfl rfl fun a hs => ?_
    obtain ⟨x179, h177, hsh⟩ := bind_t hsh
    obtain ⟨b185, o186, q183, c184, h187, h180, h181, h182, h178⟩ := hw.elemV 0 rfl h177
    have hsv188 := hs
    have hwv189 := hw
    subst h187
    have hs := hsv188
    have hw := hwv189
    obtain ⟨_, rfl, rfl⟩ := h178
    have hw := hw.addE h182
    refine st_val hs (y_indexAt Try.runUnderlying22 Try.sizeOf3 rfl rfl h180.1 h180.2 h181) trivial rfl rfl fun a hs => ?_
    refine st_val hs (y_loadE1 (j := 0) (hw.ceAt 0 rfl) rfl Try.isAgg3 rfl) trivial rfl rfl fun a hs => ?_
    obtain ⟨rv191, h190, hsh⟩ := bind_t hsh
    refine st_callR hs (ref05_Sample_ok h190 hw.dom) (do_call Try.call75 rfl) trivial rfl rfl ?_
    intro v195 Sv192 w a h193 h194 hs
    subst h194
    have hw := hw.call h193
    refine st_val hs (y_not rfl) trivial rfl rfl fun a hs => ?_
    refine wpList_nil ?_
    refine then_normal ?_
    refine wp_cond_split (hs.ev rfl) (fun h197 => ?_) (fun h197 => ?_)
    · have hsh := ite_t hsh h197
      refine wp_seq ?_
      refine wp_region_lit ?_
      refine st_val hs (y_assign rfl) trivial rfl rfl fun a hs => ?_
      refine wpList_nil ?_
      refine then_normal ?_
      have hsh := Option.some.inj hsh
      subst hsh
      have h198 := hd151 _ rfl
      subst h198
      refine wp_ret ?_
      refine blk_ret ?_
      refine then_ret ?_
      refine then_ret ?_
      refine blk_ret ?_
      refine then_ret ?_
      exact ret1 hs rfl (rv_tmp rfl) (hw.ret rfl)
    · have hsh := ite_f hsh h197
      refine wp_skip ?_
      refine blk_normal ?_
      refine then_normal ?_
      refine wp_region_lit ?_
      refine st_val hs (y_move rfl) trivial rfl rfl fun a hs => ?_
      refine st_val hs (y_add rfl rfl) trivial rfl rfl fun a hs => ?_
      obtain ⟨i200, h199, hsh⟩ := bind_t hsh
      refine st_val hs (y_assignI rfl h199) trivial rfl rfl fun a hs => ?_
      refine wpList_nil ?_
      refine then_normal ?_
      exact ⟨_, (Option.some.inj hsh).symm, Sv192, (hs.wk rfl), (hw.ft [] [1] (by decide) rfl rfl)⟩
  · have hsh := ite_f hsh h156
    obtain ⟨rv201, hsh, h202⟩ := map_t hsh
    have h202 := hd151 _ h202.symm
    subst h202
    refine wp_exit ?_
    refine then_exit ?_
    refine then_exit ?_
    refine blk_exit ?_
    refine then_normal ?_
    refine wp_seq ?_
    refine wp_region_lit ?_
    refine st_val hs (y_assign rfl) trivial rfl rfl fun a hs => ?_
    refine wpList_nil ?_
    refine then_normal ?_
    have hsh := Option.some.inj hsh
    subst hsh
    refine wp_ret ?_
    exact ret1 hs rfl (rv_tmp rfl) (hw.ret rfl)

abbrev ref02_Time_rd (w0 : World) (r : (Int × Int)) : (Nat → Prop) → World → Value → Prop := fun S w v => v = .tuple #[.int .i64 r.1, .int .i64 r.2]
set_option maxHeartbeats 4000000 in
set_option maxRecDepth 100000 in
theorem ref02_Time_ok {w0 : World} {S0 : Nat → Prop} {start1 : Int} {r2 : Rate} {k3 : Int} {r : (Int × Int)} (hsh : ref02_Time start1 r2 k3 = some r) (hS : ∀ b, S0 b → b < w0.heap.size) : Calls Try.prog 65 #[.int .i64 start1, .agg #[.int .i64 r2.Num, .int .i64 r2.Den], .int .i64 k3] w0 (Ret [] w0 S0 (ref02_Time_rd w0 r)) := by
  refine calls_of_wp Try.func65 rfl ?_
  have hs := Sl.enter #[.int .i64 start1, .agg #[.int .i64 r2.Num, .int .i64 r2.Den], .int .i64 k3] 29 [(0, .int .i64 start1), (1, .agg #[.int .i64 r2.Num, .int .i64 r2.Den]), (2, .int .i64 k3)] rfl ⟨rfl, rfl, rfl, trivial⟩
  have hw := Wd.enter (E := []) hS (fun _ h => (by cases h))
  delta ref02_Time at hsh
  refine wp_seq ?_
  refine wp_region_lit ?_
  refine w_box (cs := [.int .i64 r2.Num, .int .i64 r2.Den]) hs hw rfl rfl rfl trivial ?_
  intro b4 a w hs hw
  refine st_val hs (y_assign rfl) trivial rfl rfl fun a hs => ?_
  refine st_val hs (y_assign rfl) trivial rfl rfl fun a hs => ?_
  refine wpList_nil ?_
  refine then_normal ?_
  refine wp_seq ?_
  refine wp_seq ?_
  refine wp_region_lit ?_
  refine st_val hs (y_loadBA (hw.ownAt 0 rfl) rfl Try.isAgg30 Try.sizeOf30 rfl rfl) trivial rfl rfl fun a hs => ?_
  obtain ⟨rv6, h5, hsh⟩ := bind_t hsh
  refine st_callR hs (ref02_Valid_ok h5 hw.dom) (do_call Try.call57 rfl) trivial rfl rfl ?_
  intro v10 Sv7 w a h8 h9 hs
  subst h9
  have hw := hw.call h8
  refine st_val hs (y_not rfl) trivial rfl rfl fun a hs => ?_
  refine wpList_nil ?_
  refine then_normal ?_
  refine wp_cond_split (hs.ev rfl) (fun h12 => ?_) (fun h12 => ?_)
  · have hsh := ite_t hsh h12
    refine wp_seq ?_
    refine wp_region_lit ?_
    refine st_val hs (y_assign rfl) trivial rfl rfl fun a hs => ?_
    refine st_val hs (y_assign rfl) trivial rfl rfl fun a hs => ?_
    refine wpList_nil ?_
    refine then_normal ?_
    have hsh := Option.some.inj hsh
    subst hsh
    refine wp_ret ?_
    refine then_ret ?_
    exact ret2 hs rfl (rv_tmp rfl) (rv_tmp rfl) (hw.ret rfl)
  · have hsh := ite_f hsh h12
    refine wp_skip ?_
    refine then_normal ?_
    refine wp_seq ?_
    refine wp_seq ?_
    refine wp_region_lit ?_
    refine st_val hs (y_move rfl) trivial rfl rfl fun a hs => ?_
    obtain ⟨rv14, h13, hsh⟩ := bind_t hsh
    refine st_callR hs (ref01_In_ok h13 hw.dom) (do_call Try.call46 rfl) trivial rfl rfl ?_
    intro v18 Sv15 w a h16 h17 hs
    subst h17
    have hw := hw.call h16
    refine st_val hs (y_not rfl) trivial rfl rfl fun a hs => ?_
    refine st_val hs (y_move rfl) trivial rfl rfl fun a hs => ?_
    obtain ⟨c26, hc26, hsh⟩ := bind_t hsh
    refine wpl_join 4 (fun a w => ∃ (Sv27 : Nat → Prop), Sl 29 [(0, .int .i64 start1), (2, .int .i64 k3), (4, .pointer (some ⟨b4, 0, none⟩)), (18, .bool c26)] a ∧ Wd ⟨w0, S0, []⟩ Sv27 [.box b4 [.int .i64 r2.Num, .int .i64 r2.Den] 30] [] w) ?_ ?_
    · rcases Bool.eq_false_or_eq_true (!rv14) with h25 | h25
      · have hs := hs.fix 14 (.bool true) rfl (vb h25)
        have hsh := ite_t hc26 h25
        refine st_skip hs rfl rfl rfl rfl rfl fun a hs => ?_
        refine st_skip hs rfl rfl rfl rfl rfl fun a hs => ?_
        refine st_skip hs rfl rfl rfl rfl rfl fun a hs => ?_
        refine st_val hs (y_pickT rfl rfl) trivial rfl rfl fun a hs => ?_
        refine wpList_nil ?_
        have hsh := Option.some.inj hsh
        subst hsh
        refine then_normal ?_
        exact ⟨Sv15, (hs.wk rfl), (hw.ft [0] [] (by decide) rfl rfl)⟩
      · have hs := hs.fix 14 (.bool false) rfl (vb h25)
        have hsh := ite_f hc26 h25
        refine st_val hs (y_move rfl) ⟨_, rfl, rfl⟩ rfl rfl fun a hs => ?_
        obtain ⟨rv29, h28, hsh⟩ := bind_t hsh
        refine st_callR hs (ref01_In_ok h28 hw.dom) (do_call Try.call46 rfl) ⟨_, rfl, rfl⟩ rfl rfl ?_
        intro v33 Sv30 w a h31 h32 hs
        subst h32
        have hw := hw.call h31
        refine st_val hs (y_not rfl) ⟨_, rfl, rfl⟩ rfl rfl fun a hs => ?_
        refine st_val hs (y_pickF rfl rfl) trivial rfl rfl fun a hs => ?_
        refine wpList_nil ?_
        have hsh := Option.some.inj hsh
        subst hsh
        refine then_normal ?_
        exact ⟨Sv30, (hs.wk rfl), (hw.ft [0] [] (by decide) rfl rfl)⟩
    · rintro a w ⟨Sv27, hs, hw⟩
      refine wpList_nil ?_
      refine then_normal ?_
      refine wp_cond_split (hs.ev rfl) (fun h35 => ?_) (fun h35 => ?_)
      · have hsh := ite_t hsh h35
        refine wp_seq ?_
        refine wp_region_lit ?_
        refine st_val hs (y_assign rfl) trivial rfl rfl fun a hs => ?_
        refine st_val hs (y_assign rfl) trivial rfl rfl fun a hs => ?_
        refine wpList_nil ?_
        refine then_normal ?_
        have hsh := Option.some.inj hsh
        subst hsh
        refine wp_ret ?_
        refine then_ret ?_
        exact ret2 hs rfl (rv_tmp rfl) (rv_tmp rfl) (hw.ret rfl)
      · have hsh := ite_f hsh h35
        refine wp_skip ?_
        refine then_normal ?_
        refine wp_seq ?_
        refine wp_region_lit ?_
        refine st_val hs (y_move rfl) trivial rfl rfl fun a hs => ?_
        refine st_val hs (y_move rfl) trivial rfl rfl fun a hs => ?_
        refine st_val hs (y_fieldAddr (o' := 1) Try.runUnderlying30 rfl Try.sizeOf3 rfl rfl rfl) trivial rfl rfl fun a hs => ?_
        refine st_val hs (y_loadB1 (hw.ownAt 0 rfl) rfl Try.isAgg3 rfl) trivial rfl rfl fun a hs => ?_
        refine st_val hs (y_mul rfl rfl) trivial rfl rfl fun a hs => ?_
        refine st_val hs (y_mul rfl rfl) trivial rfl rfl fun a hs => ?_
        refine st_val hs (y_fieldAddr (o' := 0) Try.runUnderlying30 rfl Try.sizeOf3 rfl rfl rfl) trivial rfl rfl fun a hs => ?_
        refine st_val hs (y_loadB1 (hw.ownAt 0 rfl) rfl Try.isAgg3 rfl) trivial rfl rfl fun a hs => ?_
        obtain ⟨quo37, h36, hsh⟩ := bind_t hsh
        refine st_val hs (y_quoM rfl rfl h36) trivial rfl rfl fun a hs => ?_
        refine st_val hs (y_add rfl rfl) trivial rfl rfl fun a hs => ?_
        obtain ⟨x39, h38, hsh⟩ := bind_t hsh
        refine st_val hs (y_assignI rfl h38) trivial rfl rfl fun a hs => ?_
        refine st_val hs (y_assign rfl) trivial rfl rfl fun a hs => ?_
        refine wpList_nil ?_
        refine then_normal ?_
        have hsh := Option.some.inj hsh
        subst hsh
        refine wp_ret ?_
        exact ret2 hs rfl (rv_tmp rfl) (rv_tmp rfl) (hw.ret rfl)

abbrev ref14_Time_rd (w0 : World) (r : Int) : (Nat → Prop) → World → Value → Prop := fun S w v => v = .int .i64 r
set_option maxHeartbeats 4000000 in
set_option maxRecDepth 100000 in
theorem ref14_Time_ok {w0 : World} {S0 : Nat → Prop} {p2 : Option Addr} {k3 : Nat} {r1 : Record} {i5 : Int} {r : Int} (hsh : ref14_Time r1 i5 = some r) (hS : ∀ b, S0 b → b < w0.heap.size) (h4 : (SlA p2 r1.Samples.length k3 r1.Samples).p S0 w0) : Calls Try.prog 41 #[.agg #[.string r1.Source.Network, .string r1.Source.Station, .string r1.Source.Location, .string r1.Source.Channel, .int .i64 r1.Start, .int .i64 r1.First, .int .i64 r1.Rate.Num, .int .i64 r1.Rate.Den, .int .i64 r1.Error, .int .i64 r1.Run, .int .i64 r1.Seq, .slice p2 r1.Samples.length k3], .int .i64 i5] w0 (Ret [] w0 S0 (ref14_Time_rd w0 r)) := by
  refine calls_of_wp Try.func41 rfl ?_
  have hs := Sl.enter #[.agg #[.string r1.Source.Network, .string r1.Source.Station, .string r1.Source.Location, .string r1.Source.Channel, .int .i64 r1.Start, .int .i64 r1.First, .int .i64 r1.Rate.Num, .int .i64 r1.Rate.Den, .int .i64 r1.Error, .int .i64 r1.Run, .int .i64 r1.Seq, .slice p2 r1.Samples.length k3], .int .i64 i5] 20 [(0, .agg #[.string r1.Source.Network, .string r1.Source.Station, .string r1.Source.Location, .string r1.Source.Channel, .int .i64 r1.Start, .int .i64 r1.First, .int .i64 r1.Rate.Num, .int .i64 r1.Rate.Den, .int .i64 r1.Error, .int .i64 r1.Run, .int .i64 r1.Seq, .slice p2 r1.Samples.length k3]), (1, .int .i64 i5)] rfl ⟨rfl, rfl, trivial⟩
  have hw := Wd.enter (E := []) hS (fun _ h => (by cases h))
  have hw := hw.addE h4
  delta ref14_Time at hsh
  refine wp_seq ?_
  refine wp_region_lit ?_
  refine w_box (cs := [.string r1.Source.Network, .string r1.Source.Station, .string r1.Source.Location, .string r1.Source.Channel, .int .i64 r1.Start, .int .i64 r1.First, .int .i64 r1.Rate.Num, .int .i64 r1.Rate.Den, .int .i64 r1.Error, .int .i64 r1.Run, .int .i64 r1.Seq, .slice p2 r1.Samples.length k3]) hs hw rfl rfl rfl trivial ?_
  intro b6 a w hs hw
  refine st_val hs (y_assign rfl) trivial rfl rfl fun a hs => ?_
  refine wpList_nil ?_
  refine then_normal ?_
  refine wp_seq ?_
  refine wp_region_lit ?_
  refine st_val hs (y_fieldAddr (o' := 4) Try.runUnderlying32 rfl Try.sizeOf3 rfl rfl rfl) trivial rfl rfl fun a hs => ?_
  refine st_val hs (y_loadB1 (hw.ownAt 0 rfl) rfl Try.isAgg3 rfl) trivial rfl rfl fun a hs => ?_
  refine st_val hs (y_fieldAddr (o' := 6) Try.runUnderlying32 rfl Try.sizeOf30 rfl rfl rfl) trivial rfl rfl fun a hs => ?_
  refine st_val hs (y_loadBA (hw.ownAt 0 rfl) rfl Try.isAgg30 Try.sizeOf30 rfl rfl) trivial rfl rfl fun a hs => ?_
  refine st_val hs (y_fieldAddr (o' := 5) Try.runUnderlying32 rfl Try.sizeOf3 rfl rfl rfl) trivial rfl rfl fun a hs => ?_
  refine st_val hs (y_loadB1 (hw.ownAt 0 rfl) rfl Try.isAgg3 rfl) trivial rfl rfl fun a hs => ?_
  refine st_val hs (y_move rfl) trivial rfl rfl fun a hs => ?_
  refine st_val hs (y_add rfl rfl) trivial rfl rfl fun a hs => ?_
  obtain ⟨rv8, h7, hsh⟩ := bind_t hsh
  refine st_callR hs (ref02_Time_ok h7 hw.dom) (do_call Try.call65 rfl) trivial rfl rfl ?_
  intro v12 Sv9 w a h10 h11 hs
  subst h11
  have hw := hw.call h10
  refine st_val hs (y_move rfl) trivial rfl rfl fun a hs => ?_
  refine st_val hs (y_extract rfl rfl) trivial rfl rfl fun a hs => ?_
  refine st_val hs (y_extract rfl rfl) trivial rfl rfl fun a hs => ?_
  refine st_val hs (y_assign rfl) trivial rfl rfl fun a hs => ?_
  refine st_val hs (y_assign rfl) trivial rfl rfl fun a hs => ?_
  refine wpList_nil ?_
  refine then_normal ?_
  refine wp_seq ?_
  refine wp_region_lit ?_
  refine st_val hs (y_move rfl) trivial rfl rfl fun a hs => ?_
  refine st_val hs (y_assign rfl) trivial rfl rfl fun a hs => ?_
  refine wpList_nil ?_
  refine then_normal ?_
  have hsh := Option.some.inj hsh
  subst hsh
  refine wp_ret ?_
  exact ret1 hs rfl (rv_tmp rfl) (hw.ret rfl)

abbrev ref14_Valid_rd (w0 : World) (r : Bool) : (Nat → Prop) → World → Value → Prop := fun S w v => v = .bool r
set_option maxHeartbeats 4000000 in
set_option maxRecDepth 100000 in
theorem ref14_Valid_ok {w0 : World} {S0 : Nat → Prop} {p2 : Option Addr} {k3 : Nat} {r1 : Record} {r : Bool} (hsh : ref14_Valid r1 = some r) (hS : ∀ b, S0 b → b < w0.heap.size) (h4 : (SlA p2 r1.Samples.length k3 r1.Samples).p S0 w0) : Calls Try.prog 27 #[.agg #[.string r1.Source.Network, .string r1.Source.Station, .string r1.Source.Location, .string r1.Source.Channel, .int .i64 r1.Start, .int .i64 r1.First, .int .i64 r1.Rate.Num, .int .i64 r1.Rate.Den, .int .i64 r1.Error, .int .i64 r1.Run, .int .i64 r1.Seq, .slice p2 r1.Samples.length k3]] w0 (Ret [] w0 S0 (ref14_Valid_rd w0 r)) := by
  refine calls_of_wp Try.func27 rfl ?_
  have hs := Sl.enter #[.agg #[.string r1.Source.Network, .string r1.Source.Station, .string r1.Source.Location, .string r1.Source.Channel, .int .i64 r1.Start, .int .i64 r1.First, .int .i64 r1.Rate.Num, .int .i64 r1.Rate.Den, .int .i64 r1.Error, .int .i64 r1.Run, .int .i64 r1.Seq, .slice p2 r1.Samples.length k3]] 68 [(0, .agg #[.string r1.Source.Network, .string r1.Source.Station, .string r1.Source.Location, .string r1.Source.Channel, .int .i64 r1.Start, .int .i64 r1.First, .int .i64 r1.Rate.Num, .int .i64 r1.Rate.Den, .int .i64 r1.Error, .int .i64 r1.Run, .int .i64 r1.Seq, .slice p2 r1.Samples.length k3])] rfl ⟨rfl, trivial⟩
  have hw := Wd.enter (E := []) hS (fun _ h => (by cases h))
  have hw := hw.addE h4
  delta ref14_Valid at hsh
  refine wp_seq ?_
  refine wp_region_lit ?_
  refine w_box (cs := [.string r1.Source.Network, .string r1.Source.Station, .string r1.Source.Location, .string r1.Source.Channel, .int .i64 r1.Start, .int .i64 r1.First, .int .i64 r1.Rate.Num, .int .i64 r1.Rate.Den, .int .i64 r1.Error, .int .i64 r1.Run, .int .i64 r1.Seq, .slice p2 r1.Samples.length k3]) hs hw rfl rfl rfl trivial ?_
  intro b5 a w hs hw
  refine st_val hs (y_assign rfl) trivial rfl rfl fun a hs => ?_
  refine wpList_nil ?_
  refine then_normal ?_
  refine wp_seq ?_
  refine wp_seq ?_
  refine wp_region_lit ?_
  refine st_val hs (y_fieldAddr (o' := 0) Try.runUnderlying32 rfl Try.sizeOf28 rfl rfl rfl) trivial rfl rfl fun a hs => ?_
  refine st_val hs (y_loadBA (hw.ownAt 0 rfl) rfl Try.isAgg28 Try.sizeOf28 rfl rfl) trivial rfl rfl fun a hs => ?_
  obtain ⟨rv7, h6, hsh⟩ := bind_t hsh
  refine st_callR hs (ref03_Valid_ok h6 hw.dom) (do_call Try.call56 rfl) trivial rfl rfl ?_
  intro v11 Sv8 w a h9 h10 hs
  subst h10
  have hw := hw.call h9
  refine st_val hs (y_not rfl) trivial rfl rfl fun a hs => ?_
  refine st_val hs (y_move rfl) trivial rfl rfl fun a hs => ?_
  obtain ⟨c19, hc19, hsh⟩ := bind_t hsh
  refine wpl_join 5 (fun a w => ∃ (Sv20 : Nat → Prop), Sl 68 [(1, .pointer (some ⟨b5, 0, none⟩)), (12, .bool c19)] a ∧ Wd ⟨w0, S0, []⟩ Sv20 [.box b5 [.string r1.Source.Network, .string r1.Source.Station, .string r1.Source.Location, .string r1.Source.Channel, .int .i64 r1.Start, .int .i64 r1.First, .int .i64 r1.Rate.Num, .int .i64 r1.Rate.Den, .int .i64 r1.Error, .int .i64 r1.Run, .int .i64 r1.Seq, .slice p2 r1.Samples.length k3] 32] [SlA p2 r1.Samples.length k3 r1.Samples] w) ?_ ?_
  · rcases Bool.eq_false_or_eq_true (!rv7) with h18 | h18
    · have hs := hs.fix 7 (.bool true) rfl (vb h18)
      have hsh := ite_t hc19 h18
      refine st_skip hs rfl rfl rfl rfl rfl fun a hs => ?_
      refine st_skip hs rfl rfl rfl rfl rfl fun a hs => ?_
      refine st_skip hs rfl rfl rfl rfl rfl fun a hs => ?_
      refine st_skip hs rfl rfl rfl rfl rfl fun a hs => ?_
      refine st_val hs (y_pickT rfl rfl) trivial rfl rfl fun a hs => ?_
      refine wpList_nil ?_
      have hsh := Option.some.inj hsh
      subst hsh
      refine then_normal ?_
      exact ⟨Sv8, (hs.wk rfl), (hw.ft [0] [0] (by decide) rfl rfl)⟩
    · have hs := hs.fix 7 (.bool false) rfl (vb h18)
      have hsh := ite_f hc19 h18
      refine st_val hs (y_fieldAddr (o' := 6) Try.runUnderlying32 rfl Try.sizeOf30 rfl rfl rfl) ⟨_, rfl, rfl⟩ rfl rfl fun a hs => ?_
      refine st_val hs (y_loadBA (hw.ownAt 0 rfl) rfl Try.isAgg30 Try.sizeOf30 rfl rfl) ⟨_, rfl, rfl⟩ rfl rfl fun a hs => ?_
      obtain ⟨rv22, h21, hsh⟩ := bind_t hsh
      refine st_callR hs (ref02_Valid_ok h21 hw.dom) (do_call Try.call57 rfl) ⟨_, rfl, rfl⟩ rfl rfl ?_
      intro v26 Sv23 w a h24 h25 hs
      subst h25
      have hw := hw.call h24
      refine st_val hs (y_not rfl) ⟨_, rfl, rfl⟩ rfl rfl fun a hs => ?_
      refine st_val hs (y_pickF rfl rfl) trivial rfl rfl fun a hs => ?_
      refine wpList_nil ?_
      have hsh := Option.some.inj hsh
      subst hsh
      refine then_normal ?_
      exact ⟨Sv23, (hs.wk rfl), (hw.ft [0] [0] (by decide) rfl rfl)⟩
  · rintro a w ⟨Sv20, hs, hw⟩
    refine st_val hs (y_move rfl) trivial rfl rfl fun a hs => ?_
    obtain ⟨c34, hc34, hsh⟩ := bind_t hsh
    refine wpl_join 5 (fun a w => ∃ (Sv35 : Nat → Prop), Sl 68 [(1, .pointer (some ⟨b5, 0, none⟩)), (18, .bool c34)] a ∧ Wd ⟨w0, S0, []⟩ Sv35 [.box b5 [.string r1.Source.Network, .string r1.Source.Station, .string r1.Source.Location, .string r1.Source.Channel, .int .i64 r1.Start, .int .i64 r1.First, .int .i64 r1.Rate.Num, .int .i64 r1.Rate.Den, .int .i64 r1.Error, .int .i64 r1.Run, .int .i64 r1.Seq, .slice p2 r1.Samples.length k3] 32] [SlA p2 r1.Samples.length k3 r1.Samples] w) ?_ ?_
    · rcases Bool.eq_false_or_eq_true c19 with h33 | h33
      · have hs := hs.fix 13 (.bool true) rfl (vb h33)
        have hsh := ite_t hc34 h33
        refine st_skip hs rfl rfl rfl rfl rfl fun a hs => ?_
        refine st_skip hs rfl rfl rfl rfl rfl fun a hs => ?_
        refine st_skip hs rfl rfl rfl rfl rfl fun a hs => ?_
        refine st_skip hs rfl rfl rfl rfl rfl fun a hs => ?_
        refine st_val hs (y_pickT rfl rfl) trivial rfl rfl fun a hs => ?_
        refine wpList_nil ?_
        have hsh := Option.some.inj hsh
        subst hsh
        refine then_normal ?_
        exact ⟨Sv20, (hs.wk rfl), (hw.ft [0] [0] (by decide) rfl rfl)⟩
      · have hs := hs.fix 13 (.bool false) rfl (vb h33)
        have hsh := ite_f hc34 h33
        refine st_val hs (y_fieldAddr (o' := 4) Try.runUnderlying32 rfl Try.sizeOf3 rfl rfl rfl) ⟨_, rfl, rfl⟩ rfl rfl fun a hs => ?_
        refine st_val hs (y_loadB1 (hw.ownAt 0 rfl) rfl Try.isAgg3 rfl) ⟨_, rfl, rfl⟩ rfl rfl fun a hs => ?_
        obtain ⟨rv37, h36, hsh⟩ := bind_t hsh
        refine st_callR hs (ref01_In_ok h36 hw.dom) (do_call Try.call46 rfl) ⟨_, rfl, rfl⟩ rfl rfl ?_
        intro v41 Sv38 w a h39 h40 hs
        subst h40
        have hw := hw.call h39
        refine st_val hs (y_not rfl) ⟨_, rfl, rfl⟩ rfl rfl fun a hs => ?_
        refine st_val hs (y_pickF rfl rfl) trivial rfl rfl fun a hs => ?_
        refine wpList_nil ?_
        have hsh := Option.some.inj hsh
        subst hsh
        refine then_normal ?_
        exact ⟨Sv38, (hs.wk rfl), (hw.ft [0] [0] (by decide) rfl rfl)⟩
    · rintro a w ⟨Sv35, hs, hw⟩
      refine st_val hs (y_move rfl) trivial rfl rfl fun a hs => ?_
      obtain ⟨c49, hc49, hsh⟩ := bind_t hsh
      refine wpl_join 5 (fun a w => ∃ (Sv50 : Nat → Prop), Sl 68 [(1, .pointer (some ⟨b5, 0, none⟩)), (24, .bool c49)] a ∧ Wd ⟨w0, S0, []⟩ Sv50 [.box b5 [.string r1.Source.Network, .string r1.Source.Station, .string r1.Source.Location, .string r1.Source.Channel, .int .i64 r1.Start, .int .i64 r1.First, .int .i64 r1.Rate.Num, .int .i64 r1.Rate.Den, .int .i64 r1.Error, .int .i64 r1.Run, .int .i64 r1.Seq, .slice p2 r1.Samples.length k3] 32] [SlA p2 r1.Samples.length k3 r1.Samples] w) ?_ ?_
      · rcases Bool.eq_false_or_eq_true c34 with h48 | h48
        · have hs := hs.fix 19 (.bool true) rfl (vb h48)
          have hsh := ite_t hc49 h48
          refine st_skip hs rfl rfl rfl rfl rfl fun a hs => ?_
          refine st_skip hs rfl rfl rfl rfl rfl fun a hs => ?_
          refine st_skip hs rfl rfl rfl rfl rfl fun a hs => ?_
          refine st_skip hs rfl rfl rfl rfl rfl fun a hs => ?_
          refine st_val hs (y_pickT rfl rfl) trivial rfl rfl fun a hs => ?_
          refine wpList_nil ?_
          have hsh := Option.some.inj hsh
          subst hsh
          refine then_normal ?_
          exact ⟨Sv35, (hs.wk rfl), (hw.ft [0] [0] (by decide) rfl rfl)⟩
        · have hs := hs.fix 19 (.bool false) rfl (vb h48)
          have hsh := ite_f hc49 h48
          refine st_val hs (y_fieldAddr (o' := 5) Try.runUnderlying32 rfl Try.sizeOf3 rfl rfl rfl) ⟨_, rfl, rfl⟩ rfl rfl fun a hs => ?_
          refine st_val hs (y_loadB1 (hw.ownAt 0 rfl) rfl Try.isAgg3 rfl) ⟨_, rfl, rfl⟩ rfl rfl fun a hs => ?_
          obtain ⟨rv52, h51, hsh⟩ := bind_t hsh
          refine st_callR hs (ref01_In_ok h51 hw.dom) (do_call Try.call46 rfl) ⟨_, rfl, rfl⟩ rfl rfl ?_
          intro v56 Sv53 w a h54 h55 hs
          subst h55
          have hw := hw.call h54
          refine st_val hs (y_not rfl) ⟨_, rfl, rfl⟩ rfl rfl fun a hs => ?_
          refine st_val hs (y_pickF rfl rfl) trivial rfl rfl fun a hs => ?_
          refine wpList_nil ?_
          have hsh := Option.some.inj hsh
          subst hsh
          refine then_normal ?_
          exact ⟨Sv53, (hs.wk rfl), (hw.ft [0] [0] (by decide) rfl rfl)⟩
      · rintro a w ⟨Sv50, hs, hw⟩
        refine st_val hs (y_move rfl) trivial rfl rfl fun a hs => ?_
        obtain ⟨c64, hc64, hsh⟩ := bind_t hsh
        refine wpl_join 6 (fun a w => ∃ (Sv65 : Nat → Prop), Sl 68 [(1, .pointer (some ⟨b5, 0, none⟩)), (31, .bool c64)] a ∧ Wd ⟨w0, S0, []⟩ Sv65 [.box b5 [.string r1.Source.Network, .string r1.Source.Station, .string r1.Source.Location, .string r1.Source.Channel, .int .i64 r1.Start, .int .i64 r1.First, .int .i64 r1.Rate.Num, .int .i64 r1.Rate.Den, .int .i64 r1.Error, .int .i64 r1.Run, .int .i64 r1.Seq, .slice p2 r1.Samples.length k3] 32] [SlA p2 r1.Samples.length k3 r1.Samples] w) ?_ ?_
        · rcases Bool.eq_false_or_eq_true c49 with h63 | h63
          · have hs := hs.fix 25 (.bool true) rfl (vb h63)
            have hsh := ite_t hc64 h63
            refine st_skip hs rfl rfl rfl rfl rfl fun a hs => ?_
            refine st_skip hs rfl rfl rfl rfl rfl fun a hs => ?_
            refine st_skip hs rfl rfl rfl rfl rfl fun a hs => ?_
            refine st_skip hs rfl rfl rfl rfl rfl fun a hs => ?_
            refine st_skip hs rfl rfl rfl rfl rfl fun a hs => ?_
            refine st_val hs (y_pickT rfl rfl) trivial rfl rfl fun a hs => ?_
            refine wpList_nil ?_
            have hsh := Option.some.inj hsh
            subst hsh
            refine then_normal ?_
            exact ⟨Sv50, (hs.wk rfl), (hw.ft [0] [0] (by decide) rfl rfl)⟩
          · have hs := hs.fix 25 (.bool false) rfl (vb h63)
            have hsh := ite_f hc64 h63
            refine st_val hs (y_fieldAddr (o' := 11) Try.runUnderlying32 rfl Try.sizeOf22 rfl rfl rfl) ⟨_, rfl, rfl⟩ rfl rfl fun a hs => ?_
            refine st_val hs (y_loadB1 (hw.ownAt 0 rfl) rfl Try.isAgg22 rfl) ⟨_, rfl, rfl⟩ rfl rfl fun a hs => ?_
            refine st_val hs (y_len Try.runUnderlying22 rfl) ⟨_, rfl, rfl⟩ rfl rfl fun a hs => ?_
            obtain ⟨rv67, h66, hsh⟩ := bind_t hsh
            refine st_callR hs (ref01_In_ok h66 hw.dom) (do_call Try.call46 rfl) ⟨_, rfl, rfl⟩ rfl rfl ?_
            intro v71 Sv68 w a h69 h70 hs
            subst h70
            have hw := hw.call h69
            refine st_val hs (y_not rfl) ⟨_, rfl, rfl⟩ rfl rfl fun a hs => ?_
            refine st_val hs (y_pickF rfl rfl) trivial rfl rfl fun a hs => ?_
            refine wpList_nil ?_
            have hsh := Option.some.inj hsh
            subst hsh
            refine then_normal ?_
            exact ⟨Sv68, (hs.wk rfl), (hw.ft [0] [0] (by decide) rfl rfl)⟩
        · rintro a w ⟨Sv65, hs, hw⟩
          refine st_val hs (y_move rfl) trivial rfl rfl fun a hs => ?_
          refine wpl_join 8 (fun a w1 => w = w1 ∧ Sl 68 [(1, .pointer (some ⟨b5, 0, none⟩)), (40, .bool (c64 || (decide (16777216 < (w64 (r1.First + (r1.Samples.length : Int)))))))] a) ?_ ?_
          · rcases Bool.eq_false_or_eq_true c64 with h72 | h72
            · have hs := hs.fix 32 (.bool true) rfl (vb h72)
              refine st_skip hs rfl rfl rfl rfl rfl fun a hs => ?_
              refine st_skip hs rfl rfl rfl rfl rfl fun a hs => ?_
              refine st_skip hs rfl rfl rfl rfl rfl fun a hs => ?_
              refine st_skip hs rfl rfl rfl rfl rfl fun a hs => ?_
              refine st_skip hs rfl rfl rfl rfl rfl fun a hs => ?_
              refine st_skip hs rfl rfl rfl rfl rfl fun a hs => ?_
              refine st_skip hs rfl rfl rfl rfl rfl fun a hs => ?_
              refine st_val hs (y_pickT rfl rfl) trivial rfl rfl fun a hs => ?_
              refine wpList_nil ?_
              refine then_normal ?_
              exact ⟨rfl, (hs.fix 40 (.bool (c64 || (decide (16777216 < (w64 (r1.First + (r1.Samples.length : Int))))))) rfl (or_t h72)).weaken _ ⟨rfl, rfl, trivial⟩⟩
            · have hs := hs.fix 32 (.bool false) rfl (vb h72)
              refine st_val hs (y_fieldAddr (o' := 5) Try.runUnderlying32 rfl Try.sizeOf3 rfl rfl rfl) ⟨_, rfl, rfl⟩ rfl rfl fun a hs => ?_
              refine st_val hs (y_loadB1 (hw.ownAt 0 rfl) rfl Try.isAgg3 rfl) ⟨_, rfl, rfl⟩ rfl rfl fun a hs => ?_
              refine st_val hs (y_fieldAddr (o' := 11) Try.runUnderlying32 rfl Try.sizeOf22 rfl rfl rfl) ⟨_, rfl, rfl⟩ rfl rfl fun a hs => ?_
              refine st_val hs (y_loadB1 (hw.ownAt 0 rfl) rfl Try.isAgg22 rfl) ⟨_, rfl, rfl⟩ rfl rfl fun a hs => ?_
              refine st_val hs (y_len Try.runUnderlying22 rfl) ⟨_, rfl, rfl⟩ rfl rfl fun a hs => ?_
              refine st_val hs (y_add rfl rfl) ⟨_, rfl, rfl⟩ rfl rfl fun a hs => ?_
              refine st_val hs (y_gtr rfl rfl) ⟨_, rfl, rfl⟩ rfl rfl fun a hs => ?_
              refine st_val hs (y_pickF rfl rfl) trivial rfl rfl fun a hs => ?_
              refine wpList_nil ?_
              refine then_normal ?_
              exact ⟨rfl, (hs.fix 40 (.bool (c64 || (decide (16777216 < (w64 (r1.First + (r1.Samples.length : Int))))))) rfl (or_f h72)).weaken _ ⟨rfl, rfl, trivial⟩⟩
          · rintro a w1 ⟨h141, hs⟩
            subst h141
            refine st_val hs (y_move rfl) trivial rfl rfl fun a hs => ?_
            obtain ⟨c80, hc80, hsh⟩ := bind_t hsh
            refine wpl_join 5 (fun a w => ∃ (Sv81 : Nat → Prop), Sl 68 [(1, .pointer (some ⟨b5, 0, none⟩)), (46, .bool c80)] a ∧ Wd ⟨w0, S0, []⟩ Sv81 [.box b5 [.string r1.Source.Network, .string r1.Source.Station, .string r1.Source.Location, .string r1.Source.Channel, .int .i64 r1.Start, .int .i64 r1.First, .int .i64 r1.Rate.Num, .int .i64 r1.Rate.Den, .int .i64 r1.Error, .int .i64 r1.Run, .int .i64 r1.Seq, .slice p2 r1.Samples.length k3] 32] [SlA p2 r1.Samples.length k3 r1.Samples] w) ?_ ?_
            · rcases Bool.eq_false_or_eq_true (c64 || (decide (16777216 < (w64 (r1.First + (r1.Samples.length : Int)))))) with h79 | h79
              · have hs := hs.fix 41 (.bool true) rfl (vb h79)
                have hsh := ite_t hc80 h79
                refine st_skip hs rfl rfl rfl rfl rfl fun a hs => ?_
                refine st_skip hs rfl rfl rfl rfl rfl fun a hs => ?_
                refine st_skip hs rfl rfl rfl rfl rfl fun a hs => ?_
                refine st_skip hs rfl rfl rfl rfl rfl fun a hs => ?_
                refine st_val hs (y_pickT rfl rfl) trivial rfl rfl fun a hs => ?_
                refine wpList_nil ?_
                have hsh := Option.some.inj hsh
                subst hsh
                refine then_normal ?_
                exact ⟨Sv65, (hs.wk rfl), (hw.ft [0] [0] (by decide) rfl rfl)⟩
              · have hs := hs.fix 41 (.bool false) rfl (vb h79)
                have hsh := ite_f hc80 h79
                refine st_val hs (y_fieldAddr (o' := 11) Try.runUnderlying32 rfl Try.sizeOf22 rfl rfl rfl) ⟨_, rfl, rfl⟩ rfl rfl fun a hs => ?_
                refine st_val hs (y_loadB1 (hw.ownAt 0 rfl) rfl Try.isAgg22 rfl) ⟨_, rfl, rfl⟩ rfl rfl fun a hs => ?_
                obtain ⟨rv83, h82, hsh⟩ := bind_t hsh
                refine st_callR hs (ref05_InRange_ok h82 hw.dom (hw.envAt 0 rfl)) (do_call Try.call58 rfl) ⟨_, rfl, rfl⟩ rfl rfl ?_
                intro v87 Sv84 w a h85 h86 hs
                subst h86
                have hw := hw.call h85
                refine st_val hs (y_not rfl) ⟨_, rfl, rfl⟩ rfl rfl fun a hs => ?_
                refine st_val hs (y_pickF rfl rfl) trivial rfl rfl fun a hs => ?_
                refine wpList_nil ?_
                have hsh := Option.some.inj hsh
                subst hsh
                refine then_normal ?_
                exact ⟨Sv84, (hs.wk rfl), (hw.ft [0] [0] (by decide) rfl rfl)⟩
            · rintro a w ⟨Sv81, hs, hw⟩
              refine wpList_nil ?_
              refine then_normal ?_
              refine wp_cond_split (hs.ev rfl) (fun h89 => ?_) (fun h89 => ?_)
              · have hsh := ite_t hsh h89
                refine wp_seq ?_
                refine wp_region_lit ?_
                refine st_val hs (y_assign rfl) trivial rfl rfl fun a hs => ?_
                refine wpList_nil ?_
                refine then_normal ?_
                have hsh := Option.some.inj hsh
                subst hsh
                refine wp_ret ?_
                refine then_ret ?_
                exact ret1 hs rfl (rv_tmp rfl) (hw.ret rfl)
              · have hsh := ite_f hsh h89
                refine wp_skip ?_
                refine then_normal ?_
                refine wp_seq ?_
                refine wp_region_lit ?_
                refine st_val hs (y_fieldAddr (o' := 8) Try.runUnderlying32 rfl Try.sizeOf3 rfl rfl rfl) trivial rfl rfl fun a hs => ?_
                refine st_val hs (y_loadB1 (hw.ownAt 0 rfl) rfl Try.isAgg3 rfl) trivial rfl rfl fun a hs => ?_
                obtain ⟨rv91, h90, hsh⟩ := bind_t hsh
                refine st_callR hs (ref01_In_ok h90 hw.dom) (do_call Try.call46 rfl) trivial rfl rfl ?_
                intro v95 Sv92 w a h93 h94 hs
                subst h94
                have hw := hw.call h93
                refine st_val hs (y_move rfl) trivial rfl rfl fun a hs => ?_
                obtain ⟨c103, hc103, hsh⟩ := bind_t hsh
                refine wpl_join 4 (fun a w => ∃ (Sv104 : Nat → Prop), Sl 68 [(1, .pointer (some ⟨b5, 0, none⟩)), (54, .bool c103)] a ∧ Wd ⟨w0, S0, []⟩ Sv104 [.box b5 [.string r1.Source.Network, .string r1.Source.Station, .string r1.Source.Location, .string r1.Source.Channel, .int .i64 r1.Start, .int .i64 r1.First, .int .i64 r1.Rate.Num, .int .i64 r1.Rate.Den, .int .i64 r1.Error, .int .i64 r1.Run, .int .i64 r1.Seq, .slice p2 r1.Samples.length k3] 32] [SlA p2 r1.Samples.length k3 r1.Samples] w) ?_ ?_
                · rcases Bool.eq_false_or_eq_true rv91 with h102 | h102
                  · have hs := hs.fix 50 (.bool true) rfl (vb h102)
                    have hsh := ite_t hc103 h102
                    refine st_val hs (y_fieldAddr (o' := 9) Try.runUnderlying32 rfl Try.sizeOf3 rfl rfl rfl) ⟨_, rfl, rfl⟩ rfl rfl fun a hs => ?_
                    refine st_val hs (y_loadB1 (hw.ownAt 0 rfl) rfl Try.isAgg3 rfl) ⟨_, rfl, rfl⟩ rfl rfl fun a hs => ?_
                    obtain ⟨rv106, h105, hsh⟩ := bind_t hsh
                    refine st_callR hs (ref01_In_ok h105 hw.dom) (do_call Try.call46 rfl) ⟨_, rfl, rfl⟩ rfl rfl ?_
                    intro v110 Sv107 w a h108 h109 hs
                    subst h109
                    have hw := hw.call h108
                    refine st_val hs (y_pickT rfl rfl) trivial rfl rfl fun a hs => ?_
                    refine wpList_nil ?_
                    have hsh := Option.some.inj hsh
                    subst hsh
                    refine then_normal ?_
                    exact ⟨Sv107, (hs.wk rfl), (hw.ft [0] [0] (by decide) rfl rfl)⟩
                  · have hs := hs.fix 50 (.bool false) rfl (vb h102)
                    have hsh := ite_f hc103 h102
                    refine st_skip hs rfl rfl rfl rfl rfl fun a hs => ?_
                    refine st_skip hs rfl rfl rfl rfl rfl fun a hs => ?_
                    refine st_skip hs rfl rfl rfl rfl rfl fun a hs => ?_
                    refine st_val hs (y_pickF rfl rfl) trivial rfl rfl fun a hs => ?_
                    refine wpList_nil ?_
                    have hsh := Option.some.inj hsh
                    subst hsh
                    refine then_normal ?_
                    exact ⟨Sv92, (hs.wk rfl), (hw.ft [0] [0] (by decide) rfl rfl)⟩
                · rintro a w ⟨Sv104, hs, hw⟩
                  refine st_val hs (y_move rfl) trivial rfl rfl fun a hs => ?_
                  obtain ⟨c118, hc118, hsh⟩ := bind_t hsh
                  refine wpl_join 4 (fun a w => ∃ (Sv119 : Nat → Prop), Sl 68 [(1, .pointer (some ⟨b5, 0, none⟩)), (59, .bool c118)] a ∧ Wd ⟨w0, S0, []⟩ Sv119 [.box b5 [.string r1.Source.Network, .string r1.Source.Station, .string r1.Source.Location, .string r1.Source.Channel, .int .i64 r1.Start, .int .i64 r1.First, .int .i64 r1.Rate.Num, .int .i64 r1.Rate.Den, .int .i64 r1.Error, .int .i64 r1.Run, .int .i64 r1.Seq, .slice p2 r1.Samples.length k3] 32] [SlA p2 r1.Samples.length k3 r1.Samples] w) ?_ ?_
                  · rcases Bool.eq_false_or_eq_true c103 with h117 | h117
                    · have hs := hs.fix 55 (.bool true) rfl (vb h117)
                      have hsh := ite_t hc118 h117
                      refine st_val hs (y_fieldAddr (o' := 10) Try.runUnderlying32 rfl Try.sizeOf3 rfl rfl rfl) ⟨_, rfl, rfl⟩ rfl rfl fun a hs => ?_
                      refine st_val hs (y_loadB1 (hw.ownAt 0 rfl) rfl Try.isAgg3 rfl) ⟨_, rfl, rfl⟩ rfl rfl fun a hs => ?_
                      obtain ⟨rv121, h120, hsh⟩ := bind_t hsh
                      refine st_callR hs (ref01_In_ok h120 hw.dom) (do_call Try.call46 rfl) ⟨_, rfl, rfl⟩ rfl rfl ?_
                      intro v125 Sv122 w a h123 h124 hs
                      subst h124
                      have hw := hw.call h123
                      refine st_val hs (y_pickT rfl rfl) trivial rfl rfl fun a hs => ?_
                      refine wpList_nil ?_
                      have hsh := Option.some.inj hsh
                      subst hsh
                      refine then_normal ?_
                      exact ⟨Sv122, (hs.wk rfl), (hw.ft [0] [0] (by decide) rfl rfl)⟩
                    · have hs := hs.fix 55 (.bool false) rfl (vb h117)
                      have hsh := ite_f hc118 h117
                      refine st_skip hs rfl rfl rfl rfl rfl fun a hs => ?_
                      refine st_skip hs rfl rfl rfl rfl rfl fun a hs => ?_
                      refine st_skip hs rfl rfl rfl rfl rfl fun a hs => ?_
                      refine st_val hs (y_pickF rfl rfl) trivial rfl rfl fun a hs => ?_
                      refine wpList_nil ?_
                      have hsh := Option.some.inj hsh
                      subst hsh
                      refine then_normal ?_
                      exact ⟨Sv104, (hs.wk rfl), (hw.ft [0] [0] (by decide) rfl rfl)⟩
                  · rintro a w ⟨Sv119, hs, hw⟩
                    refine st_val hs (y_move rfl) trivial rfl rfl fun a hs => ?_
                    obtain ⟨c133, hc133, hsh⟩ := bind_t hsh
                    refine wpl_join 7 (fun a w => ∃ (Sv134 : Nat → Prop), Sl 68 [(67, .bool c133)] a ∧ Wd ⟨w0, S0, []⟩ Sv134 [] [] w) ?_ ?_
                    · rcases Bool.eq_false_or_eq_true c118 with h132 | h132
                      · have hs := hs.fix 60 (.bool true) rfl (vb h132)
                        have hsh := ite_t hc133 h132
                        refine st_val hs (y_loadBA (hw.ownAt 0 rfl) rfl Try.isAgg32 Try.sizeOf32 rfl rfl) ⟨_, rfl, rfl⟩ rfl rfl fun a hs => ?_
                        refine st_val hs (y_fieldAddr (o' := 11) Try.runUnderlying32 rfl Try.sizeOf22 rfl rfl rfl) ⟨_, rfl, rfl⟩ rfl rfl fun a hs => ?_
                        refine st_val hs (y_loadB1 (hw.ownAt 0 rfl) rfl Try.isAgg22 rfl) ⟨_, rfl, rfl⟩ rfl rfl fun a hs => ?_
                        refine st_val hs (y_len Try.runUnderlying22 rfl) ⟨_, rfl, rfl⟩ rfl rfl fun a hs => ?_
                        obtain ⟨rv136, h135, hsh⟩ := bind_t hsh
                        refine st_callR hs (ref14_Time_ok h135 hw.dom (hw.envAt 0 rfl)) (do_call Try.call41 rfl) ⟨_, rfl, rfl⟩ rfl rfl ?_
                        intro v140 Sv137 w a h138 h139 hs
                        subst h139
                        have hw := hw.call h138
                        refine st_val hs (y_leq rfl rfl) ⟨_, rfl, rfl⟩ rfl rfl fun a hs => ?_
                        refine st_val hs (y_pickT rfl rfl) trivial rfl rfl fun a hs => ?_
                        refine wpList_nil ?_
                        have hsh := Option.some.inj hsh
                        subst hsh
                        refine then_normal ?_
                        exact ⟨Sv137, (hs.wk rfl), (hw.ft [] [] (by decide) rfl rfl)⟩
                      · have hs := hs.fix 60 (.bool false) rfl (vb h132)
                        have hsh := ite_f hc133 h132
                        refine st_skip hs rfl rfl rfl rfl rfl fun a hs => ?_
                        refine st_skip hs rfl rfl rfl rfl rfl fun a hs => ?_
                        refine st_skip hs rfl rfl rfl rfl rfl fun a hs => ?_
                        refine st_skip hs rfl rfl rfl rfl rfl fun a hs => ?_
                        refine st_skip hs rfl rfl rfl rfl rfl fun a hs => ?_
                        refine st_skip hs rfl rfl rfl rfl rfl fun a hs => ?_
                        refine st_val hs (y_pickF rfl rfl) trivial rfl rfl fun a hs => ?_
                        refine wpList_nil ?_
                        have hsh := Option.some.inj hsh
                        subst hsh
                        refine then_normal ?_
                        exact ⟨Sv119, (hs.wk rfl), (hw.ft [] [] (by decide) rfl rfl)⟩
                    · rintro a w ⟨Sv134, hs, hw⟩
                      refine st_val hs (y_assign rfl) trivial rfl rfl fun a hs => ?_
                      refine wpList_nil ?_
                      refine then_normal ?_
                      have hsh := Option.some.inj hsh
                      subst hsh
                      refine wp_ret ?_
                      exact ret1 hs rfl (rv_tmp rfl) (hw.ret rfl)

abbrev ref14_Span_rd (w0 : World) (r : (Span × Int)) : (Nat → Prop) → World → Value → Prop := fun S w v => v = .tuple #[.agg #[.int .i64 r.1.From, .int .i64 r.1.To], .int .i64 r.2]
set_option maxHeartbeats 4000000 in
set_option maxRecDepth 100000 in
theorem ref14_Span_ok {w0 : World} {S0 : Nat → Prop} {p2 : Option Addr} {k3 : Nat} {r1 : Record} {r : (Span × Int)} (hsh : ref14_Span r1 = some r) (hS : ∀ b, S0 b → b < w0.heap.size) (h4 : (SlA p2 r1.Samples.length k3 r1.Samples).p S0 w0) : Calls Try.prog 18 #[.agg #[.string r1.Source.Network, .string r1.Source.Station, .string r1.Source.Location, .string r1.Source.Channel, .int .i64 r1.Start, .int .i64 r1.First, .int .i64 r1.Rate.Num, .int .i64 r1.Rate.Den, .int .i64 r1.Error, .int .i64 r1.Run, .int .i64 r1.Seq, .slice p2 r1.Samples.length k3]] w0 (Ret [] w0 S0 (ref14_Span_rd w0 r)) := by
  refine calls_of_wp Try.func18 rfl ?_
  have hs := Sl.enter #[.agg #[.string r1.Source.Network, .string r1.Source.Station, .string r1.Source.Location, .string r1.Source.Channel, .int .i64 r1.Start, .int .i64 r1.First, .int .i64 r1.Rate.Num, .int .i64 r1.Rate.Den, .int .i64 r1.Error, .int .i64 r1.Run, .int .i64 r1.Seq, .slice p2 r1.Samples.length k3]] 16 [(0, .agg #[.string r1.Source.Network, .string r1.Source.Station, .string r1.Source.Location, .string r1.Source.Channel, .int .i64 r1.Start, .int .i64 r1.First, .int .i64 r1.Rate.Num, .int .i64 r1.Rate.Den, .int .i64 r1.Error, .int .i64 r1.Run, .int .i64 r1.Seq, .slice p2 r1.Samples.length k3])] rfl ⟨rfl, trivial⟩
  have hw := Wd.enter (E := []) hS (fun _ h => (by cases h))
  have hw := hw.addE h4
  delta ref14_Span at hsh
  refine wp_seq ?_
  refine wp_region_lit ?_
  refine w_box (cs := [.string r1.Source.Network, .string r1.Source.Station, .string r1.Source.Location, .string r1.Source.Channel, .int .i64 r1.Start, .int .i64 r1.First, .int .i64 r1.Rate.Num, .int .i64 r1.Rate.Den, .int .i64 r1.Error, .int .i64 r1.Run, .int .i64 r1.Seq, .slice p2 r1.Samples.length k3]) hs hw rfl rfl rfl trivial ?_
  intro b5 a w hs hw
  refine w_alloc (cs := [.int .i64 0, .int .i64 0]) hs hw Try.zeroValue39 rfl rfl trivial ?_
  intro b6 a w hs hw
  refine st_val hs (y_assign rfl) trivial rfl rfl fun a hs => ?_
  refine wpList_nil ?_
  refine then_normal ?_
  refine wp_seq ?_
  refine wp_seq ?_
  refine wp_region_lit ?_
  refine st_val hs (y_loadBA (hw.ownAt 1 rfl) rfl Try.isAgg32 Try.sizeOf32 rfl rfl) trivial rfl rfl fun a hs => ?_
  obtain ⟨rv8, h7, hsh⟩ := bind_t hsh
  refine st_callR hs (ref14_Valid_ok h7 hw.dom (hw.envAt 0 rfl)) (do_call Try.call27 rfl) trivial rfl rfl ?_
  intro v12 Sv9 w a h10 h11 hs
  subst h11
  have hw := hw.call h10
  refine st_val hs (y_not rfl) trivial rfl rfl fun a hs => ?_
  refine wpList_nil ?_
  refine then_normal ?_
  refine wp_cond_split (hs.ev rfl) (fun h14 => ?_) (fun h14 => ?_)
  · have hsh := ite_t hsh h14
    refine wp_seq ?_
    refine wp_region_lit ?_
    refine st_val hs (y_build (vs := []) Bld39 rfl rfl) trivial rfl rfl fun a hs => ?_
    refine w_store (m := 2) (cs' := [.int .i64 0, .int .i64 0]) hs hw 0 rfl rfl rfl Try.sizeOf39 rfl rfl rfl rfl trivial ?_
    intro a w hs hw
    refine st_val hs (y_assign rfl) trivial rfl rfl fun a hs => ?_
    refine wpList_nil ?_
    refine then_normal ?_
    have hsh := Option.some.inj hsh
    subst hsh
    refine wp_ret ?_
    refine then_ret ?_
    exact ret2 hs rfl (rv_cell hw 0 rfl rfl Try.isAgg39 Try.sizeOf39 rfl) (rv_tmp rfl) (hw.ret rfl)
  · have hsh := ite_f hsh h14
    refine wp_skip ?_
    refine then_normal ?_
    refine wp_seq ?_
    obtain ⟨rv16, h15, hsh⟩ := bind_t hsh
    obtain ⟨rv18, h17, hsh⟩ := bind_t hsh
    refine wp_only (fun a w => ∃ (Sv19 : Nat → Prop), Sl 16 [(2, .pointer (some ⟨b6, 0, none⟩)), (3, .int .i64 0)] a ∧ Wd ⟨w0, S0, []⟩ Sv19 [.box b6 [.int .i64 rv16, .int .i64 rv18] 39] [] w) ?_ ?_
    · refine h_begin (C := Cls [.box b5 [.string r1.Source.Network, .string r1.Source.Station, .string r1.Source.Location, .string r1.Source.Channel, .int .i64 r1.Start, .int .i64 r1.First, .int .i64 r1.Rate.Num, .int .i64 r1.Rate.Den, .int .i64 r1.Error, .int .i64 r1.Run, .int .i64 r1.Seq, .slice p2 r1.Samples.length k3] 32] []) (by kernel_rfl) rfl ?_
      have hw := hw.drew
      have hC : Cls [.box b5 [.string r1.Source.Network, .string r1.Source.Station, .string r1.Source.Location, .string r1.Source.Channel, .int .i64 r1.Start, .int .i64 r1.First, .int .i64 r1.Rate.Num, .int .i64 r1.Rate.Den, .int .i64 r1.Error, .int .i64 r1.Run, .int .i64 r1.Seq, .slice p2 r1.Samples.length k3] 32] [] _ := hw.cs [1] [] rfl rfl
      refine h_get hs (i := 0) rfl (by kernel_rfl) rfl rfl hC rfl (fun w hC => y_loadBA (hC.ownAt 0 rfl) rfl Try.isAgg32 Try.sizeOf32 rfl rfl) fun a hs => ?_
      refine h_get hs (i := 2) rfl (by kernel_rfl) rfl rfl hC rfl (fun w hC => y_loadBA (hC.ownAt 0 rfl) rfl Try.isAgg32 Try.sizeOf32 rfl rfl) fun a hs => ?_
      refine h_get hs (i := 3) rfl (by kernel_rfl) rfl rfl hC rfl (fun w hC => y_fieldAddr (o' := 11) Try.runUnderlying32 rfl Try.sizeOf22 rfl rfl rfl) fun a hs => ?_
      refine h_get hs (i := 4) rfl (by kernel_rfl) rfl rfl hC rfl (fun w hC => y_loadB1 (hC.ownAt 0 rfl) rfl Try.isAgg22 rfl) fun a hs => ?_
      refine h_get hs (i := 5) rfl (by kernel_rfl) rfl rfl hC rfl (fun w hC => y_len Try.runUnderlying22 rfl) fun a hs => ?_
      refine h_all (rs := [1]) (by kernel_rfl) rfl ?_
      refine AllH.cons rfl ?_ ?_
      · refine st_callR hs (ref14_Time_ok h15 hw.dom (hw.envAt 0 rfl)) (do_call Try.call41 rfl) trivial rfl rfl ?_
        intro v23 Sv20 w a h21 h22 hs
        subst h22
        have hw := hw.call h21
        refine wpList_nil ?_
        refine then_normal ?_
        have hC : Cls [.box b5 [.string r1.Source.Network, .string r1.Source.Station, .string r1.Source.Location, .string r1.Source.Channel, .int .i64 r1.Start, .int .i64 r1.First, .int .i64 r1.Rate.Num, .int .i64 r1.Rate.Den, .int .i64 r1.Error, .int .i64 r1.Run, .int .i64 r1.Seq, .slice p2 r1.Samples.length k3] 32] [] _ := hw.cs [1] [] rfl rfl
        refine ⟨hC, ?_⟩
        refine h_all (rs := [6]) (by kernel_rfl) rfl ?_
        refine AllH.cons rfl ?_ ?_
        · refine st_callR hs (ref14_Time_ok h17 hw.dom (hw.envAt 0 rfl)) (do_call Try.call41 rfl) trivial rfl rfl ?_
          intro v27 Sv24 w a h25 h26 hs
          subst h26
          have hw := hw.call h25
          refine wpList_nil ?_
          refine then_normal ?_
          have hC : Cls [.box b5 [.string r1.Source.Network, .string r1.Source.Station, .string r1.Source.Location, .string r1.Source.Channel, .int .i64 r1.Start, .int .i64 r1.First, .int .i64 r1.Rate.Num, .int .i64 r1.Rate.Den, .int .i64 r1.Error, .int .i64 r1.Run, .int .i64 r1.Seq, .slice p2 r1.Samples.length k3] 32] [] _ := hw.cs [1] [] rfl rfl
          refine ⟨hC, ?_⟩
          refine h_get hs (i := 7) rfl (by kernel_rfl) rfl rfl hC rfl (fun w hC => y_build (vs := [(0, .int .i64 rv16), (1, .int .i64 rv18)]) Bld39 rfl rfl) fun a hs => ?_
          refine h_all (rs := [8]) (by kernel_rfl) rfl ?_
          refine AllH.cons rfl ?_ ?_
          · refine w_store (m := 2) (cs' := [.int .i64 rv16, .int .i64 rv18]) hs hw 0 rfl rfl rfl Try.sizeOf39 rfl rfl rfl rfl trivial ?_
            intro a w hs hw
            refine wpList_nil ?_
            refine then_normal ?_
            have hC : Cls [.box b5 [.string r1.Source.Network, .string r1.Source.Station, .string r1.Source.Location, .string r1.Source.Channel, .int .i64 r1.Start, .int .i64 r1.First, .int .i64 r1.Rate.Num, .int .i64 r1.Rate.Den, .int .i64 r1.Error, .int .i64 r1.Run, .int .i64 r1.Seq, .slice p2 r1.Samples.length k3] 32] [] _ := hw.cs [1] [] rfl rfl
            refine ⟨hC, ?_⟩
            refine h_get hs (i := 9) rfl (by kernel_rfl) rfl rfl hC rfl (fun w hC => y_assign rfl) fun a hs => ?_
            refine h_done (by kernel_rfl) ?_
            exact ⟨Sv24, (hs.wk rfl), (hw.ft [0] [] (by decide) rfl rfl)⟩
          exact AllH.nil
        exact AllH.nil
      exact AllH.nil
    · rintro a w ⟨Sv19, hs, hw⟩
      refine then_normal ?_
      have hsh := Option.some.inj hsh
      subst hsh
      refine wp_ret ?_
      exact ret2 hs rfl (rv_cell hw 0 rfl rfl Try.isAgg39 Try.sizeOf39 rfl) (rv_tmp rfl) (hw.ret rfl)

abbrev sort_Search_rd (w0 : World) (r : Int) : (Nat → Prop) → World → Value → Prop := fun S w v => v = .int .i64 r
set_option maxHeartbeats 4000000 in
set_option maxRecDepth 100000 in
theorem sort_Search_ok {w0 : World} {S0 : Nat → Prop} {g3 : Nat} {f4 : List Value} {cp5 : List Value} {n1 : Int} {f2 : Int → Option Bool} {r : Int} (hsh : sort_Search n1 f2 = some r) (hS : ∀ b, S0 b → b < w0.heap.size) (h6 : (FnA1 Try.prog g3 f4 cp5 f2).p S0 w0) : Calls Try.prog 44 #[.int .i64 n1, .func (.func g3) f4.toArray cp5.toArray] w0 (Ret [] w0 S0 (sort_Search_rd w0 r)) := by
  refine calls_of_wp Try.func44 rfl ?_
  have hs := Sl.enter #[.int .i64 n1, .func (.func g3) f4.toArray cp5.toArray] 26 [(0, .int .i64 n1), (1, .func (.func g3) f4.toArray cp5.toArray)] rfl ⟨rfl, rfl, trivial⟩
  have hw := Wd.enter (E := []) hS (fun _ h => (by cases h))
  have hw := hw.addE h6
  delta sort_Search at hsh
  refine wp_seq ?_
  refine wp_region_lit ?_
  refine st_val hs (y_assign rfl) trivial rfl rfl fun a hs => ?_
  refine wpList_nil ?_
  refine then_normal ?_
  refine wp_seq ?_
  refine wp_region_lit ?_
  refine st_val hs (y_move rfl) trivial rfl rfl fun a hs => ?_
  refine st_val hs (y_assign rfl) trivial rfl rfl fun a hs => ?_
  refine st_val hs (y_assign rfl) trivial rfl rfl fun a hs => ?_
  refine wpList_nil ?_
  refine then_normal ?_
  refine wp_seq ?_
  obtain ⟨e64, h104, hsh⟩ := bind_t hsh
  refine wp_join (fun a w => ∃ (Sv65 : Nat → Prop), Sl 26 [(5, .int .i64 e64)] a ∧ Wd ⟨w0, S0, []⟩ Sv65 [] [] w) ?_ ?_
  · refine wp_block ?_
    refine wp_while (fun sv7 a w => ∃ (Sv43 : Nat → Prop), Sl 26 [(1, .func (.func g3) f4.toArray cp5.toArray), (5, .int .i64 sv7.1), (6, .int .i64 sv7.2)] a ∧ Wd ⟨w0, S0, []⟩ Sv43 [] [FnA1 Try.prog g3 f4 cp5 f2] w) (0, n1) h104 ⟨S0, (hs.wk rfl), (hw.ft [] [0] (by decide) rfl rfl)⟩ ?_
    clear h104
    repeat clear hsh
    rintro sv7 a w tv62 ⟨Sv43, hs, hw⟩ hsh hd61
    delta sort_Search_l1 at hsh
    refine wp_seq ?_
    refine wp_seq ?_
    refine wp_region_lit ?_
    refine st_val hs (y_move rfl) trivial rfl rfl fun a hs => ?_
    refine st_val hs (y_move rfl) trivial rfl rfl fun a hs => ?_
    refine st_val hs (y_lss rfl rfl) trivial rfl rfl fun a hs => ?_
    refine wpList_nil ?_
    refine then_normal ?_
    refine wp_cond_split (hs.ev rfl) (fun h67 => ?_) (fun h67 => ?_)
    · have hsh := ite_t hsh h67
      refine wp_skip ?_
      refine then_normal ?_
      refine wp_block ?_
      refine wp_seq ?_
      refine wp_region_lit ?_
      refine st_val hs (y_move rfl) trivial rfl rfl fun a hs => ?_
      refine st_val hs (y_move rfl) trivial rfl rfl fun a hs => ?_
      refine st_val hs (y_add rfl rfl) trivial rfl rfl fun a hs => ?_
      refine st_val hs (y_convert Try.runUnderlying3 Try.runUnderlying84 rfl) trivial rfl rfl fun a hs => ?_
      obtain ⟨shr85, h84, hsh⟩ := bind_t hsh
      refine st_val hs (y_shrM rfl rfl h84) trivial rfl rfl fun a hs => ?_
      refine st_val hs (y_convert Try.runUnderlying84 Try.runUnderlying3 rfl) trivial rfl rfl fun a hs => ?_
      obtain ⟨h87, h86, hsh⟩ := bind_t hsh
      refine st_val hs (y_assignI rfl h86) trivial rfl rfl fun a hs => ?_
      refine wpList_nil ?_
      refine then_normal ?_
      refine wp_seq ?_
      refine wp_region_lit ?_
      refine st_val hs (y_move rfl) trivial rfl rfl fun a hs => ?_
      refine st_val hs (y_move rfl) trivial rfl rfl fun a hs => ?_
      obtain ⟨rv89, h88, hsh⟩ := bind_t hsh
      refine st_callR hs ((hw.envAt 0 rfl).2 Keep.rfl' hw.dom ⟨_, rfl, rfl⟩ h88) (do_callF (hw.envAt 0 rfl).1 rfl rfl) trivial rfl rfl ?_
      intro v93 Sv90 w a h91 h92 hs
      subst h92
      have hw := hw.call h91
      refine st_val hs (y_not rfl) trivial rfl rfl fun a hs => ?_
      refine wpList_nil ?_
      refine then_normal ?_
      refine wp_join (fun a w => ∃ (i98 : Int) (j99 : Int) (Sv97 : Nat → Prop), sort_Search_j1 i98 j99 = some tv62 ∧ Sl 26 [(1, .func (.func g3) f4.toArray cp5.toArray), (5, .int .i64 i98), (6, .int .i64 j99)] a ∧ Wd ⟨w0, S0, []⟩ Sv97 [] [FnA1 Try.prog g3 f4 cp5 f2] w) ?_ ?_
      · refine wp_cond_split (hs.ev rfl) (fun h100 => ?_) (fun h100 => ?_)
        · have hsh := ite_t hsh h100
          refine wp_region_lit ?_
          refine st_val hs (y_move rfl) trivial rfl rfl fun a hs => ?_
          refine st_val hs (y_add rfl rfl) trivial rfl rfl fun a hs => ?_
          obtain ⟨i102, h101, hsh⟩ := bind_t hsh
          refine st_val hs (y_assignI rfl h101) trivial rfl rfl fun a hs => ?_
          refine wpList_nil ?_
          refine then_normal ?_
          exact ⟨i102, sv7.2, Sv90, hsh, (hs.wk rfl), (hw.ft [] [0] (by decide) rfl rfl)⟩
        · have hsh := ite_f hsh h100
          refine wp_region_lit ?_
          refine st_val hs (y_move rfl) trivial rfl rfl fun a hs => ?_
          refine st_val hs (y_assign rfl) trivial rfl rfl fun a hs => ?_
          refine wpList_nil ?_
          refine then_normal ?_
          exact ⟨sv7.1, h87, Sv90, hsh, (hs.wk rfl), (hw.ft [] [0] (by decide) rfl rfl)⟩
      · rintro a w ⟨i98, j99, Sv97, hsh, hs, hw⟩
        delta sort_Search_j1 at hsh
        refine blk_normal ?_
        refine then_normal ?_
        exact ⟨_, (Option.some.inj hsh).symm, Sv97, (hs.wk rfl), (hw.ft [] [0] (by decide) rfl rfl)⟩
    · have hsh := ite_f hsh h67
      refine wp_exit ?_
      refine then_exit ?_
      refine then_exit ?_
      refine blk_exit ?_
      have hsh := Option.some.inj hsh
      subst hsh
      have h103 := hd61 _ rfl
      subst h103
      refine then_normal ?_
      exact ⟨Sv43, (hs.wk rfl), (hw.ft [] [] (by decide) rfl rfl)⟩
  · rintro a w ⟨Sv65, hs, hw⟩
    refine then_normal ?_
    refine wp_seq ?_
    refine wp_region_lit ?_
    refine st_val hs (y_move rfl) trivial rfl rfl fun a hs => ?_
    refine st_val hs (y_assign rfl) trivial rfl rfl fun a hs => ?_
    refine wpList_nil ?_
    refine then_normal ?_
    have hsh := Option.some.inj hsh
    subst hsh
    refine wp_ret ?_
    exact ret1 hs rfl (rv_tmp rfl) (hw.ret rfl)

abbrev record_first_fn1_rd (w0 : World) (r : Bool) : (Nat → Prop) → World → Value → Prop := fun S w v => v = .bool r
set_option maxHeartbeats 4000000 in
set_option maxRecDepth 100000 in
theorem record_first_fn1_ok {w0 : World} {S0 : Nat → Prop} {b3 : Nat} {p4 : Option Addr} {k5 : Nat} {b9 : Nat} {b12 : Nat} {i1 : Int} {x2 : Record} {x8 : Int} {x11 : Int} {r : Bool} (hsh : record_first_fn1 i1 x2 x8 x11 = some r) (hS : ∀ b, S0 b → b < w0.heap.size) (h6 : (CeA b3 0 [.string x2.Source.Network, .string x2.Source.Station, .string x2.Source.Location, .string x2.Source.Channel, .int .i64 x2.Start, .int .i64 x2.First, .int .i64 x2.Rate.Num, .int .i64 x2.Rate.Den, .int .i64 x2.Error, .int .i64 x2.Run, .int .i64 x2.Seq, .slice p4 x2.Samples.length k5]).p S0 w0) (h7 : (SlA p4 x2.Samples.length k5 x2.Samples).p S0 w0) (h10 : (CeA b9 0 [.int .i64 x8]).p S0 w0) (h13 : (CeA b12 0 [.int .i64 x11]).p S0 w0) : Calls Try.prog 66 #[.int .i64 i1, .pointer (some ⟨b3, 0, none⟩), .pointer (some ⟨b9, 0, none⟩), .pointer (some ⟨b12, 0, none⟩)] w0 (Ret [] w0 S0 (record_first_fn1_rd w0 r)) := by
  refine calls_of_wp Try.func66 rfl ?_
  have hs := Sl.enter #[.int .i64 i1, .pointer (some ⟨b3, 0, none⟩), .pointer (some ⟨b9, 0, none⟩), .pointer (some ⟨b12, 0, none⟩)] 13 [(0, .int .i64 i1), (1, .pointer (some ⟨b3, 0, none⟩)), (2, .pointer (some ⟨b9, 0, none⟩)), (3, .pointer (some ⟨b12, 0, none⟩))] rfl ⟨rfl, rfl, rfl, rfl, trivial⟩
  have hw := Wd.enter (E := []) hS (fun _ h => (by cases h))
  have hw := hw.addE h6
  have hw := hw.addE h7
  have hw := hw.addE h10
  have hw := hw.addE h13
  delta record_first_fn1 at hsh
  refine wp_seq ?_
  refine wp_region_lit ?_
  refine st_val hs (y_assign rfl) trivial rfl rfl fun a hs => ?_
  refine wpList_nil ?_
  refine then_normal ?_
  refine wp_seq ?_
  obtain ⟨rv15, h14, hsh⟩ := bind_t hsh
  refine wp_only (fun a w => ∃ (Sv16 : Nat → Prop), Sl 13 [(5, .bool (decide (x11 ≤ rv15)))] a ∧ Wd ⟨w0, S0, []⟩ Sv16 [] [] w) ?_ ?_
  · refine h_begin (C := Cls [] [CeA b12 0 [.int .i64 x11], CeA b9 0 [.int .i64 x8], CeA b3 0 [.string x2.Source.Network, .string x2.Source.Station, .string x2.Source.Location, .string x2.Source.Channel, .int .i64 x2.Start, .int .i64 x2.First, .int .i64 x2.Rate.Num, .int .i64 x2.Rate.Den, .int .i64 x2.Error, .int .i64 x2.Run, .int .i64 x2.Seq, .slice p4 x2.Samples.length k5]]) (by kernel_rfl) rfl ?_
    have hw := hw.drew
    have hC : Cls [] [CeA b12 0 [.int .i64 x11], CeA b9 0 [.int .i64 x8], CeA b3 0 [.string x2.Source.Network, .string x2.Source.Station, .string x2.Source.Location, .string x2.Source.Channel, .int .i64 x2.Start, .int .i64 x2.First, .int .i64 x2.Rate.Num, .int .i64 x2.Rate.Den, .int .i64 x2.Error, .int .i64 x2.Run, .int .i64 x2.Seq, .slice p4 x2.Samples.length k5]] _ := hw.cs [] [0, 1, 3] rfl rfl
    refine h_get hs (i := 0) rfl (by kernel_rfl) rfl rfl hC rfl (fun w hC => y_loadEA (j := 0) (hC.ceAt 2 rfl) rfl Try.isAgg32 Try.sizeOf32 rfl rfl) fun a hs => ?_
    refine h_get hs (i := 1) rfl (by kernel_rfl) rfl rfl hC rfl (fun w hC => y_move rfl) fun a hs => ?_
    refine h_get hs (i := 2) rfl (by kernel_rfl) rfl rfl hC rfl (fun w hC => y_loadE1 (j := 0) (hC.ceAt 1 rfl) rfl Try.isAgg3 rfl) fun a hs => ?_
    refine h_get hs (i := 3) rfl (by kernel_rfl) rfl rfl hC rfl (fun w hC => y_add rfl rfl) fun a hs => ?_
    refine h_get hs (i := 5) rfl (by kernel_rfl) rfl rfl hC rfl (fun w hC => y_loadE1 (j := 0) (hC.ceAt 0 rfl) rfl Try.isAgg3 rfl) fun a hs => ?_
    refine h_all (rs := [4]) (by kernel_rfl) rfl ?_
    refine AllH.cons rfl ?_ ?_
    · refine st_callR hs (record_time_ok h14 hw.dom (hw.envAt 2 rfl)) (do_call Try.call38 rfl) trivial rfl rfl ?_
      intro v20 Sv17 w a h18 h19 hs
      subst h19
      have hw := hw.call h18
      refine wpList_nil ?_
      refine then_normal ?_
      have hC : Cls [] [CeA b12 0 [.int .i64 x11], CeA b9 0 [.int .i64 x8], CeA b3 0 [.string x2.Source.Network, .string x2.Source.Station, .string x2.Source.Location, .string x2.Source.Channel, .int .i64 x2.Start, .int .i64 x2.First, .int .i64 x2.Rate.Num, .int .i64 x2.Rate.Den, .int .i64 x2.Error, .int .i64 x2.Run, .int .i64 x2.Seq, .slice p4 x2.Samples.length k5]] _ := hw.cs [] [0, 1, 3] rfl rfl
      refine ⟨hC, ?_⟩
      refine h_get hs (i := 6) rfl (by kernel_rfl) rfl rfl hC rfl (fun w hC => y_geq rfl rfl) fun a hs => ?_
      refine h_get hs (i := 7) rfl (by kernel_rfl) rfl rfl hC rfl (fun w hC => y_assign rfl) fun a hs => ?_
      refine h_done (by kernel_rfl) ?_
      exact ⟨Sv17, (hs.wk rfl), (hw.ft [] [] (by decide) rfl rfl)⟩
    exact AllH.nil
  · rintro a w ⟨Sv16, hs, hw⟩
    refine then_normal ?_
    have hsh := Option.some.inj hsh
    subst hsh
    refine wp_ret ?_
    exact ret1 hs rfl (rv_tmp rfl) (hw.ret rfl)

theorem record_first_fn1_fn {S0 : Nat → Prop} {w0 : World} {b3 : Nat} {p4 : Option Addr} {k5 : Nat} {b9 : Nat} {b12 : Nat} {x2 : Record} {x8 : Int} {x11 : Int} (h6 : (CeA b3 0 [.string x2.Source.Network, .string x2.Source.Station, .string x2.Source.Location, .string x2.Source.Channel, .int .i64 x2.Start, .int .i64 x2.First, .int .i64 x2.Rate.Num, .int .i64 x2.Rate.Den, .int .i64 x2.Error, .int .i64 x2.Run, .int .i64 x2.Seq, .slice p4 x2.Samples.length k5]).p S0 w0) (h7 : (SlA p4 x2.Samples.length k5 x2.Samples).p S0 w0) (h10 : (CeA b9 0 [.int .i64 x8]).p S0 w0) (h13 : (CeA b12 0 [.int .i64 x11]).p S0 w0) : (FnA1 Try.prog 66 [] [.pointer (some ⟨b3, 0, none⟩), .pointer (some ⟨b9, 0, none⟩), .pointer (some ⟨b12, 0, none⟩)] (fun y0 => record_first_fn1 y0 x2 x8 x11)).p S0 w0 := by
  refine ⟨Try.call66, ?_⟩
  intro S1 w1 hk hS c0 x0 r1 h0 hf
  obtain ⟨_, rfl, rfl⟩ := h0
  exact record_first_fn1_ok hf hS  (Asrt.mono _ hk h6) (Asrt.mono _ hk h7) (Asrt.mono _ hk h10) (Asrt.mono _ hk h13)

abbrev record_first_rd (w0 : World) (r : Int) : (Nat → Prop) → World → Value → Prop := fun S w v => v = .int .i64 r
set_option maxHeartbeats 4000000 in
set_option maxRecDepth 100000 in
theorem record_first_ok {w0 : World} {S0 : Nat → Prop} {p2 : Option Addr} {k3 : Nat} {r1 : Record} {offset5 : Int} {t6 : Int} {r : Int} (hsh : record_first r1 offset5 t6 = some r) (hS : ∀ b, S0 b → b < w0.heap.size) (h4 : (SlA p2 r1.Samples.length k3 r1.Samples).p S0 w0) : Calls Try.prog 43 #[.agg #[.string r1.Source.Network, .string r1.Source.Station, .string r1.Source.Location, .string r1.Source.Channel, .int .i64 r1.Start, .int .i64 r1.First, .int .i64 r1.Rate.Num, .int .i64 r1.Rate.Den, .int .i64 r1.Error, .int .i64 r1.Run, .int .i64 r1.Seq, .slice p2 r1.Samples.length k3], .int .i64 offset5, .int .i64 t6] w0 (Ret [] w0 S0 (record_first_rd w0 r)) := by
  refine calls_of_wp Try.func43 rfl ?_
  have hs := Sl.enter #[.agg #[.string r1.Source.Network, .string r1.Source.Station, .string r1.Source.Location, .string r1.Source.Channel, .int .i64 r1.Start, .int .i64 r1.First, .int .i64 r1.Rate.Num, .int .i64 r1.Rate.Den, .int .i64 r1.Error, .int .i64 r1.Run, .int .i64 r1.Seq, .slice p2 r1.Samples.length k3], .int .i64 offset5, .int .i64 t6] 12 [(0, .agg #[.string r1.Source.Network, .string r1.Source.Station, .string r1.Source.Location, .string r1.Source.Channel, .int .i64 r1.Start, .int .i64 r1.First, .int .i64 r1.Rate.Num, .int .i64 r1.Rate.Den, .int .i64 r1.Error, .int .i64 r1.Run, .int .i64 r1.Seq, .slice p2 r1.Samples.length k3]), (1, .int .i64 offset5), (2, .int .i64 t6)] rfl ⟨rfl, rfl, rfl, trivial⟩
  have hw := Wd.enter (E := []) hS (fun _ h => (by cases h))
  have hw := hw.addE h4
  delta record_first at hsh
  refine wp_seq ?_
  refine wp_region_lit ?_
  refine w_box (cs := [.string r1.Source.Network, .string r1.Source.Station, .string r1.Source.Location, .string r1.Source.Channel, .int .i64 r1.Start, .int .i64 r1.First, .int .i64 r1.Rate.Num, .int .i64 r1.Rate.Den, .int .i64 r1.Error, .int .i64 r1.Run, .int .i64 r1.Seq, .slice p2 r1.Samples.length k3]) hs hw rfl rfl rfl trivial ?_
  intro b7 a w hs hw
  refine w_box (cs := [.int .i64 offset5]) hs hw rfl rfl rfl trivial ?_
  intro b8 a w hs hw
  refine w_box (cs := [.int .i64 t6]) hs hw rfl rfl rfl trivial ?_
  intro b9 a w hs hw
  refine st_val hs (y_assign rfl) trivial rfl rfl fun a hs => ?_
  refine wpList_nil ?_
  refine then_normal ?_
  refine wp_seq ?_
  refine wp_region_lit ?_
  refine st_val hs (y_fieldAddr (o' := 11) Try.runUnderlying32 rfl Try.sizeOf22 rfl rfl rfl) trivial rfl rfl fun a hs => ?_
  refine st_val hs (y_loadB1 (hw.ownAt 2 rfl) rfl Try.isAgg22 rfl) trivial rfl rfl fun a hs => ?_
  refine st_val hs (y_len Try.runUnderlying22 rfl) trivial rfl rfl fun a hs => ?_
  refine st_val hs (y_makeFunc (vs := #[]) (us := #[.pointer (some ⟨b7, 0, none⟩), .pointer (some ⟨b8, 0, none⟩), .pointer (some ⟨b9, 0, none⟩)]) rfl rfl) trivial rfl rfl fun a hs => ?_
  obtain ⟨rv11, h10, hsh⟩ := bind_t hsh
  obtain ⟨Sv12, hw⟩ := w_freeze hw 2 rfl (.inl rfl)
  obtain ⟨Sv13, hw⟩ := w_freeze hw 1 rfl (.inl rfl)
  obtain ⟨Sv14, hw⟩ := w_freeze hw 0 rfl (.inl rfl)
  refine st_callR hs (sort_Search_ok h10 hw.dom (record_first_fn1_fn (hw.envAt 2 rfl) (hw.envAt 3 rfl) (hw.envAt 1 rfl) (hw.envAt 0 rfl))) (do_call Try.call44 rfl) trivial rfl rfl ?_
  intro v18 Sv15 w a h16 h17 hs
  subst h17
  have hw := hw.call h16
  refine st_val hs (y_assign rfl) trivial rfl rfl fun a hs => ?_
  refine wpList_nil ?_
  refine then_normal ?_
  have hsh := Option.some.inj hsh
  subst hsh
  refine wp_ret ?_
  exact ret1 hs rfl (rv_tmp rfl) (hw.ret rfl)

abbrev record_part_rd (w0 : World) (r : (Record × Bool × Int)) : (Nat → Prop) → World → Value → Prop := fun S w v => ∃ (p0_11 : Option Addr) (k0_11 : Nat) (c0_11 : List Value), v = .tuple #[.agg #[.string r.1.Source.Network, .string r.1.Source.Station, .string r.1.Source.Location, .string r.1.Source.Channel, .int .i64 r.1.Start, .int .i64 r.1.First, .int .i64 r.1.Rate.Num, .int .i64 r.1.Rate.Den, .int .i64 r.1.Error, .int .i64 r.1.Run, .int .i64 r.1.Seq, .slice p0_11 r.1.Samples.length k0_11], .bool r.2.1, .int .i64 r.2.2] ∧ Fresh w0 S w (.row p0_11 r.1.Samples.length k0_11 c0_11 3 1) ∧ (RowA c0_11 r.1.Samples).p S w
set_option maxHeartbeats 4000000 in
set_option maxRecDepth 100000 in
theorem record_part_ok {w0 : World} {S0 : Nat → Prop} {p2 : Option Addr} {k3 : Nat} {r1 : Record} {from5 : Int} {to6 : Int} {r : (Record × Bool × Int)} (hsh : record_part r1 from5 to6 = some r) (hS : ∀ b, S0 b → b < w0.heap.size) (h4 : (SlA p2 r1.Samples.length k3 r1.Samples).p S0 w0) : Calls Try.prog 42 #[.agg #[.string r1.Source.Network, .string r1.Source.Station, .string r1.Source.Location, .string r1.Source.Channel, .int .i64 r1.Start, .int .i64 r1.First, .int .i64 r1.Rate.Num, .int .i64 r1.Rate.Den, .int .i64 r1.Error, .int .i64 r1.Run, .int .i64 r1.Seq, .slice p2 r1.Samples.length k3], .int .i64 from5, .int .i64 to6] w0 (Ret [] w0 S0 (record_part_rd w0 r)) := by
  refine calls_of_wp Try.func42 rfl ?_
  have hs := Sl.enter #[.agg #[.string r1.Source.Network, .string r1.Source.Station, .string r1.Source.Location, .string r1.Source.Channel, .int .i64 r1.Start, .int .i64 r1.First, .int .i64 r1.Rate.Num, .int .i64 r1.Rate.Den, .int .i64 r1.Error, .int .i64 r1.Run, .int .i64 r1.Seq, .slice p2 r1.Samples.length k3], .int .i64 from5, .int .i64 to6] 17 [(0, .agg #[.string r1.Source.Network, .string r1.Source.Station, .string r1.Source.Location, .string r1.Source.Channel, .int .i64 r1.Start, .int .i64 r1.First, .int .i64 r1.Rate.Num, .int .i64 r1.Rate.Den, .int .i64 r1.Error, .int .i64 r1.Run, .int .i64 r1.Seq, .slice p2 r1.Samples.length k3]), (1, .int .i64 from5), (2, .int .i64 to6)] rfl ⟨rfl, rfl, rfl, trivial⟩
  have hw := Wd.enter (E := []) hS (fun _ h => (by cases h))
  have hw := hw.addE h4
  delta record_part at hsh
  refine wp_seq ?_
  refine wp_region_lit ?_
  refine w_box (cs := [.string r1.Source.Network, .string r1.Source.Station, .string r1.Source.Location, .string r1.Source.Channel, .int .i64 r1.Start, .int .i64 r1.First, .int .i64 r1.Rate.Num, .int .i64 r1.Rate.Den, .int .i64 r1.Error, .int .i64 r1.Run, .int .i64 r1.Seq, .slice p2 r1.Samples.length k3]) hs hw rfl rfl rfl trivial ?_
  intro b7 a w hs hw
  refine w_alloc (cs := [.string ByteArray.empty, .string ByteArray.empty, .string ByteArray.empty, .string ByteArray.empty, .int .i64 0, .int .i64 0, .int .i64 0, .int .i64 0, .int .i64 0, .int .i64 0, .int .i64 0, .slice none ([] : List Int).length 0]) hs hw Try.zeroValue32 rfl rfl trivial ?_
  intro b8 a w hs hw
  refine st_val hs (y_assign rfl) trivial rfl rfl fun a hs => ?_
  refine st_val hs (y_assign rfl) trivial rfl rfl fun a hs => ?_
  refine wpList_nil ?_
  refine then_normal ?_
  refine wp_seq ?_
  refine wp_seq ?_
  refine wp_region_lit ?_
  refine st_val hs (y_move rfl) trivial rfl rfl fun a hs => ?_
  refine st_val hs (y_move rfl) trivial rfl rfl fun a hs => ?_
  refine st_val hs (y_geq rfl rfl) trivial rfl rfl fun a hs => ?_
  refine wpList_nil ?_
  refine then_normal ?_
  refine wp_cond_split (hs.ev rfl) (fun h10 => ?_) (fun h10 => ?_)
  · have hsh := ite_t hsh h10
    refine wp_seq ?_
    refine wp_region_lit ?_
    refine st_val hs (y_build (vs := []) Bld32 rfl rfl) trivial rfl rfl fun a hs => ?_
    refine w_store (m := 12) (cs' := [.string ByteArray.empty, .string ByteArray.empty, .string ByteArray.empty, .string ByteArray.empty, .int .i64 0, .int .i64 0, .int .i64 0, .int .i64 0, .int .i64 0, .int .i64 0, .int .i64 0, .slice none ([] : List Int).length 0]) hs hw 0 rfl rfl rfl Try.sizeOf32 rfl rfl rfl rfl trivial ?_
    intro a w hs hw
    refine st_val hs (y_assign rfl) trivial rfl rfl fun a hs => ?_
    refine st_val hs (y_assign rfl) trivial rfl rfl fun a hs => ?_
    refine wpList_nil ?_
    refine then_normal ?_
    have hsh := Option.some.inj hsh
    subst hsh
    have hw := hw.nilRow Int 3
    refine wp_ret ?_
    refine then_ret ?_
    exact ret3 hs rfl (rv_cell hw 1 rfl rfl Try.isAgg32 Try.sizeOf32 rfl) (rv_tmp rfl) (rv_tmp rfl) (hw.ret ⟨none, 0, [], rfl, (hw.freshOf 0 rfl (.inl rfl)), (hw.envAt 0 rfl)⟩)
  · have hsh := ite_f hsh h10
    refine wp_skip ?_
    refine then_normal ?_
    refine wp_seq ?_
    refine wp_region_lit ?_
    refine st_val hs (y_loadBA (hw.ownAt 1 rfl) rfl Try.isAgg32 Try.sizeOf32 rfl rfl) trivial rfl rfl fun a hs => ?_
    refine st_val hs (y_move rfl) trivial rfl rfl fun a hs => ?_
    refine st_val hs (y_move rfl) trivial rfl rfl fun a hs => ?_
    obtain ⟨rv12, h11, hsh⟩ := bind_t hsh
    refine st_callR hs (record_sub_ok h11 hw.dom (hw.envAt 0 rfl)) (do_call Try.call37 rfl) trivial rfl rfl ?_
    intro v21 Sv18 w a h19 h20 hs
    obtain ⟨p13, k14, c15, rfl, h16, h17⟩ := h20
    have hw := hw.callF h19 h16
    have hw := hw.addE (e := RowA c15 rv12.Samples) h17
    refine w_store (m := 12) (cs' := [.string rv12.Source.Network, .string rv12.Source.Station, .string rv12.Source.Location, .string rv12.Source.Channel, .int .i64 rv12.Start, .int .i64 rv12.First, .int .i64 rv12.Rate.Num, .int .i64 rv12.Rate.Den, .int .i64 rv12.Error, .int .i64 rv12.Run, .int .i64 rv12.Seq, .slice p13 rv12.Samples.length k14]) hs hw 1 rfl rfl rfl Try.sizeOf32 rfl rfl rfl rfl trivial ?_
    intro a w hs hw
    refine st_val hs (y_assign rfl) trivial rfl rfl fun a hs => ?_
    refine st_val hs (y_assign rfl) trivial rfl rfl fun a hs => ?_
    refine wpList_nil ?_
    refine then_normal ?_
    have hsh := Option.some.inj hsh
    subst hsh
    refine wp_ret ?_
    exact ret3 hs rfl (rv_cell hw 1 rfl rfl Try.isAgg32 Try.sizeOf32 rfl) (rv_tmp rfl) (rv_tmp rfl) (hw.ret ⟨p13, k14, c15, rfl, (hw.freshOf 0 rfl (.inl rfl)), (hw.envAt 0 rfl)⟩)

abbrev record_Cut_rd (w0 : World) (r : (Record × Bool × Int)) : (Nat → Prop) → World → Value → Prop := fun S w v => ∃ (p0_11 : Option Addr) (k0_11 : Nat) (c0_11 : List Value), v = .tuple #[.agg #[.string r.1.Source.Network, .string r.1.Source.Station, .string r.1.Source.Location, .string r.1.Source.Channel, .int .i64 r.1.Start, .int .i64 r.1.First, .int .i64 r.1.Rate.Num, .int .i64 r.1.Rate.Den, .int .i64 r.1.Error, .int .i64 r.1.Run, .int .i64 r.1.Seq, .slice p0_11 r.1.Samples.length k0_11], .bool r.2.1, .int .i64 r.2.2] ∧ Fresh w0 S w (.row p0_11 r.1.Samples.length k0_11 c0_11 3 1) ∧ (RowA c0_11 r.1.Samples).p S w
set_option maxHeartbeats 4000000 in
set_option maxRecDepth 100000 in
theorem record_Cut_ok {w0 : World} {S0 : Nat → Prop} {p2 : Option Addr} {k3 : Nat} {r1 : Record} {from5 : Int} {to6 : Int} {r : (Record × Bool × Int)} (hsh : record_Cut r1 from5 to6 = some r) (hS : ∀ b, S0 b → b < w0.heap.size) (h4 : (SlA p2 r1.Samples.length k3 r1.Samples).p S0 w0) : Calls Try.prog 19 #[.agg #[.string r1.Source.Network, .string r1.Source.Station, .string r1.Source.Location, .string r1.Source.Channel, .int .i64 r1.Start, .int .i64 r1.First, .int .i64 r1.Rate.Num, .int .i64 r1.Rate.Den, .int .i64 r1.Error, .int .i64 r1.Run, .int .i64 r1.Seq, .slice p2 r1.Samples.length k3], .int .i64 from5, .int .i64 to6] w0 (Ret [] w0 S0 (record_Cut_rd w0 r)) := by
  refine calls_of_wp Try.func19 rfl ?_
  have hs := Sl.enter #[.agg #[.string r1.Source.Network, .string r1.Source.Station, .string r1.Source.Location, .string r1.Source.Channel, .int .i64 r1.Start, .int .i64 r1.First, .int .i64 r1.Rate.Num, .int .i64 r1.Rate.Den, .int .i64 r1.Error, .int .i64 r1.Run, .int .i64 r1.Seq, .slice p2 r1.Samples.length k3], .int .i64 from5, .int .i64 to6] 24 [(0, .agg #[.string r1.Source.Network, .string r1.Source.Station, .string r1.Source.Location, .string r1.Source.Channel, .int .i64 r1.Start, .int .i64 r1.First, .int .i64 r1.Rate.Num, .int .i64 r1.Rate.Den, .int .i64 r1.Error, .int .i64 r1.Run, .int .i64 r1.Seq, .slice p2 r1.Samples.length k3]), (1, .int .i64 from5), (2, .int .i64 to6)] rfl ⟨rfl, rfl, rfl, trivial⟩
  have hw := Wd.enter (E := []) hS (fun _ h => (by cases h))
  have hw := hw.addE h4
  delta record_Cut at hsh
  refine wp_seq ?_
  refine wp_region_lit ?_
  refine w_box (cs := [.string r1.Source.Network, .string r1.Source.Station, .string r1.Source.Location, .string r1.Source.Channel, .int .i64 r1.Start, .int .i64 r1.First, .int .i64 r1.Rate.Num, .int .i64 r1.Rate.Den, .int .i64 r1.Error, .int .i64 r1.Run, .int .i64 r1.Seq, .slice p2 r1.Samples.length k3]) hs hw rfl rfl rfl trivial ?_
  intro b7 a w hs hw
  refine w_alloc (cs := [.string ByteArray.empty, .string ByteArray.empty, .string ByteArray.empty, .string ByteArray.empty, .int .i64 0, .int .i64 0, .int .i64 0, .int .i64 0, .int .i64 0, .int .i64 0, .int .i64 0, .slice none ([] : List Int).length 0]) hs hw Try.zeroValue32 rfl rfl trivial ?_
  intro b8 a w hs hw
  refine st_val hs (y_assign rfl) trivial rfl rfl fun a hs => ?_
  refine st_val hs (y_assign rfl) trivial rfl rfl fun a hs => ?_
  refine wpList_nil ?_
  refine then_normal ?_
  refine wp_seq ?_
  refine wp_seq ?_
  refine wp_region_lit ?_
  refine st_val hs (y_loadBA (hw.ownAt 1 rfl) rfl Try.isAgg32 Try.sizeOf32 rfl rfl) trivial rfl rfl fun a hs => ?_
  obtain ⟨rv10, h9, hsh⟩ := bind_t hsh
  refine st_callR hs (record_Valid_ok h9 hw.dom (hw.envAt 0 rfl)) (do_call Try.call26 rfl) trivial rfl rfl ?_
  intro v14 Sv11 w a h12 h13 hs
  subst h13
  have hw := hw.call h12
  refine st_val hs (y_not rfl) trivial rfl rfl fun a hs => ?_
  refine wpList_nil ?_
  refine then_normal ?_
  refine wp_cond_split (hs.ev rfl) (fun h16 => ?_) (fun h16 => ?_)
  · have hsh := ite_t hsh h16
    refine wp_seq ?_
    refine wp_region_lit ?_
    refine st_val hs (y_build (vs := []) Bld32 rfl rfl) trivial rfl rfl fun a hs => ?_
    refine w_store (m := 12) (cs' := [.string ByteArray.empty, .string ByteArray.empty, .string ByteArray.empty, .string ByteArray.empty, .int .i64 0, .int .i64 0, .int .i64 0, .int .i64 0, .int .i64 0, .int .i64 0, .int .i64 0, .slice none ([] : List Int).length 0]) hs hw 0 rfl rfl rfl Try.sizeOf32 rfl rfl rfl rfl trivial ?_
    intro a w hs hw
    refine st_val hs (y_assign rfl) trivial rfl rfl fun a hs => ?_
    refine st_val hs (y_assign rfl) trivial rfl rfl fun a hs => ?_
    refine wpList_nil ?_
    refine then_normal ?_
    have hsh := Option.some.inj hsh
    subst hsh
    have hw := hw.nilRow Int 3
    refine wp_ret ?_
    refine then_ret ?_
    exact ret3 hs rfl (rv_cell hw 1 rfl rfl Try.isAgg32 Try.sizeOf32 rfl) (rv_tmp rfl) (rv_tmp rfl) (hw.ret ⟨none, 0, [], rfl, (hw.freshOf 0 rfl (.inl rfl)), (hw.envAt 0 rfl)⟩)
  · have hsh := ite_f hsh h16
    refine wp_skip ?_
    refine then_normal ?_
    refine wp_seq ?_
    obtain ⟨rv18, h17, hsh⟩ := bind_t hsh
    obtain ⟨rv20, h19, hsh⟩ := bind_t hsh
    obtain ⟨rv22, h21, hsh⟩ := bind_t hsh
    refine wp_only (fun a w => ∃ (Sv28 : Nat → Prop) (c25 : List Value) (k24 : Nat) (p23 : Option Addr), Sl 24 [(6, .pointer (some ⟨b8, 0, none⟩)), (7, .bool rv22.2.1), (8, .int .i64 rv22.2.2)] a ∧ Wd ⟨w0, S0, []⟩ Sv28 [.box b8 [.string rv22.1.Source.Network, .string rv22.1.Source.Station, .string rv22.1.Source.Location, .string rv22.1.Source.Channel, .int .i64 rv22.1.Start, .int .i64 rv22.1.First, .int .i64 rv22.1.Rate.Num, .int .i64 rv22.1.Rate.Den, .int .i64 rv22.1.Error, .int .i64 rv22.1.Run, .int .i64 rv22.1.Seq, .slice p23 rv22.1.Samples.length k24] 32, .row p23 rv22.1.Samples.length k24 c25 3 1] [RowA c25 rv22.1.Samples] w) ?_ ?_
    · refine h_begin (C := Cls [.box b7 [.string r1.Source.Network, .string r1.Source.Station, .string r1.Source.Location, .string r1.Source.Channel, .int .i64 r1.Start, .int .i64 r1.First, .int .i64 r1.Rate.Num, .int .i64 r1.Rate.Den, .int .i64 r1.Error, .int .i64 r1.Run, .int .i64 r1.Seq, .slice p2 r1.Samples.length k3] 32] []) (by kernel_rfl) rfl ?_
      have hw := hw.drew
      have hC : Cls [.box b7 [.string r1.Source.Network, .string r1.Source.Station, .string r1.Source.Location, .string r1.Source.Channel, .int .i64 r1.Start, .int .i64 r1.First, .int .i64 r1.Rate.Num, .int .i64 r1.Rate.Den, .int .i64 r1.Error, .int .i64 r1.Run, .int .i64 r1.Seq, .slice p2 r1.Samples.length k3] 32] [] _ := hw.cs [1] [] rfl rfl
      refine h_get hs (i := 0) rfl (by kernel_rfl) rfl rfl hC rfl (fun w hC => y_loadBA (hC.ownAt 0 rfl) rfl Try.isAgg32 Try.sizeOf32 rfl rfl) fun a hs => ?_
      refine h_get hs (i := 1) rfl (by kernel_rfl) rfl rfl hC rfl (fun w hC => y_loadBA (hC.ownAt 0 rfl) rfl Try.isAgg32 Try.sizeOf32 rfl rfl) fun a hs => ?_
      refine h_get hs (i := 2) rfl (by kernel_rfl) rfl rfl hC rfl (fun w hC => y_move rfl) fun a hs => ?_
      refine h_get hs (i := 4) rfl (by kernel_rfl) rfl rfl hC rfl (fun w hC => y_loadBA (hC.ownAt 0 rfl) rfl Try.isAgg32 Try.sizeOf32 rfl rfl) fun a hs => ?_
      refine h_get hs (i := 5) rfl (by kernel_rfl) rfl rfl hC rfl (fun w hC => y_move rfl) fun a hs => ?_
      refine h_all (rs := [3]) (by kernel_rfl) rfl ?_
      refine AllH.cons rfl ?_ ?_
      · refine st_callR hs (record_first_ok h17 hw.dom (hw.envAt 0 rfl)) (do_call Try.call43 rfl) trivial rfl rfl ?_
        intro v32 Sv29 w a h30 h31 hs
        subst h31
        have hw := hw.call h30
        refine wpList_nil ?_
        refine then_normal ?_
        have hC : Cls [.box b7 [.string r1.Source.Network, .string r1.Source.Station, .string r1.Source.Location, .string r1.Source.Channel, .int .i64 r1.Start, .int .i64 r1.First, .int .i64 r1.Rate.Num, .int .i64 r1.Rate.Den, .int .i64 r1.Error, .int .i64 r1.Run, .int .i64 r1.Seq, .slice p2 r1.Samples.length k3] 32] [] _ := hw.cs [1] [] rfl rfl
        refine ⟨hC, ?_⟩
        refine h_all (rs := [6]) (by kernel_rfl) rfl ?_
        refine AllH.cons rfl ?_ ?_
        · refine st_callR hs (record_first_ok h19 hw.dom (hw.envAt 0 rfl)) (do_call Try.call43 rfl) trivial rfl rfl ?_
          intro v36 Sv33 w a h34 h35 hs
          subst h35
          have hw := hw.call h34
          refine wpList_nil ?_
          refine then_normal ?_
          have hC : Cls [.box b7 [.string r1.Source.Network, .string r1.Source.Station, .string r1.Source.Location, .string r1.Source.Channel, .int .i64 r1.Start, .int .i64 r1.First, .int .i64 r1.Rate.Num, .int .i64 r1.Rate.Den, .int .i64 r1.Error, .int .i64 r1.Run, .int .i64 r1.Seq, .slice p2 r1.Samples.length k3] 32] [] _ := hw.cs [1] [] rfl rfl
          refine ⟨hC, ?_⟩
          refine h_all (rs := [7]) (by kernel_rfl) rfl ?_
          refine AllH.cons rfl ?_ ?_
          · refine st_callR hs (record_part_ok h21 hw.dom (hw.envAt 0 rfl)) (do_call Try.call42 rfl) trivial rfl rfl ?_
            intro v40 Sv37 w a h38 h39 hs
            obtain ⟨p23, k24, c25, rfl, h26, h27⟩ := h39
            have hw := hw.callF h38 h26
            have hw := hw.addE (e := RowA c25 rv22.1.Samples) h27
            refine wpList_nil ?_
            refine then_normal ?_
            have hC : Cls [.box b7 [.string r1.Source.Network, .string r1.Source.Station, .string r1.Source.Location, .string r1.Source.Channel, .int .i64 r1.Start, .int .i64 r1.First, .int .i64 r1.Rate.Num, .int .i64 r1.Rate.Den, .int .i64 r1.Error, .int .i64 r1.Run, .int .i64 r1.Seq, .slice p2 r1.Samples.length k3] 32] [] _ := hw.cs [2] [] rfl rfl
            refine ⟨hC, ?_⟩
            refine h_strong (C' := Cls [.box b7 [.string r1.Source.Network, .string r1.Source.Station, .string r1.Source.Location, .string r1.Source.Channel, .int .i64 r1.Start, .int .i64 r1.First, .int .i64 r1.Rate.Num, .int .i64 r1.Rate.Den, .int .i64 r1.Error, .int .i64 r1.Run, .int .i64 r1.Seq, .slice p2 r1.Samples.length k3] 32, .row p23 rv22.1.Samples.length k24 c25 3 1] []) (fun _ h => by exact h.sub [0] (Sel.of rfl) (AllIn.of [] rfl)) ?_
            have hC : Cls [.box b7 [.string r1.Source.Network, .string r1.Source.Station, .string r1.Source.Location, .string r1.Source.Channel, .int .i64 r1.Start, .int .i64 r1.First, .int .i64 r1.Rate.Num, .int .i64 r1.Rate.Den, .int .i64 r1.Error, .int .i64 r1.Run, .int .i64 r1.Seq, .slice p2 r1.Samples.length k3] 32, .row p23 rv22.1.Samples.length k24 c25 3 1] [] _ := hw.cs [2, 0] [] rfl rfl
            refine h_get hs (i := 8) rfl (by kernel_rfl) rfl rfl hC rfl (fun w hC => y_extract rfl rfl) fun a hs => ?_
            refine h_get hs (i := 9) rfl (by kernel_rfl) rfl rfl hC rfl (fun w hC => y_extract rfl rfl) fun a hs => ?_
            refine h_get hs (i := 10) rfl (by kernel_rfl) rfl rfl hC rfl (fun w hC => y_extract rfl rfl) fun a hs => ?_
            refine h_all (rs := [11]) (by kernel_rfl) rfl ?_
            refine AllH.cons rfl ?_ ?_
            · refine w_store (m := 12) (cs' := [.string rv22.1.Source.Network, .string rv22.1.Source.Station, .string rv22.1.Source.Location, .string rv22.1.Source.Channel, .int .i64 rv22.1.Start, .int .i64 rv22.1.First, .int .i64 rv22.1.Rate.Num, .int .i64 rv22.1.Rate.Den, .int .i64 rv22.1.Error, .int .i64 rv22.1.Run, .int .i64 rv22.1.Seq, .slice p23 rv22.1.Samples.length k24]) hs hw 1 rfl rfl rfl Try.sizeOf32 rfl rfl rfl rfl trivial ?_
              intro a w hs hw
              refine wpList_nil ?_
              refine then_normal ?_
              have hC : Cls [.box b7 [.string r1.Source.Network, .string r1.Source.Station, .string r1.Source.Location, .string r1.Source.Channel, .int .i64 r1.Start, .int .i64 r1.First, .int .i64 r1.Rate.Num, .int .i64 r1.Rate.Den, .int .i64 r1.Error, .int .i64 r1.Run, .int .i64 r1.Seq, .slice p2 r1.Samples.length k3] 32, .row p23 rv22.1.Samples.length k24 c25 3 1] [] _ := hw.cs [2, 0] [] rfl rfl
              refine ⟨hC, ?_⟩
              refine h_get hs (i := 12) rfl (by kernel_rfl) rfl rfl hC rfl (fun w hC => y_assign rfl) fun a hs => ?_
              refine h_get hs (i := 13) rfl (by kernel_rfl) rfl rfl hC rfl (fun w hC => y_assign rfl) fun a hs => ?_
              refine h_done (by kernel_rfl) ?_
              exact ⟨Sv37, c25, k24, p23, (hs.wk rfl), (hw.ft [1, 0] [0] (by decide) rfl rfl)⟩
            exact AllH.nil
          exact AllH.nil
        exact AllH.nil
      exact AllH.nil
    · rintro a w ⟨Sv28, c25, k24, p23, hs, hw⟩
      refine then_normal ?_
      have hsh := Option.some.inj hsh
      subst hsh
      refine wp_ret ?_
      exact ret3 hs rfl (rv_cell hw 0 rfl rfl Try.isAgg32 Try.sizeOf32 rfl) (rv_tmp rfl) (rv_tmp rfl) (hw.ret ⟨p23, k24, c25, rfl, (hw.freshOf 1 rfl (.inl rfl)), (hw.envAt 0 rfl)⟩)

abbrev record_Inside_fn1_rd (w0 : World) (r : Bool) : (Nat → Prop) → World → Value → Prop := fun S w v => v = .bool r
set_option maxHeartbeats 4000000 in
set_option maxRecDepth 100000 in
theorem record_Inside_fn1_ok {w0 : World} {S0 : Nat → Prop} {b3 : Nat} {p4 : Option Addr} {k5 : Nat} {b9 : Nat} {i1 : Int} {x2 : Record} {x8 : Int} {r : Bool} (hsh : record_Inside_fn1 i1 x2 x8 = some r) (hS : ∀ b, S0 b → b < w0.heap.size) (h6 : (CeA b3 0 [.string x2.Source.Network, .string x2.Source.Station, .string x2.Source.Location, .string x2.Source.Channel, .int .i64 x2.Start, .int .i64 x2.First, .int .i64 x2.Rate.Num, .int .i64 x2.Rate.Den, .int .i64 x2.Error, .int .i64 x2.Run, .int .i64 x2.Seq, .slice p4 x2.Samples.length k5]).p S0 w0) (h7 : (SlA p4 x2.Samples.length k5 x2.Samples).p S0 w0) (h10 : (CeA b9 0 [.int .i64 x8]).p S0 w0) : Calls Try.prog 45 #[.int .i64 i1, .pointer (some ⟨b3, 0, none⟩), .pointer (some ⟨b9, 0, none⟩)] w0 (Ret [] w0 S0 (record_Inside_fn1_rd w0 r)) := by
  refine calls_of_wp Try.func45 rfl ?_
  have hs := Sl.enter #[.int .i64 i1, .pointer (some ⟨b3, 0, none⟩), .pointer (some ⟨b9, 0, none⟩)] 11 [(0, .int .i64 i1), (1, .pointer (some ⟨b3, 0, none⟩)), (2, .pointer (some ⟨b9, 0, none⟩))] rfl ⟨rfl, rfl, rfl, trivial⟩
  have hw := Wd.enter (E := []) hS (fun _ h => (by cases h))
  have hw := hw.addE h6
  have hw := hw.addE h7
  have hw := hw.addE h10
  delta record_Inside_fn1 at hsh
  refine wp_seq ?_
  refine wp_region_lit ?_
  refine st_val hs (y_assign rfl) trivial rfl rfl fun a hs => ?_
  refine wpList_nil ?_
  refine then_normal ?_
  refine wp_seq ?_
  obtain ⟨rv12, h11, hsh⟩ := bind_t hsh
  refine wp_only (fun a w => ∃ (Sv13 : Nat → Prop), Sl 11 [(4, .bool (decide (x8 < rv12)))] a ∧ Wd ⟨w0, S0, []⟩ Sv13 [] [] w) ?_ ?_
  · refine h_begin (C := Cls [] [CeA b9 0 [.int .i64 x8], CeA b3 0 [.string x2.Source.Network, .string x2.Source.Station, .string x2.Source.Location, .string x2.Source.Channel, .int .i64 x2.Start, .int .i64 x2.First, .int .i64 x2.Rate.Num, .int .i64 x2.Rate.Den, .int .i64 x2.Error, .int .i64 x2.Run, .int .i64 x2.Seq, .slice p4 x2.Samples.length k5]]) (by kernel_rfl) rfl ?_
    have hw := hw.drew
    have hC : Cls [] [CeA b9 0 [.int .i64 x8], CeA b3 0 [.string x2.Source.Network, .string x2.Source.Station, .string x2.Source.Location, .string x2.Source.Channel, .int .i64 x2.Start, .int .i64 x2.First, .int .i64 x2.Rate.Num, .int .i64 x2.Rate.Den, .int .i64 x2.Error, .int .i64 x2.Run, .int .i64 x2.Seq, .slice p4 x2.Samples.length k5]] _ := hw.cs [] [0, 2] rfl rfl
    refine h_get hs (i := 0) rfl (by kernel_rfl) rfl rfl hC rfl (fun w hC => y_loadEA (j := 0) (hC.ceAt 1 rfl) rfl Try.isAgg32 Try.sizeOf32 rfl rfl) fun a hs => ?_
    refine h_get hs (i := 1) rfl (by kernel_rfl) rfl rfl hC rfl (fun w hC => y_move rfl) fun a hs => ?_
    refine h_get hs (i := 2) rfl (by kernel_rfl) rfl rfl hC rfl (fun w hC => y_add rfl rfl) fun a hs => ?_
    refine h_get hs (i := 4) rfl (by kernel_rfl) rfl rfl hC rfl (fun w hC => y_loadE1 (j := 0) (hC.ceAt 0 rfl) rfl Try.isAgg3 rfl) fun a hs => ?_
    refine h_all (rs := [3]) (by kernel_rfl) rfl ?_
    refine AllH.cons rfl ?_ ?_
    · refine st_callR hs (record_time_ok h11 hw.dom (hw.envAt 1 rfl)) (do_call Try.call38 rfl) trivial rfl rfl ?_
      intro v17 Sv14 w a h15 h16 hs
      subst h16
      have hw := hw.call h15
      refine wpList_nil ?_
      refine then_normal ?_
      have hC : Cls [] [CeA b9 0 [.int .i64 x8], CeA b3 0 [.string x2.Source.Network, .string x2.Source.Station, .string x2.Source.Location, .string x2.Source.Channel, .int .i64 x2.Start, .int .i64 x2.First, .int .i64 x2.Rate.Num, .int .i64 x2.Rate.Den, .int .i64 x2.Error, .int .i64 x2.Run, .int .i64 x2.Seq, .slice p4 x2.Samples.length k5]] _ := hw.cs [] [0, 2] rfl rfl
      refine ⟨hC, ?_⟩
      refine h_get hs (i := 5) rfl (by kernel_rfl) rfl rfl hC rfl (fun w hC => y_gtr rfl rfl) fun a hs => ?_
      refine h_get hs (i := 6) rfl (by kernel_rfl) rfl rfl hC rfl (fun w hC => y_assign rfl) fun a hs => ?_
      refine h_done (by kernel_rfl) ?_
      exact ⟨Sv14, (hs.wk rfl), (hw.ft [] [] (by decide) rfl rfl)⟩
    exact AllH.nil
  · rintro a w ⟨Sv13, hs, hw⟩
    refine then_normal ?_
    have hsh := Option.some.inj hsh
    subst hsh
    refine wp_ret ?_
    exact ret1 hs rfl (rv_tmp rfl) (hw.ret rfl)

theorem record_Inside_fn1_fn {S0 : Nat → Prop} {w0 : World} {b3 : Nat} {p4 : Option Addr} {k5 : Nat} {b9 : Nat} {x2 : Record} {x8 : Int} (h6 : (CeA b3 0 [.string x2.Source.Network, .string x2.Source.Station, .string x2.Source.Location, .string x2.Source.Channel, .int .i64 x2.Start, .int .i64 x2.First, .int .i64 x2.Rate.Num, .int .i64 x2.Rate.Den, .int .i64 x2.Error, .int .i64 x2.Run, .int .i64 x2.Seq, .slice p4 x2.Samples.length k5]).p S0 w0) (h7 : (SlA p4 x2.Samples.length k5 x2.Samples).p S0 w0) (h10 : (CeA b9 0 [.int .i64 x8]).p S0 w0) : (FnA1 Try.prog 45 [] [.pointer (some ⟨b3, 0, none⟩), .pointer (some ⟨b9, 0, none⟩)] (fun y0 => record_Inside_fn1 y0 x2 x8)).p S0 w0 := by
  refine ⟨Try.call45, ?_⟩
  intro S1 w1 hk hS c0 x0 r1 h0 hf
  obtain ⟨_, rfl, rfl⟩ := h0
  exact record_Inside_fn1_ok hf hS  (Asrt.mono _ hk h6) (Asrt.mono _ hk h7) (Asrt.mono _ hk h10)

abbrev record_Inside_rd (w0 : World) (r : (Record × Bool × Int)) : (Nat → Prop) → World → Value → Prop := fun S w v => ∃ (p0_11 : Option Addr) (k0_11 : Nat) (c0_11 : List Value), v = .tuple #[.agg #[.string r.1.Source.Network, .string r.1.Source.Station, .string r.1.Source.Location, .string r.1.Source.Channel, .int .i64 r.1.Start, .int .i64 r.1.First, .int .i64 r.1.Rate.Num, .int .i64 r.1.Rate.Den, .int .i64 r.1.Error, .int .i64 r.1.Run, .int .i64 r.1.Seq, .slice p0_11 r.1.Samples.length k0_11], .bool r.2.1, .int .i64 r.2.2] ∧ Fresh w0 S w (.row p0_11 r.1.Samples.length k0_11 c0_11 3 1) ∧ (RowA c0_11 r.1.Samples).p S w
set_option maxHeartbeats 4000000 in
set_option maxRecDepth 100000 in
theorem record_Inside_ok {w0 : World} {S0 : Nat → Prop} {p2 : Option Addr} {k3 : Nat} {r1 : Record} {from5 : Int} {to6 : Int} {r : (Record × Bool × Int)} (hsh : record_Inside r1 from5 to6 = some r) (hS : ∀ b, S0 b → b < w0.heap.size) (h4 : (SlA p2 r1.Samples.length k3 r1.Samples).p S0 w0) : Calls Try.prog 20 #[.agg #[.string r1.Source.Network, .string r1.Source.Station, .string r1.Source.Location, .string r1.Source.Channel, .int .i64 r1.Start, .int .i64 r1.First, .int .i64 r1.Rate.Num, .int .i64 r1.Rate.Den, .int .i64 r1.Error, .int .i64 r1.Run, .int .i64 r1.Seq, .slice p2 r1.Samples.length k3], .int .i64 from5, .int .i64 to6] w0 (Ret [] w0 S0 (record_Inside_rd w0 r)) := by
  refine calls_of_wp Try.func20 rfl ?_
  have hs := Sl.enter #[.agg #[.string r1.Source.Network, .string r1.Source.Station, .string r1.Source.Location, .string r1.Source.Channel, .int .i64 r1.Start, .int .i64 r1.First, .int .i64 r1.Rate.Num, .int .i64 r1.Rate.Den, .int .i64 r1.Error, .int .i64 r1.Run, .int .i64 r1.Seq, .slice p2 r1.Samples.length k3], .int .i64 from5, .int .i64 to6] 28 [(0, .agg #[.string r1.Source.Network, .string r1.Source.Station, .string r1.Source.Location, .string r1.Source.Channel, .int .i64 r1.Start, .int .i64 r1.First, .int .i64 r1.Rate.Num, .int .i64 r1.Rate.Den, .int .i64 r1.Error, .int .i64 r1.Run, .int .i64 r1.Seq, .slice p2 r1.Samples.length k3]), (1, .int .i64 from5), (2, .int .i64 to6)] rfl ⟨rfl, rfl, rfl, trivial⟩
  have hw := Wd.enter (E := []) hS (fun _ h => (by cases h))
  have hw := hw.addE h4
  delta record_Inside at hsh
  refine wp_seq ?_
  refine wp_region_lit ?_
  refine w_box (cs := [.string r1.Source.Network, .string r1.Source.Station, .string r1.Source.Location, .string r1.Source.Channel, .int .i64 r1.Start, .int .i64 r1.First, .int .i64 r1.Rate.Num, .int .i64 r1.Rate.Den, .int .i64 r1.Error, .int .i64 r1.Run, .int .i64 r1.Seq, .slice p2 r1.Samples.length k3]) hs hw rfl rfl rfl trivial ?_
  intro b7 a w hs hw
  refine w_box (cs := [.int .i64 to6]) hs hw rfl rfl rfl trivial ?_
  intro b8 a w hs hw
  refine w_alloc (cs := [.string ByteArray.empty, .string ByteArray.empty, .string ByteArray.empty, .string ByteArray.empty, .int .i64 0, .int .i64 0, .int .i64 0, .int .i64 0, .int .i64 0, .int .i64 0, .int .i64 0, .slice none ([] : List Int).length 0]) hs hw Try.zeroValue32 rfl rfl trivial ?_
  intro b9 a w hs hw
  refine st_val hs (y_assign rfl) trivial rfl rfl fun a hs => ?_
  refine st_val hs (y_assign rfl) trivial rfl rfl fun a hs => ?_
  refine wpList_nil ?_
  refine then_normal ?_
  refine wp_seq ?_
  refine wp_seq ?_
  refine wp_region_lit ?_
  refine st_val hs (y_loadBA (hw.ownAt 2 rfl) rfl Try.isAgg32 Try.sizeOf32 rfl rfl) trivial rfl rfl fun a hs => ?_
  obtain ⟨rv11, h10, hsh⟩ := bind_t hsh
  refine st_callR hs (record_Valid_ok h10 hw.dom (hw.envAt 0 rfl)) (do_call Try.call26 rfl) trivial rfl rfl ?_
  intro v15 Sv12 w a h13 h14 hs
  subst h14
  have hw := hw.call h13
  refine st_val hs (y_not rfl) trivial rfl rfl fun a hs => ?_
  refine wpList_nil ?_
  refine then_normal ?_
  refine wp_cond_split (hs.ev rfl) (fun h17 => ?_) (fun h17 => ?_)
  · have hsh := ite_t hsh h17
    refine wp_seq ?_
    refine wp_region_lit ?_
    refine st_val hs (y_build (vs := []) Bld32 rfl rfl) trivial rfl rfl fun a hs => ?_
    refine w_store (m := 12) (cs' := [.string ByteArray.empty, .string ByteArray.empty, .string ByteArray.empty, .string ByteArray.empty, .int .i64 0, .int .i64 0, .int .i64 0, .int .i64 0, .int .i64 0, .int .i64 0, .int .i64 0, .slice none ([] : List Int).length 0]) hs hw 0 rfl rfl rfl Try.sizeOf32 rfl rfl rfl rfl trivial ?_
    intro a w hs hw
    refine st_val hs (y_assign rfl) trivial rfl rfl fun a hs => ?_
    refine st_val hs (y_assign rfl) trivial rfl rfl fun a hs => ?_
    refine wpList_nil ?_
    refine then_normal ?_
    have hsh := Option.some.inj hsh
    subst hsh
    have hw := hw.nilRow Int 3
    refine wp_ret ?_
    refine then_ret ?_
    exact ret3 hs rfl (rv_cell hw 1 rfl rfl Try.isAgg32 Try.sizeOf32 rfl) (rv_tmp rfl) (rv_tmp rfl) (hw.ret ⟨none, 0, [], rfl, (hw.freshOf 0 rfl (.inl rfl)), (hw.envAt 0 rfl)⟩)
  · have hsh := ite_f hsh h17
    refine wp_skip ?_
    refine then_normal ?_
    refine wp_seq ?_
    refine wp_region_lit ?_
    refine st_val hs (y_fieldAddr (o' := 11) Try.runUnderlying32 rfl Try.sizeOf22 rfl rfl rfl) trivial rfl rfl fun a hs => ?_
    refine st_val hs (y_loadB1 (hw.ownAt 2 rfl) rfl Try.isAgg22 rfl) trivial rfl rfl fun a hs => ?_
    refine st_val hs (y_len Try.runUnderlying22 rfl) trivial rfl rfl fun a hs => ?_
    refine st_val hs (y_makeFunc (vs := #[]) (us := #[.pointer (some ⟨b7, 0, none⟩), .pointer (some ⟨b8, 0, none⟩)]) rfl rfl) trivial rfl rfl fun a hs => ?_
    obtain ⟨rv19, h18, hsh⟩ := bind_t hsh
    obtain ⟨Sv20, hw⟩ := w_freeze hw 2 rfl (.inl rfl)
    obtain ⟨Sv21, hw⟩ := w_freeze hw 1 rfl (.inl rfl)
    refine st_callR hs (sort_Search_ok h18 hw.dom (record_Inside_fn1_fn (hw.envAt 1 rfl) (hw.envAt 2 rfl) (hw.envAt 0 rfl))) (do_call Try.call44 rfl) trivial rfl rfl ?_
    intro v25 Sv22 w a h23 h24 hs
    subst h24
    have hw := hw.call h23
    refine st_val hs (y_assign rfl) trivial rfl rfl fun a hs => ?_
    refine wpList_nil ?_
    refine then_normal ?_
    refine wp_seq ?_
    obtain ⟨rv27, h26, hsh⟩ := bind_t hsh
    obtain ⟨rv29, h28, hsh⟩ := bind_t hsh
    refine wp_only (fun a w => ∃ (Sv35 : Nat → Prop) (c32 : List Value) (k31 : Nat) (p30 : Option Addr), Sl 28 [(6, .pointer (some ⟨b9, 0, none⟩)), (7, .bool rv29.2.1), (8, .int .i64 rv29.2.2)] a ∧ Wd ⟨w0, S0, []⟩ Sv35 [.box b9 [.string rv29.1.Source.Network, .string rv29.1.Source.Station, .string rv29.1.Source.Location, .string rv29.1.Source.Channel, .int .i64 rv29.1.Start, .int .i64 rv29.1.First, .int .i64 rv29.1.Rate.Num, .int .i64 rv29.1.Rate.Den, .int .i64 rv29.1.Error, .int .i64 rv29.1.Run, .int .i64 rv29.1.Seq, .slice p30 rv29.1.Samples.length k31] 32, .row p30 rv29.1.Samples.length k31 c32 3 1] [RowA c32 rv29.1.Samples] w) ?_ ?_
    · refine h_begin (C := Cls [] [CeA b8 0 [.int .i64 to6], CeA b7 0 [.string r1.Source.Network, .string r1.Source.Station, .string r1.Source.Location, .string r1.Source.Channel, .int .i64 r1.Start, .int .i64 r1.First, .int .i64 r1.Rate.Num, .int .i64 r1.Rate.Den, .int .i64 r1.Error, .int .i64 r1.Run, .int .i64 r1.Seq, .slice p2 r1.Samples.length k3]]) (by kernel_rfl) rfl ?_
      have hw := hw.drew
      have hC : Cls [] [CeA b8 0 [.int .i64 to6], CeA b7 0 [.string r1.Source.Network, .string r1.Source.Station, .string r1.Source.Location, .string r1.Source.Channel, .int .i64 r1.Start, .int .i64 r1.First, .int .i64 r1.Rate.Num, .int .i64 r1.Rate.Den, .int .i64 r1.Error, .int .i64 r1.Run, .int .i64 r1.Seq, .slice p2 r1.Samples.length k3]] _ := hw.cs [] [0, 1] rfl rfl
      refine h_get hs (i := 0) rfl (by kernel_rfl) rfl rfl hC rfl (fun w hC => y_loadEA (j := 0) (hC.ceAt 1 rfl) rfl Try.isAgg32 Try.sizeOf32 rfl rfl) fun a hs => ?_
      refine h_get hs (i := 1) rfl (by kernel_rfl) rfl rfl hC rfl (fun w hC => y_loadEA (j := 0) (hC.ceAt 1 rfl) rfl Try.isAgg32 Try.sizeOf32 rfl rfl) fun a hs => ?_
      refine h_get hs (i := 2) rfl (by kernel_rfl) rfl rfl hC rfl (fun w hC => y_move rfl) fun a hs => ?_
      refine h_get hs (i := 4) rfl (by kernel_rfl) rfl rfl hC rfl (fun w hC => y_move rfl) fun a hs => ?_
      refine h_all (rs := [3]) (by kernel_rfl) rfl ?_
      refine AllH.cons rfl ?_ ?_
      · refine st_callR hs (record_first_ok h26 hw.dom (hw.envAt 2 rfl)) (do_call Try.call43 rfl) trivial rfl rfl ?_
        intro v39 Sv36 w a h37 h38 hs
        subst h38
        have hw := hw.call h37
        refine wpList_nil ?_
        refine then_normal ?_
        have hC : Cls [] [CeA b8 0 [.int .i64 to6], CeA b7 0 [.string r1.Source.Network, .string r1.Source.Station, .string r1.Source.Location, .string r1.Source.Channel, .int .i64 r1.Start, .int .i64 r1.First, .int .i64 r1.Rate.Num, .int .i64 r1.Rate.Den, .int .i64 r1.Error, .int .i64 r1.Run, .int .i64 r1.Seq, .slice p2 r1.Samples.length k3]] _ := hw.cs [] [0, 1] rfl rfl
        refine ⟨hC, ?_⟩
        refine h_all (rs := [5]) (by kernel_rfl) rfl ?_
        refine AllH.cons rfl ?_ ?_
        · refine st_callR hs (record_part_ok h28 hw.dom (hw.envAt 2 rfl)) (do_call Try.call42 rfl) trivial rfl rfl ?_
          intro v43 Sv40 w a h41 h42 hs
          obtain ⟨p30, k31, c32, rfl, h33, h34⟩ := h42
          have hw := hw.callF h41 h33
          have hw := hw.addE (e := RowA c32 rv29.1.Samples) h34
          refine wpList_nil ?_
          refine then_normal ?_
          have hC : Cls [] [CeA b8 0 [.int .i64 to6], CeA b7 0 [.string r1.Source.Network, .string r1.Source.Station, .string r1.Source.Location, .string r1.Source.Channel, .int .i64 r1.Start, .int .i64 r1.First, .int .i64 r1.Rate.Num, .int .i64 r1.Rate.Den, .int .i64 r1.Error, .int .i64 r1.Run, .int .i64 r1.Seq, .slice p2 r1.Samples.length k3]] _ := hw.cs [] [1, 2] rfl rfl
          refine ⟨hC, ?_⟩
          refine h_strong (C' := Cls [.row p30 rv29.1.Samples.length k31 c32 3 1] [CeA b8 0 [.int .i64 to6], CeA b7 0 [.string r1.Source.Network, .string r1.Source.Station, .string r1.Source.Location, .string r1.Source.Channel, .int .i64 r1.Start, .int .i64 r1.First, .int .i64 r1.Rate.Num, .int .i64 r1.Rate.Den, .int .i64 r1.Error, .int .i64 r1.Run, .int .i64 r1.Seq, .slice p2 r1.Samples.length k3]]) (fun _ h => by exact h.sub [] (Sel.of rfl) (AllIn.of [0, 1] rfl)) ?_
          have hC : Cls [.row p30 rv29.1.Samples.length k31 c32 3 1] [CeA b8 0 [.int .i64 to6], CeA b7 0 [.string r1.Source.Network, .string r1.Source.Station, .string r1.Source.Location, .string r1.Source.Channel, .int .i64 r1.Start, .int .i64 r1.First, .int .i64 r1.Rate.Num, .int .i64 r1.Rate.Den, .int .i64 r1.Error, .int .i64 r1.Run, .int .i64 r1.Seq, .slice p2 r1.Samples.length k3]] _ := hw.cs [0] [1, 2] rfl rfl
          refine h_get hs (i := 6) rfl (by kernel_rfl) rfl rfl hC rfl (fun w hC => y_extract rfl rfl) fun a hs => ?_
          refine h_get hs (i := 7) rfl (by kernel_rfl) rfl rfl hC rfl (fun w hC => y_extract rfl rfl) fun a hs => ?_
          refine h_get hs (i := 8) rfl (by kernel_rfl) rfl rfl hC rfl (fun w hC => y_extract rfl rfl) fun a hs => ?_
          refine h_all (rs := [9]) (by kernel_rfl) rfl ?_
          refine AllH.cons rfl ?_ ?_
          · refine w_store (m := 12) (cs' := [.string rv29.1.Source.Network, .string rv29.1.Source.Station, .string rv29.1.Source.Location, .string rv29.1.Source.Channel, .int .i64 rv29.1.Start, .int .i64 rv29.1.First, .int .i64 rv29.1.Rate.Num, .int .i64 rv29.1.Rate.Den, .int .i64 rv29.1.Error, .int .i64 rv29.1.Run, .int .i64 rv29.1.Seq, .slice p30 rv29.1.Samples.length k31]) hs hw 1 rfl rfl rfl Try.sizeOf32 rfl rfl rfl rfl trivial ?_
            intro a w hs hw
            refine wpList_nil ?_
            refine then_normal ?_
            have hC : Cls [.row p30 rv29.1.Samples.length k31 c32 3 1] [CeA b8 0 [.int .i64 to6], CeA b7 0 [.string r1.Source.Network, .string r1.Source.Station, .string r1.Source.Location, .string r1.Source.Channel, .int .i64 r1.Start, .int .i64 r1.First, .int .i64 r1.Rate.Num, .int .i64 r1.Rate.Den, .int .i64 r1.Error, .int .i64 r1.Run, .int .i64 r1.Seq, .slice p2 r1.Samples.length k3]] _ := hw.cs [0] [1, 2] rfl rfl
            refine ⟨hC, ?_⟩
            refine h_get hs (i := 10) rfl (by kernel_rfl) rfl rfl hC rfl (fun w hC => y_assign rfl) fun a hs => ?_
            refine h_get hs (i := 11) rfl (by kernel_rfl) rfl rfl hC rfl (fun w hC => y_assign rfl) fun a hs => ?_
            refine h_done (by kernel_rfl) ?_
            exact ⟨Sv40, c32, k31, p30, (hs.wk rfl), (hw.ft [1, 0] [0] (by decide) rfl rfl)⟩
          exact AllH.nil
        exact AllH.nil
      exact AllH.nil
    · rintro a w ⟨Sv35, c32, k31, p30, hs, hw⟩
      refine then_normal ?_
      have hsh := Option.some.inj hsh
      subst hsh
      refine wp_ret ?_
      exact ret3 hs rfl (rv_cell hw 0 rfl rfl Try.isAgg32 Try.sizeOf32 rfl) (rv_tmp rfl) (rv_tmp rfl) (hw.ret ⟨p30, k31, c32, rfl, (hw.freshOf 1 rfl (.inl rfl)), (hw.envAt 0 rfl)⟩)

abbrev ref14_At_rd (w0 : World) (r : (Int × Int)) : (Nat → Prop) → World → Value → Prop := fun S w v => v = .tuple #[.int .i64 r.1, .int .i64 r.2]
set_option maxHeartbeats 4000000 in
set_option maxRecDepth 100000 in
theorem ref14_At_ok {w0 : World} {S0 : Nat → Prop} {p2 : Option Addr} {k3 : Nat} {r1 : Record} {i5 : Int} {r : (Int × Int)} (hsh : ref14_At r1 i5 = some r) (hS : ∀ b, S0 b → b < w0.heap.size) (h4 : (SlA p2 r1.Samples.length k3 r1.Samples).p S0 w0) : Calls Try.prog 21 #[.agg #[.string r1.Source.Network, .string r1.Source.Station, .string r1.Source.Location, .string r1.Source.Channel, .int .i64 r1.Start, .int .i64 r1.First, .int .i64 r1.Rate.Num, .int .i64 r1.Rate.Den, .int .i64 r1.Error, .int .i64 r1.Run, .int .i64 r1.Seq, .slice p2 r1.Samples.length k3], .int .i64 i5] w0 (Ret [] w0 S0 (ref14_At_rd w0 r)) := by
  refine calls_of_wp Try.func21 rfl ?_
  have hs := Sl.enter #[.agg #[.string r1.Source.Network, .string r1.Source.Station, .string r1.Source.Location, .string r1.Source.Channel, .int .i64 r1.Start, .int .i64 r1.First, .int .i64 r1.Rate.Num, .int .i64 r1.Rate.Den, .int .i64 r1.Error, .int .i64 r1.Run, .int .i64 r1.Seq, .slice p2 r1.Samples.length k3], .int .i64 i5] 18 [(0, .agg #[.string r1.Source.Network, .string r1.Source.Station, .string r1.Source.Location, .string r1.Source.Channel, .int .i64 r1.Start, .int .i64 r1.First, .int .i64 r1.Rate.Num, .int .i64 r1.Rate.Den, .int .i64 r1.Error, .int .i64 r1.Run, .int .i64 r1.Seq, .slice p2 r1.Samples.length k3]), (1, .int .i64 i5)] rfl ⟨rfl, rfl, trivial⟩
  have hw := Wd.enter (E := []) hS (fun _ h => (by cases h))
  have hw := hw.addE h4
  delta ref14_At at hsh
  refine wp_seq ?_
  refine wp_region_lit ?_
  refine w_box (cs := [.string r1.Source.Network, .string r1.Source.Station, .string r1.Source.Location, .string r1.Source.Channel, .int .i64 r1.Start, .int .i64 r1.First, .int .i64 r1.Rate.Num, .int .i64 r1.Rate.Den, .int .i64 r1.Error, .int .i64 r1.Run, .int .i64 r1.Seq, .slice p2 r1.Samples.length k3]) hs hw rfl rfl rfl trivial ?_
  intro b6 a w hs hw
  refine st_val hs (y_assign rfl) trivial rfl rfl fun a hs => ?_
  refine st_val hs (y_assign rfl) trivial rfl rfl fun a hs => ?_
  refine wpList_nil ?_
  refine then_normal ?_
  refine wp_seq ?_
  refine wp_seq ?_
  refine wp_region_lit ?_
  refine st_val hs (y_loadBA (hw.ownAt 0 rfl) rfl Try.isAgg32 Try.sizeOf32 rfl rfl) trivial rfl rfl fun a hs => ?_
  obtain ⟨rv8, h7, hsh⟩ := bind_t hsh
  refine st_callR hs (ref14_Valid_ok h7 hw.dom (hw.envAt 0 rfl)) (do_call Try.call27 rfl) trivial rfl rfl ?_
  intro v12 Sv9 w a h10 h11 hs
  subst h11
  have hw := hw.call h10
  refine st_val hs (y_not rfl) trivial rfl rfl fun a hs => ?_
  refine wpList_nil ?_
  refine then_normal ?_
  refine wp_cond_split (hs.ev rfl) (fun h14 => ?_) (fun h14 => ?_)
  · have hsh := ite_t hsh h14
    refine wp_seq ?_
    refine wp_region_lit ?_
    refine st_val hs (y_assign rfl) trivial rfl rfl fun a hs => ?_
    refine st_val hs (y_assign rfl) trivial rfl rfl fun a hs => ?_
    refine wpList_nil ?_
    refine then_normal ?_
    have hsh := Option.some.inj hsh
    subst hsh
    refine wp_ret ?_
    refine then_ret ?_
    exact ret2 hs rfl (rv_tmp rfl) (rv_tmp rfl) (hw.ret rfl)
  · have hsh := ite_f hsh h14
    refine wp_skip ?_
    refine then_normal ?_
    refine wp_seq ?_
    refine wp_seq ?_
    refine wp_region_lit ?_
    refine st_val hs (y_move rfl) trivial rfl rfl fun a hs => ?_
    refine st_val hs (y_fieldAddr (o' := 11) Try.runUnderlying32 rfl Try.sizeOf22 rfl rfl rfl) trivial rfl rfl fun a hs => ?_
    refine st_val hs (y_loadB1 (hw.ownAt 0 rfl) rfl Try.isAgg22 rfl) trivial rfl rfl fun a hs => ?_
    refine st_val hs (y_len Try.runUnderlying22 rfl) trivial rfl rfl fun a hs => ?_
    obtain ⟨rv16, h15, hsh⟩ := bind_t hsh
    refine st_callR hs (ref01_In_ok h15 hw.dom) (do_call Try.call46 rfl) trivial rfl rfl ?_
    intro v20 Sv17 w a h18 h19 hs
    subst h19
    have hw := hw.call h18
    refine st_val hs (y_not rfl) trivial rfl rfl fun a hs => ?_
    refine wpList_nil ?_
    refine then_normal ?_
    refine wp_cond_split (hs.ev rfl) (fun h22 => ?_) (fun h22 => ?_)
    · have hsh := ite_t hsh h22
      refine wp_seq ?_
      refine wp_region_lit ?_
      refine st_val hs (y_assign rfl) trivial rfl rfl fun a hs => ?_
      refine st_val hs (y_assign rfl) trivial rfl rfl fun a hs => ?_
      refine wpList_nil ?_
      refine then_normal ?_
      have hsh := Option.some.inj hsh
      subst hsh
      refine wp_ret ?_
      refine then_ret ?_
      exact ret2 hs rfl (rv_tmp rfl) (rv_tmp rfl) (hw.ret rfl)
    · have hsh := ite_f hsh h22
      refine wp_skip ?_
      refine then_normal ?_
      refine wp_seq ?_
      refine wp_region_lit ?_
      refine st_val hs (y_loadBA (hw.ownAt 0 rfl) rfl Try.isAgg32 Try.sizeOf32 rfl rfl) trivial rfl rfl fun a hs => ?_
      refine st_val hs (y_move rfl) trivial rfl rfl fun a hs => ?_
      obtain ⟨rv24, h23, hsh⟩ := bind_t hsh
      refine st_callR hs (ref14_Time_ok h23 hw.dom (hw.envAt 0 rfl)) (do_call Try.call41 rfl) trivial rfl rfl ?_
      intro v28 Sv25 w a h26 h27 hs
      subst h27
      have hw := hw.call h26
      refine st_val hs (y_assign rfl) trivial rfl rfl fun a hs => ?_
      refine st_val hs (y_assign rfl) trivial rfl rfl fun a hs => ?_
      refine wpList_nil ?_
      refine then_normal ?_
      have hsh := Option.some.inj hsh
      subst hsh
      refine wp_ret ?_
      exact ret2 hs rfl (rv_tmp rfl) (rv_tmp rfl) (hw.ret rfl)

end Go.Proofs.Ytdifjkamipeibaa.Wk

/- The walks of RecordParts, part 2: each Go function computes what its plain program computes. Printed by a program of ours. -/
import Derived.Test.YtdifjkamipeibaaProg
import Derived.Test.YtdifjkamipeibaaDat
import Derived.Test.YtdifjkamipeibaaSh
import Derived.Test.YtdifjkamipeibaaLibL
import Derived.KernelRfl
import Derived.Test.YtdifjkamipeibaaWRecordParts1
namespace Go.Proofs.Ytdifjkamipeibaa.Wk
open Go Go.RowKit Go.Proofs Go.Proofs.Ytdifjkamipeibaa.Sh
set_option linter.unusedVariables false
set_option linter.unusedSimpArgs false

abbrev made_Dice_Record_rd (w0 : World) (bd : Nat) (r : (Record × Dice)) : (Nat → Prop) → World → Value → Prop := fun S w v => ∃ (p0_11 : Option Addr) (k0_11 : Nat) (c0_11 : List Value) (q0_0 : Option Addr) (m0_0 : Nat), v = .agg #[.string r.1.Source.Network, .string r.1.Source.Station, .string r.1.Source.Location, .string r.1.Source.Channel, .int .i64 r.1.Start, .int .i64 r.1.First, .int .i64 r.1.Rate.Num, .int .i64 r.1.Rate.Den, .int .i64 r.1.Error, .int .i64 r.1.Run, .int .i64 r.1.Seq, .slice p0_11 r.1.Samples.length k0_11] ∧ Fresh w0 S w (.row p0_11 r.1.Samples.length k0_11 c0_11 3 1) ∧ (RowA c0_11 r.1.Samples).p S w ∧ w.heap[bd]? = some (.cells #[.slice q0_0 r.2.L.length m0_0, .int .i64 r.2.At] 60 (0, 0)) ∧ (SlA q0_0 r.2.L.length m0_0 r.2.L).p S w
abbrev D10t1 (b10 : Nat) (b11 : Nat) (b2 : Nat) (b44 : Nat) (n9 : Int) : Slots := [(0, .pointer (some ⟨b2, 0, none⟩)), (2, .int .i64 n9), (4, .pointer (some ⟨b10, 0, none⟩)), (6, .pointer (some ⟨b11, 0, none⟩)), (7, .pointer (some ⟨b44, 0, none⟩))]
abbrev D10t2 (b2 : Nat) (b52 : Nat) (b60 : Nat) (b79 : Nat) (rv39 : (Rate × Int)) (rv46 : (Int × Dice)) (rv54 : (Int × Dice)) (rv62 : (Int × Dice)) (rv68 : (Int × Dice)) (rv74 : (Int × Dice)) (s8 : SourceID) : Vs := [(0, 21, .agg #[.string s8.Network, .string s8.Station, .string s8.Location, .string s8.Channel]), (1, 22, .pointer (some ⟨b2, 0, none⟩)), (2, 23, .int .i64 rv46.1), (3, 24, .int .i64 (w64 (250000 * rv46.1))), (4, 25, .int .i64 (w64 (1000000000000 + (w64 (250000 * rv46.1))))), (5, 26, .pointer (some ⟨b2, 0, none⟩)), (6, 27, .slice (some ⟨b52, 0, none⟩) ([0, 0, 3] : List Int).length ([0, 0, 3] : List Int).length), (7, 28, .int .i64 rv54.1), (8, 29, .agg #[.int .i64 rv39.1.Num, .int .i64 rv39.1.Den]), (9, 30, .pointer (some ⟨b2, 0, none⟩)), (10, 31, .slice (some ⟨b60, 0, none⟩) ([0, 0, 10, 500] : List Int).length ([0, 0, 10, 500] : List Int).length), (11, 32, .int .i64 rv62.1), (12, 33, .pointer (some ⟨b2, 0, none⟩)), (13, 34, .int .i64 rv68.1), (14, 35, .pointer (some ⟨b2, 0, none⟩)), (15, 36, .int .i64 rv74.1), (16, 37, .agg #[.string s8.Network, .string s8.Station, .string s8.Location, .string s8.Channel, .int .i64 (w64 (1000000000000 + (w64 (250000 * rv46.1)))), .int .i64 rv54.1, .int .i64 rv39.1.Num, .int .i64 rv39.1.Den, .int .i64 rv62.1, .int .i64 rv68.1, .int .i64 rv74.1, .slice none ([] : List Int).length 0]), (17, 9, .pointer (some ⟨b79, 0, none⟩))]
abbrev D10t3 : List Value := [.int .i64 0, .int .i64 0, .int .i64 3]
abbrev D10t4 : List Int := ([0, 0, 3] : List Int)
abbrev D10t5 : List Value := [.int .i64 0, .int .i64 0, .int .i64 10, .int .i64 500]
abbrev D10t6 : List Int := ([0, 0, 10, 500] : List Int)
set_option maxHeartbeats 4000000 in
set_option maxRecDepth 100000 in
theorem made_Dice_Record_ok {w0 : World} {S0 : Nat → Prop} {b2 : Nat} {p3 : Option Addr} {k4 : Nat} {d1 : Dice} {s8 : SourceID} {n9 : Int} {r : (Record × Dice)} (hsh : made_Dice_Record d1 s8 n9 = some r) (hS : ∀ b, S0 b → b < w0.heap.size) (h5 : w0.heap[b2]? = some (.cells #[.slice p3 d1.L.length k4, .int .i64 d1.At] 60 (0, 0))) (h6 : ¬ S0 b2) (h7 : (SlA p3 d1.L.length k4 d1.L).p S0 w0) : Calls Try.prog 10 #[.pointer (some ⟨b2, 0, none⟩), .agg #[.string s8.Network, .string s8.Station, .string s8.Location, .string s8.Channel], .int .i64 n9] w0 (Ret [b2] w0 S0 (made_Dice_Record_rd w0 b2 r)) := by
  refine calls_of_wp Try.func10 rfl ?_
  have hs := Sl.enter #[.pointer (some ⟨b2, 0, none⟩), .agg #[.string s8.Network, .string s8.Station, .string s8.Location, .string s8.Channel], .int .i64 n9] 54 [(0, .pointer (some ⟨b2, 0, none⟩)), (1, .agg #[.string s8.Network, .string s8.Station, .string s8.Location, .string s8.Channel]), (2, .int .i64 n9)] rfl ⟨rfl, rfl, rfl, trivial⟩
  have hw := Wd.enter1 (E := []) hS h5 h6 (fun _ h => (by cases h))
  have hw := hw.addE h7
  delta made_Dice_Record at hsh
  refine wp_seq ?_
  refine wp_region_lit ?_
  refine w_box (cs := [.string s8.Network, .string s8.Station, .string s8.Location, .string s8.Channel]) hs hw rfl rfl rfl trivial ?_
  intro b10 a w hs hw
  refine w_alloc (cs := [.string ByteArray.empty, .string ByteArray.empty, .string ByteArray.empty, .string ByteArray.empty, .int .i64 0, .int .i64 0, .int .i64 0, .int .i64 0, .int .i64 0, .int .i64 0, .int .i64 0, .slice none ([] : List Int).length 0]) hs hw Try.zeroValue32 rfl rfl trivial ?_
  intro b11 a w hs hw
  refine wpList_nil ?_
  refine then_normal ?_
  refine wp_seq ?_
  refine wp_region_lit ?_
  refine st_val hs (y_move rfl) trivial rfl rfl fun a hs => ?_
  refine w_litSlice (α := Int) (vs := [.int .i64 1, .int .i64 2, .int .i64 2, .int .i64 3]) (cs := [.int .i64 1, .int .i64 2, .int .i64 2, .int .i64 3]) (xs := ([1, 2, 2, 3] : List Int)) hs hw El22 rfl rfl rfl rfl rfl rfl ⟨⟨_, rfl, rfl⟩, ⟨⟨_, rfl, rfl⟩, ⟨⟨_, rfl, rfl⟩, ⟨⟨_, rfl, rfl⟩, rfl⟩⟩⟩⟩ rfl trivial rfl fun b13 a w hs hw => ?_
  obtain ⟨rv15, h14, hsh⟩ := bind_t hsh
  obtain ⟨Sv20, hw⟩ := w_share (α := Int) hw 0 rfl 0 rfl (.inr ⟨3, _, _, _, rfl, rfl, rfl⟩)
  refine st_callR hs (made_Dice_Pick_ok h14 hw.dom (hw.ownAt 2 rfl) (hw.boxS 2 rfl) (hw.envAt 2 rfl) (hw.envAt 0 rfl)) (do_call Try.call36 rfl) trivial rfl rfl ?_
  intro v24 Sv21 w a h22 h23 hs
  obtain ⟨p17, k18, rfl, h16, h19⟩ := h23
  have hw := hw.call1 2 rfl h22 h16
  have hw := hw.addE (e := SlA p17 rv15.2.L.length k18 rv15.2.L) h19
  refine st_val hs (y_move rfl) trivial rfl rfl fun a hs => ?_
  refine w_litSlice (α := Int) (vs := [.int .i64 1, .int .i64 1, .int .i64 1, .int .i64 3]) (cs := [.int .i64 1, .int .i64 1, .int .i64 1, .int .i64 3]) (xs := ([1, 1, 1, 3] : List Int)) hs hw El22 rfl rfl rfl rfl rfl rfl ⟨⟨_, rfl, rfl⟩, ⟨⟨_, rfl, rfl⟩, ⟨⟨_, rfl, rfl⟩, ⟨⟨_, rfl, rfl⟩, rfl⟩⟩⟩⟩ rfl trivial rfl fun b26 a w hs hw => ?_
  obtain ⟨rv28, h27, hsh⟩ := bind_t hsh
  obtain ⟨Sv33, hw⟩ := w_share (α := Int) hw 0 rfl 0 rfl (.inr ⟨3, _, _, _, rfl, rfl, rfl⟩)
  refine st_callR hs (made_Dice_Pick_ok h27 hw.dom (hw.ownAt 2 rfl) (hw.boxS 2 rfl) (hw.envAt 2 rfl) (hw.envAt 0 rfl)) (do_call Try.call36 rfl) trivial rfl rfl ?_
  intro v37 Sv34 w a h35 h36 hs
  obtain ⟨p30, k31, rfl, h29, h32⟩ := h36
  have hw := hw.call1 2 rfl h35 h29
  have hw := hw.addE (e := SlA p30 rv28.2.L.length k31 rv28.2.L) h32
  obtain ⟨rv39, h38, hsh⟩ := bind_t hsh
  refine st_callR hs (ref02_New_ok h38 hw.dom) (do_call Try.call35 rfl) trivial rfl rfl ?_
  intro v43 Sv40 w a h41 h42 hs
  subst h42
  have hw := hw.call h41
  refine st_val hs (y_move rfl) trivial rfl rfl fun a hs => ?_
  refine st_val hs (y_extract rfl rfl) trivial rfl rfl fun a hs => ?_
  refine st_val hs (y_extract rfl rfl) trivial rfl rfl fun a hs => ?_
  refine w_alloc (cs := [.int .i64 0, .int .i64 0]) hs hw Try.zeroValue30 rfl rfl trivial ?_
  intro b44 a w hs hw
  refine w_store (m := 2) (cs' := [.int .i64 rv39.1.Num, .int .i64 rv39.1.Den]) hs hw 0 rfl rfl rfl Try.sizeOf30 rfl rfl rfl rfl trivial ?_
  intro a w hs hw
  refine st_val hs (y_assign rfl) trivial rfl rfl fun a hs => ?_
  refine wpList_nil ?_
  refine then_normal ?_
  refine wp_seq ?_
  obtain ⟨rv46, h45, hsh⟩ := bind_t hsh
  obtain ⟨rv54, h53, hsh⟩ := bind_t hsh
  obtain ⟨rv62, h61, hsh⟩ := bind_t hsh
  obtain ⟨rv68, h67, hsh⟩ := bind_t hsh
  obtain ⟨rv74, h73, hsh⟩ := bind_t hsh
  refine wp_only (fun a w => ∃ (Sv80 : Nat → Prop) (b79 : Nat) (k77 : Nat) (p76 : Option Addr), Sl 54 [(0, .pointer (some ⟨b2, 0, none⟩)), (2, .int .i64 n9), (6, .pointer (some ⟨b11, 0, none⟩)), (9, .pointer (some ⟨b79, 0, none⟩))] a ∧ Wd ⟨w0, S0, [b2]⟩ Sv80 [.box b2 [.slice p76 rv74.2.L.length k77, .int .i64 rv74.2.At] 60, .box b11 [.string ByteArray.empty, .string ByteArray.empty, .string ByteArray.empty, .string ByteArray.empty, .int .i64 0, .int .i64 0, .int .i64 0, .int .i64 0, .int .i64 0, .int .i64 0, .int .i64 0, .slice none ([] : List Int).length 0] 32, .box b79 [.string s8.Network, .string s8.Station, .string s8.Location, .string s8.Channel, .int .i64 (w64 (1000000000000 + (w64 (250000 * rv46.1)))), .int .i64 rv54.1, .int .i64 rv39.1.Num, .int .i64 rv39.1.Den, .int .i64 rv62.1, .int .i64 rv68.1, .int .i64 rv74.1, .slice none ([] : List Int).length 0] 32] [SlA p76 rv74.2.L.length k77 rv74.2.L, SlA none ([] : List Int).length 0 ([] : List Int)] w) ?_ ?_
  · refine wp_region_phi (n := 19) (Φ := fun l a w => ∃ (b52 : Nat) (b60 : Nat) (b79 : Nat) (k49 : Nat) (k57 : Nat) (k65 : Nat) (k71 : Nat) (k77 : Nat) (p48 : Option Addr) (p56 : Option Addr) (p64 : Option Addr) (p70 : Option Addr) (p76 : Option Addr) (S : Nat → Prop), SlF 54 (D10t1 b10 b11 b2 b44 n9) (D10t2 b2 b52 b60 b79 rv39 rv46 rv54 rv62 rv68 rv74 s8) l a ∧ Wd ⟨w0, S0, [b2]⟩ S [.box b44 [.int .i64 rv39.1.Num, .int .i64 rv39.1.Den] 30, .box b11 [.string ByteArray.empty, .string ByteArray.empty, .string ByteArray.empty, .string ByteArray.empty, .int .i64 0, .int .i64 0, .int .i64 0, .int .i64 0, .int .i64 0, .int .i64 0, .int .i64 0, .slice none ([] : List Int).length 0] 32, .box b10 [.string s8.Network, .string s8.Station, .string s8.Location, .string s8.Channel] 28, ((bif l 15 then .box b2 [.slice p76 rv74.2.L.length k77, .int .i64 rv74.2.At] 60 else (bif l 13 then .box b2 [.slice p70 rv68.2.L.length k71, .int .i64 rv68.2.At] 60 else (bif l 11 then .box b2 [.slice p64 rv62.2.L.length k65, .int .i64 rv62.2.At] 60 else (bif l 7 then .box b2 [.slice p56 rv54.2.L.length k57, .int .i64 rv54.2.At] 60 else (bif l 2 then .box b2 [.slice p48 rv46.2.L.length k49, .int .i64 rv46.2.At] 60 else .box b2 [.slice p30 rv28.2.L.length k31, .int .i64 rv28.2.At] 60))))) : Res), ((bif l 7 then emp else (bif l 6 then .row (some ⟨b52, 0, none⟩) ([0, 0, 3] : List Int).length ([0, 0, 3] : List Int).length [.int .i64 0, .int .i64 0, .int .i64 3] 3 1 else emp)) : Res), ((bif l 11 then emp else (bif l 10 then .row (some ⟨b60, 0, none⟩) ([0, 0, 10, 500] : List Int).length ([0, 0, 10, 500] : List Int).length [.int .i64 0, .int .i64 0, .int .i64 10, .int .i64 500] 3 1 else emp)) : Res), ((bif l 18 then .box b79 [.string s8.Network, .string s8.Station, .string s8.Location, .string s8.Channel, .int .i64 (w64 (1000000000000 + (w64 (250000 * rv46.1)))), .int .i64 rv54.1, .int .i64 rv39.1.Num, .int .i64 rv39.1.Den, .int .i64 rv62.1, .int .i64 rv68.1, .int .i64 rv74.1, .slice none ([] : List Int).length 0] 32 else (bif l 17 then .box b79 [.string ByteArray.empty, .string ByteArray.empty, .string ByteArray.empty, .string ByteArray.empty, .int .i64 0, .int .i64 0, .int .i64 0, .int .i64 0, .int .i64 0, .int .i64 0, .int .i64 0, .slice none ([] : List Int).length 0] 32 else emp)) : Res)] [SlA p30 rv28.2.L.length k31 rv28.2.L, SlA (some ⟨b26, 0, none⟩) ([1, 1, 1, 3] : List Int).length ([1, 1, 1, 3] : List Int).length ([1, 1, 1, 3] : List Int), RowA [.int .i64 1, .int .i64 1, .int .i64 1, .int .i64 3] ([1, 1, 1, 3] : List Int), SlA p17 rv15.2.L.length k18 rv15.2.L, SlA (some ⟨b13, 0, none⟩) ([1, 2, 2, 3] : List Int).length ([1, 2, 2, 3] : List Int).length ([1, 2, 2, 3] : List Int), RowA [.int .i64 1, .int .i64 2, .int .i64 2, .int .i64 3] ([1, 2, 2, 3] : List Int), SlA p3 d1.L.length k4 d1.L, optA (l 2) (SlA p48 rv46.2.L.length k49 rv46.2.L), optA (l 6) (RowA [.int .i64 0, .int .i64 0, .int .i64 3] ([0, 0, 3] : List Int)), optA (l 7) (SlA (some ⟨b52, 0, none⟩) ([0, 0, 3] : List Int).length ([0, 0, 3] : List Int).length ([0, 0, 3] : List Int)), optA (l 7) (SlA p56 rv54.2.L.length k57 rv54.2.L), optA (l 10) (RowA [.int .i64 0, .int .i64 0, .int .i64 10, .int .i64 500] ([0, 0, 10, 500] : List Int)), optA (l 11) (SlA (some ⟨b60, 0, none⟩) ([0, 0, 10, 500] : List Int).length ([0, 0, 10, 500] : List Int).length ([0, 0, 10, 500] : List Int)), optA (l 11) (SlA p64 rv62.2.L.length k65 rv62.2.L), optA (l 13) (SlA p70 rv68.2.L.length k71 rv68.2.L), optA (l 15) (SlA p76 rv74.2.L.length k77 rv74.2.L)] w) [1, 1, 2, 3, 4, 1, 1, 3, 1, 1, 1, 4, 1, 5, 1, 6, 7, 1, 8] (by kernel_rfl) rfl (by kernel_rfl) ?_ (AllS.succ (AllS.succ (AllS.succ (AllS.succ (AllS.succ (AllS.succ (AllS.succ (AllS.succ (AllS.succ (AllS.succ (AllS.succ (AllS.succ (AllS.succ (AllS.succ (AllS.succ (AllS.succ (AllS.succ (AllS.succ (AllS.succ AllS.zero ?_) ?_) ?_) ?_) ?_) ?_) ?_) ?_) ?_) ?_) ?_) ?_) ?_) ?_) ?_) ?_) ?_) ?_) ?_) ?_
    · obtain ⟨b52, b60, b79, k49, k57, k65, k71, k77, p48, p56, p64, p70, p76, _⟩ : ∃ (b52 : Nat) (b60 : Nat) (b79 : Nat) (k49 : Nat) (k57 : Nat) (k65 : Nat) (k71 : Nat) (k77 : Nat) (p48 : Option Addr) (p56 : Option Addr) (p64 : Option Addr) (p70 : Option Addr) (p76 : Option Addr), True := ⟨0, 0, 0, 0, 0, 0, 0, 0, none, none, none, none, none, trivial⟩
      have hw := hw.drew
      have hw := hw.emp
      have hw := hw.emp
      have hw := hw.emp
      have hw := hw.noE (SlA p76 rv74.2.L.length k77 rv74.2.L)
      have hw := hw.noE (SlA p70 rv68.2.L.length k71 rv68.2.L)
      have hw := hw.noE (SlA p64 rv62.2.L.length k65 rv62.2.L)
      have hw := hw.noE (SlA (some ⟨b60, 0, none⟩) ([0, 0, 10, 500] : List Int).length ([0, 0, 10, 500] : List Int).length ([0, 0, 10, 500] : List Int))
      have hw := hw.noE (RowA [.int .i64 0, .int .i64 0, .int .i64 10, .int .i64 500] ([0, 0, 10, 500] : List Int))
      have hw := hw.noE (SlA p56 rv54.2.L.length k57 rv54.2.L)
      have hw := hw.noE (SlA (some ⟨b52, 0, none⟩) ([0, 0, 3] : List Int).length ([0, 0, 3] : List Int).length ([0, 0, 3] : List Int))
      have hw := hw.noE (RowA [.int .i64 0, .int .i64 0, .int .i64 3] ([0, 0, 3] : List Int))
      have hw := hw.noE (SlA p48 rv46.2.L.length k49 rv46.2.L)
      exact ⟨b52, b60, b79, k49, k57, k65, k71, k77, p48, p56, p64, p70, p76, Sv40, SlF.init (hs.wk rfl) (by kernel_rfl), hw.ft [3, 4, 5, 6, 0, 1, 2] [9, 10, 11, 12, 13, 14, 15, 0, 1, 2, 3, 4, 5, 6, 7, 8] (by decide) rfl rfl⟩
    · intro l hi hp hc a w ⟨b52, b60, b79, k49, k57, k65, k71, k77, p48, p56, p64, p70, p76, S, hS, hw⟩
      refine S_val hS (.b (t := 4) rfl .nil) rfl rfl trivial (y_loadBA (hw.ownAt 2 rfl) rfl Try.isAgg28 Try.sizeOf28 rfl rfl) (rfl) 0 rfl fun a hS => ⟨b52, b60, b79, k49, k57, k65, k71, k77, p48, p56, p64, p70, p76, S, hS, hw⟩
    · intro l hi hp hc a w ⟨b52, b60, b79, k49, k57, k65, k71, k77, p48, p56, p64, p70, p76, S, hS, hw⟩
      refine S_val hS (.b (t := 0) rfl .nil) rfl rfl trivial (y_move rfl) (rfl) 1 rfl fun a hS => ⟨b52, b60, b79, k49, k57, k65, k71, k77, p48, p56, p64, p70, p76, S, hS, hw⟩
    · intro l hi hp hc a w ⟨b52, b60, b79, k49, k57, k65, k71, k77, p48, p56, p64, p70, p76, S, hS, hw⟩
      have h_7 := l_neg hc 7 hi rfl
      have h_11 := l_neg hc 11 h_7 rfl
      have h_13 := l_neg hc 13 h_11 rfl
      have h_15 := l_neg hc 15 h_13 rfl
      have hw := hw.fixR 3 (r' := .box b2 [.slice p30 rv28.2.L.length k31, .int .i64 rv28.2.At] 60) rfl ((bF h_15).trans ((bF h_13).trans ((bF h_11).trans ((bF h_7).trans ((bF hi))))))
      have h_1 := hp 1 rfl
      refine S_eff rfl ?_
      have hs := hS.open_ (.v (t := 22) 1 rfl h_1 .nil)
      refine st_callR hs (made_Dice_Next_ok h45 hw.dom (hw.ownAt 3 rfl) (hw.boxS 3 rfl) (hw.envAt 0 rfl)) (do_call Try.call16 rfl) trivial rfl rfl ?_
      intro v110 Sv107 w a h108 h109 hs
      obtain ⟨p48, k49, rfl, h47, h50⟩ := h109
      have hw := hw.call1 3 rfl h108 h47
      have hw := hw.addE (e := SlA p48 rv46.2.L.length k49 rv46.2.L) h50
      have hw := hw.fixR 3 (r' := (bif l 15 then .box b2 [.slice p76 rv74.2.L.length k77, .int .i64 rv74.2.At] 60 else (bif l 13 then .box b2 [.slice p70 rv68.2.L.length k71, .int .i64 rv68.2.At] 60 else (bif l 11 then .box b2 [.slice p64 rv62.2.L.length k65, .int .i64 rv62.2.At] 60 else (bif l 7 then .box b2 [.slice p56 rv54.2.L.length k57, .int .i64 rv54.2.At] 60 else .box b2 [.slice p48 rv46.2.L.length k49, .int .i64 rv46.2.At] 60))))) rfl ((bF h_15).trans ((bF h_13).trans ((bF h_11).trans ((bF h_7))))).symm
      have hw := hw.opt 0 rfl true
      refine wpList_nil ?_
      refine then_normal ?_
      exact ⟨b52, b60, b79, k49, k57, k65, k71, k77, p48, p56, p64, p70, p76, Sv107, hS.close (.v (t := 22) 1 rfl h_1 .nil) hs rfl (.same (.same (.here (.same (.same (.same (.same (.same (.same (.same (.same (.same (.same (.same (.same (.same (.same (.same .nil)))))))))))))))))) 2 rfl, hw.ft [0, 1, 2, 3, 4, 5, 6] [2, 3, 4, 5, 6, 7, 8, 0, 10, 11, 12, 13, 14, 15, 16, 17] (by decide) rfl rfl⟩
    · intro l hi hp hc a w ⟨b52, b60, b79, k49, k57, k65, k71, k77, p48, p56, p64, p70, p76, S, hS, hw⟩
      have h_2 := hp 2 rfl
      refine S_val hS (.v (t := 23) 2 rfl h_2 .nil) rfl rfl trivial (y_mul rfl rfl) (rfl) 3 rfl fun a hS => ⟨b52, b60, b79, k49, k57, k65, k71, k77, p48, p56, p64, p70, p76, S, hS, hw⟩
    · intro l hi hp hc a w ⟨b52, b60, b79, k49, k57, k65, k71, k77, p48, p56, p64, p70, p76, S, hS, hw⟩
      have h_3 := hp 3 rfl
      refine S_val hS (.v (t := 24) 3 rfl h_3 .nil) rfl rfl trivial (y_add rfl rfl) (rfl) 4 rfl fun a hS => ⟨b52, b60, b79, k49, k57, k65, k71, k77, p48, p56, p64, p70, p76, S, hS, hw⟩
    · intro l hi hp hc a w ⟨b52, b60, b79, k49, k57, k65, k71, k77, p48, p56, p64, p70, p76, S, hS, hw⟩
      refine S_val hS (.b (t := 0) rfl .nil) rfl rfl trivial (y_move rfl) (rfl) 5 rfl fun a hS => ⟨b52, b60, b79, k49, k57, k65, k71, k77, p48, p56, p64, p70, p76, S, hS, hw⟩
    · intro l hi hp hc a w ⟨b52, b60, b79, k49, k57, k65, k71, k77, p48, p56, p64, p70, p76, S, hS, hw⟩
      refine S_eff rfl ?_
      have hs := hS.open_ .nil
      refine w_litSlice (α := Int) (vs := D10t3) (cs := D10t3) (xs := D10t4) hs hw El22 rfl rfl rfl rfl rfl rfl ⟨⟨_, rfl, rfl⟩, ⟨⟨_, rfl, rfl⟩, ⟨⟨_, rfl, rfl⟩, rfl⟩⟩⟩ rfl trivial rfl fun b52 a w hs hw => ?_
      have h_7 := l_neg hc 7 hi rfl
      have hw := hw.fixR 0 (r' := (bif l 7 then emp else .row (some ⟨b52, 0, none⟩) ([0, 0, 3] : List Int).length ([0, 0, 3] : List Int).length [.int .i64 0, .int .i64 0, .int .i64 3] 3 1)) rfl ((bF h_7)).symm
      have hw := hw.opt 0 rfl true
      have hw := hw.noL h_7 (SlA (some ⟨b52, 0, none⟩) ([0, 0, 3] : List Int).length ([0, 0, 3] : List Int).length ([0, 0, 3] : List Int))
      refine wpList_nil ?_
      refine then_normal ?_
      exact ⟨b52, b60, b79, k49, k57, k65, k71, k77, p48, p56, p64, p70, p76, S, hS.close .nil hs rfl (.same (.same (.same (.same (.same (.same (.here (.same (.same (.same (.same (.same (.same (.same (.same (.same (.same (.same .nil)))))))))))))))))) 6 rfl, hw.ft [1, 2, 3, 4, 0, 6, 7] [3, 4, 5, 6, 7, 8, 9, 10, 1, 0, 13, 14, 15, 16, 17, 18] (by decide) rfl rfl⟩
    · intro l hi hp hc a w ⟨b52, b60, b79, k49, k57, k65, k71, k77, p48, p56, p64, p70, p76, S, hS, hw⟩
      have h_11 := l_neg hc 11 hi rfl
      have h_13 := l_neg hc 13 h_11 rfl
      have h_15 := l_neg hc 15 h_13 rfl
      have h_2 := hp 2 rfl
      have hw := hw.fixR 3 (r' := .box b2 [.slice p48 rv46.2.L.length k49, .int .i64 rv46.2.At] 60) rfl ((bF h_15).trans ((bF h_13).trans ((bF h_11).trans ((bF hi).trans ((bT h_2))))))
      have h_6 := hp 6 rfl
      have hw := hw.fixR 4 (r' := .row (some ⟨b52, 0, none⟩) ([0, 0, 3] : List Int).length ([0, 0, 3] : List Int).length [.int .i64 0, .int .i64 0, .int .i64 3] 3 1) rfl ((bF hi).trans ((bT h_6)))
      have hw := hw.yes 7 rfl h_2
      have hw := hw.yes 9 rfl h_6
      have h_5 := hp 5 rfl
      refine S_eff rfl ?_
      have hs := hS.open_ (.v (t := 26) 5 rfl h_5 (.v (t := 27) 6 rfl h_6 .nil))
      obtain ⟨Sv116, hw⟩ := w_share (α := Int) hw 4 rfl 0 rfl (.inr ⟨3, _, _, _, rfl, rfl, rfl⟩)
      refine st_callR hs (made_Dice_Pick_ok h53 hw.dom (hw.ownAt 3 rfl) (hw.boxS 3 rfl) (hw.envAt 2 rfl) (hw.envAt 0 rfl)) (do_call Try.call36 rfl) trivial rfl rfl ?_
      intro v120 Sv117 w a h118 h119 hs
      obtain ⟨p56, k57, rfl, h55, h58⟩ := h119
      have hw := hw.call1 3 rfl h118 h55
      have hw := hw.addE (e := SlA p56 rv54.2.L.length k57 rv54.2.L) h58
      have hw := hw.fixR 3 (r' := (bif l 15 then .box b2 [.slice p76 rv74.2.L.length k77, .int .i64 rv74.2.At] 60 else (bif l 13 then .box b2 [.slice p70 rv68.2.L.length k71, .int .i64 rv68.2.At] 60 else (bif l 11 then .box b2 [.slice p64 rv62.2.L.length k65, .int .i64 rv62.2.At] 60 else .box b2 [.slice p56 rv54.2.L.length k57, .int .i64 rv54.2.At] 60)))) rfl ((bF h_15).trans ((bF h_13).trans ((bF h_11)))).symm
      have hw := hw.emp
      have hw := hw.opt 1 rfl true
      have hw := hw.opt 1 rfl true
      refine wpList_nil ?_
      refine then_normal ?_
      exact ⟨b52, b60, b79, k49, k57, k65, k71, k77, p48, p56, p64, p70, p76, Sv117, hS.close (.v (t := 26) 5 rfl h_5 (.v (t := 27) 6 rfl h_6 .nil)) hs rfl (.same (.same (.same (.same (.same (.same (.same (.here (.same (.same (.same (.same (.same (.same (.same (.same (.same (.same .nil)))))))))))))))))) 7 rfl, hw.ft [1, 2, 3, 4, 0, 5, 6] [6, 7, 8, 9, 10, 11, 12, 13, 14, 1, 0, 17, 18, 19, 20, 21] (by decide) rfl rfl⟩
    · intro l hi hp hc a w ⟨b52, b60, b79, k49, k57, k65, k71, k77, p48, p56, p64, p70, p76, S, hS, hw⟩
      refine S_val hS (.b (t := 7) rfl .nil) rfl rfl trivial (y_loadBA (hw.ownAt 0 rfl) rfl Try.isAgg30 Try.sizeOf30 rfl rfl) (rfl) 8 rfl fun a hS => ⟨b52, b60, b79, k49, k57, k65, k71, k77, p48, p56, p64, p70, p76, S, hS, hw⟩
    · intro l hi hp hc a w ⟨b52, b60, b79, k49, k57, k65, k71, k77, p48, p56, p64, p70, p76, S, hS, hw⟩
      refine S_val hS (.b (t := 0) rfl .nil) rfl rfl trivial (y_move rfl) (rfl) 9 rfl fun a hS => ⟨b52, b60, b79, k49, k57, k65, k71, k77, p48, p56, p64, p70, p76, S, hS, hw⟩
    · intro l hi hp hc a w ⟨b52, b60, b79, k49, k57, k65, k71, k77, p48, p56, p64, p70, p76, S, hS, hw⟩
      refine S_eff rfl ?_
      have hs := hS.open_ .nil
      refine w_litSlice (α := Int) (vs := D10t5) (cs := D10t5) (xs := D10t6) hs hw El22 rfl rfl rfl rfl rfl rfl ⟨⟨_, rfl, rfl⟩, ⟨⟨_, rfl, rfl⟩, ⟨⟨_, rfl, rfl⟩, ⟨⟨_, rfl, rfl⟩, rfl⟩⟩⟩⟩ rfl trivial rfl fun b60 a w hs hw => ?_
      have h_11 := l_neg hc 11 hi rfl
      have hw := hw.fixR 0 (r' := (bif l 11 then emp else .row (some ⟨b60, 0, none⟩) ([0, 0, 10, 500] : List Int).length ([0, 0, 10, 500] : List Int).length [.int .i64 0, .int .i64 0, .int .i64 10, .int .i64 500] 3 1)) rfl ((bF h_11)).symm
      have hw := hw.opt 0 rfl true
      have hw := hw.noL h_11 (SlA (some ⟨b60, 0, none⟩) ([0, 0, 10, 500] : List Int).length ([0, 0, 10, 500] : List Int).length ([0, 0, 10, 500] : List Int))
      refine wpList_nil ?_
      refine then_normal ?_
      exact ⟨b52, b60, b79, k49, k57, k65, k71, k77, p48, p56, p64, p70, p76, S, hS.close .nil hs rfl (.same (.same (.same (.same (.same (.same (.same (.same (.same (.same (.here (.same (.same (.same (.same (.same (.same (.same .nil)))))))))))))))))) 10 rfl, hw.ft [1, 2, 3, 4, 5, 0, 7] [3, 4, 5, 6, 7, 8, 9, 10, 11, 12, 13, 1, 0, 16, 17, 18] (by decide) rfl rfl⟩
    · intro l hi hp hc a w ⟨b52, b60, b79, k49, k57, k65, k71, k77, p48, p56, p64, p70, p76, S, hS, hw⟩
      have h_13 := l_neg hc 13 hi rfl
      have h_15 := l_neg hc 15 h_13 rfl
      have h_7 := hp 7 rfl
      have hw := hw.fixR 3 (r' := .box b2 [.slice p56 rv54.2.L.length k57, .int .i64 rv54.2.At] 60) rfl ((bF h_15).trans ((bF h_13).trans ((bF hi).trans ((bT h_7)))))
      have h_10 := hp 10 rfl
      have hw := hw.fixR 5 (r' := .row (some ⟨b60, 0, none⟩) ([0, 0, 10, 500] : List Int).length ([0, 0, 10, 500] : List Int).length [.int .i64 0, .int .i64 0, .int .i64 10, .int .i64 500] 3 1) rfl ((bF hi).trans ((bT h_10)))
      have hw := hw.yes 10 rfl h_7
      have hw := hw.yes 12 rfl h_10
      have h_9 := hp 9 rfl
      refine S_eff rfl ?_
      have hs := hS.open_ (.v (t := 30) 9 rfl h_9 (.v (t := 31) 10 rfl h_10 .nil))
      obtain ⟨Sv126, hw⟩ := w_share (α := Int) hw 5 rfl 0 rfl (.inr ⟨3, _, _, _, rfl, rfl, rfl⟩)
      refine st_callR hs (made_Dice_Pick_ok h61 hw.dom (hw.ownAt 3 rfl) (hw.boxS 3 rfl) (hw.envAt 2 rfl) (hw.envAt 0 rfl)) (do_call Try.call36 rfl) trivial rfl rfl ?_
      intro v130 Sv127 w a h128 h129 hs
      obtain ⟨p64, k65, rfl, h63, h66⟩ := h129
      have hw := hw.call1 3 rfl h128 h63
      have hw := hw.addE (e := SlA p64 rv62.2.L.length k65 rv62.2.L) h66
      have hw := hw.fixR 3 (r' := (bif l 15 then .box b2 [.slice p76 rv74.2.L.length k77, .int .i64 rv74.2.At] 60 else (bif l 13 then .box b2 [.slice p70 rv68.2.L.length k71, .int .i64 rv68.2.At] 60 else .box b2 [.slice p64 rv62.2.L.length k65, .int .i64 rv62.2.At] 60))) rfl ((bF h_15).trans ((bF h_13))).symm
      have hw := hw.emp
      have hw := hw.opt 1 rfl true
      have hw := hw.opt 1 rfl true
      refine wpList_nil ?_
      refine then_normal ?_
      exact ⟨b52, b60, b79, k49, k57, k65, k71, k77, p48, p56, p64, p70, p76, Sv127, hS.close (.v (t := 30) 9 rfl h_9 (.v (t := 31) 10 rfl h_10 .nil)) hs rfl (.same (.same (.same (.same (.same (.same (.same (.same (.same (.same (.same (.here (.same (.same (.same (.same (.same (.same .nil)))))))))))))))))) 11 rfl, hw.ft [1, 2, 3, 4, 5, 0, 6] [6, 7, 8, 9, 10, 11, 12, 13, 14, 15, 16, 17, 1, 0, 20, 21] (by decide) rfl rfl⟩
    · intro l hi hp hc a w ⟨b52, b60, b79, k49, k57, k65, k71, k77, p48, p56, p64, p70, p76, S, hS, hw⟩
      refine S_val hS (.b (t := 0) rfl .nil) rfl rfl trivial (y_move rfl) (rfl) 12 rfl fun a hS => ⟨b52, b60, b79, k49, k57, k65, k71, k77, p48, p56, p64, p70, p76, S, hS, hw⟩
    · intro l hi hp hc a w ⟨b52, b60, b79, k49, k57, k65, k71, k77, p48, p56, p64, p70, p76, S, hS, hw⟩
      have h_15 := l_neg hc 15 hi rfl
      have h_11 := hp 11 rfl
      have hw := hw.fixR 3 (r' := .box b2 [.slice p64 rv62.2.L.length k65, .int .i64 rv62.2.At] 60) rfl ((bF h_15).trans ((bF hi).trans ((bT h_11))))
      have hw := hw.yes 13 rfl h_11
      have h_12 := hp 12 rfl
      refine S_eff rfl ?_
      have hs := hS.open_ (.v (t := 33) 12 rfl h_12 .nil)
      refine st_callR hs (made_Dice_Next_ok h67 hw.dom (hw.ownAt 3 rfl) (hw.boxS 3 rfl) (hw.envAt 0 rfl)) (do_call Try.call16 rfl) trivial rfl rfl ?_
      intro v138 Sv135 w a h136 h137 hs
      obtain ⟨p70, k71, rfl, h69, h72⟩ := h137
      have hw := hw.call1 3 rfl h136 h69
      have hw := hw.addE (e := SlA p70 rv68.2.L.length k71 rv68.2.L) h72
      have hw := hw.fixR 3 (r' := (bif l 15 then .box b2 [.slice p76 rv74.2.L.length k77, .int .i64 rv74.2.At] 60 else .box b2 [.slice p70 rv68.2.L.length k71, .int .i64 rv68.2.At] 60)) rfl ((bF h_15)).symm
      have hw := hw.opt 0 rfl true
      refine wpList_nil ?_
      refine then_normal ?_
      exact ⟨b52, b60, b79, k49, k57, k65, k71, k77, p48, p56, p64, p70, p76, Sv135, hS.close (.v (t := 33) 12 rfl h_12 .nil) hs rfl (.same (.same (.same (.same (.same (.same (.same (.same (.same (.same (.same (.same (.same (.here (.same (.same (.same (.same .nil)))))))))))))))))) 13 rfl, hw.ft [0, 1, 2, 3, 4, 5, 6] [3, 4, 5, 6, 7, 8, 9, 10, 11, 12, 13, 14, 15, 16, 0, 18] (by decide) rfl rfl⟩
    · intro l hi hp hc a w ⟨b52, b60, b79, k49, k57, k65, k71, k77, p48, p56, p64, p70, p76, S, hS, hw⟩
      refine S_val hS (.b (t := 0) rfl .nil) rfl rfl trivial (y_move rfl) (rfl) 14 rfl fun a hS => ⟨b52, b60, b79, k49, k57, k65, k71, k77, p48, p56, p64, p70, p76, S, hS, hw⟩
    · intro l hi hp hc a w ⟨b52, b60, b79, k49, k57, k65, k71, k77, p48, p56, p64, p70, p76, S, hS, hw⟩
      have h_13 := hp 13 rfl
      have hw := hw.fixR 3 (r' := .box b2 [.slice p70 rv68.2.L.length k71, .int .i64 rv68.2.At] 60) rfl ((bF hi).trans ((bT h_13)))
      have hw := hw.yes 14 rfl h_13
      have h_14 := hp 14 rfl
      refine S_eff rfl ?_
      have hs := hS.open_ (.v (t := 35) 14 rfl h_14 .nil)
      refine st_callR hs (made_Dice_Next_ok h73 hw.dom (hw.ownAt 3 rfl) (hw.boxS 3 rfl) (hw.envAt 0 rfl)) (do_call Try.call16 rfl) trivial rfl rfl ?_
      intro v146 Sv143 w a h144 h145 hs
      obtain ⟨p76, k77, rfl, h75, h78⟩ := h145
      have hw := hw.call1 3 rfl h144 h75
      have hw := hw.addE (e := SlA p76 rv74.2.L.length k77 rv74.2.L) h78
      have hw := hw.opt 0 rfl true
      refine wpList_nil ?_
      refine then_normal ?_
      exact ⟨b52, b60, b79, k49, k57, k65, k71, k77, p48, p56, p64, p70, p76, Sv143, hS.close (.v (t := 35) 14 rfl h_14 .nil) hs rfl (.same (.same (.same (.same (.same (.same (.same (.same (.same (.same (.same (.same (.same (.same (.same (.here (.same (.same .nil)))))))))))))))))) 15 rfl, hw.ft [0, 1, 2, 3, 4, 5, 6] [3, 4, 5, 6, 7, 8, 9, 10, 11, 12, 13, 14, 15, 16, 17, 0] (by decide) rfl rfl⟩
    · intro l hi hp hc a w ⟨b52, b60, b79, k49, k57, k65, k71, k77, p48, p56, p64, p70, p76, S, hS, hw⟩
      have h_15 := hp 15 rfl
      have h_13 := hp 13 rfl
      have h_11 := hp 11 rfl
      have h_8 := hp 8 rfl
      have h_7 := hp 7 rfl
      have h_4 := hp 4 rfl
      have h_0 := hp 0 rfl
      refine S_val hS (.v (t := 21) 0 rfl h_0 (.v (t := 25) 4 rfl h_4 (.v (t := 28) 7 rfl h_7 (.v (t := 29) 8 rfl h_8 (.v (t := 32) 11 rfl h_11 (.v (t := 34) 13 rfl h_13 (.v (t := 36) 15 rfl h_15 .nil))))))) rfl rfl trivial (y_build (vs := [(0, .agg #[.string s8.Network, .string s8.Station, .string s8.Location, .string s8.Channel]), (1, .int .i64 (w64 (1000000000000 + (w64 (250000 * rv46.1))))), (2, .int .i64 rv54.1), (3, .agg #[.int .i64 rv39.1.Num, .int .i64 rv39.1.Den]), (4, .int .i64 rv62.1), (5, .int .i64 rv68.1), (6, .int .i64 rv74.1)]) Bld32 rfl rfl) (rfl) 16 rfl fun a hS => ⟨b52, b60, b79, k49, k57, k65, k71, k77, p48, p56, p64, p70, p76, S, hS, hw⟩
    · intro l hi hp hc a w ⟨b52, b60, b79, k49, k57, k65, k71, k77, p48, p56, p64, p70, p76, S, hS, hw⟩
      refine S_eff rfl ?_
      have hs := hS.open_ .nil
      refine w_alloc (cs := [.string ByteArray.empty, .string ByteArray.empty, .string ByteArray.empty, .string ByteArray.empty, .int .i64 0, .int .i64 0, .int .i64 0, .int .i64 0, .int .i64 0, .int .i64 0, .int .i64 0, .slice none ([] : List Int).length 0]) hs hw Try.zeroValue32 rfl rfl trivial ?_
      intro b79 a w hs hw
      have h_18 := l_neg hc 18 hi rfl
      have hw := hw.fixR 0 (r' := (bif l 18 then .box b79 [.string s8.Network, .string s8.Station, .string s8.Location, .string s8.Channel, .int .i64 (w64 (1000000000000 + (w64 (250000 * rv46.1)))), .int .i64 rv54.1, .int .i64 rv39.1.Num, .int .i64 rv39.1.Den, .int .i64 rv62.1, .int .i64 rv68.1, .int .i64 rv74.1, .slice none ([] : List Int).length 0] 32 else .box b79 [.string ByteArray.empty, .string ByteArray.empty, .string ByteArray.empty, .string ByteArray.empty, .int .i64 0, .int .i64 0, .int .i64 0, .int .i64 0, .int .i64 0, .int .i64 0, .int .i64 0, .slice none ([] : List Int).length 0] 32)) rfl ((bF h_18)).symm
      refine wpList_nil ?_
      refine then_normal ?_
      exact ⟨b52, b60, b79, k49, k57, k65, k71, k77, p48, p56, p64, p70, p76, S, hS.close .nil hs rfl (.same (.same (.same (.same (.same (.same (.same (.same (.same (.same (.same (.same (.same (.same (.same (.same (.same (.here .nil)))))))))))))))))) 17 rfl, hw.ft [1, 2, 3, 4, 5, 6, 0] [0, 1, 2, 3, 4, 5, 6, 7, 8, 9, 10, 11, 12, 13, 14, 15] (by decide) rfl rfl⟩
    · intro l hi hp hc a w ⟨b52, b60, b79, k49, k57, k65, k71, k77, p48, p56, p64, p70, p76, S, hS, hw⟩
      have h_17 := hp 17 rfl
      have hw := hw.fixR 6 (r' := .box b79 [.string ByteArray.empty, .string ByteArray.empty, .string ByteArray.empty, .string ByteArray.empty, .int .i64 0, .int .i64 0, .int .i64 0, .int .i64 0, .int .i64 0, .int .i64 0, .int .i64 0, .slice none ([] : List Int).length 0] 32) rfl ((bF hi).trans ((bT h_17)))
      have h_16 := hp 16 rfl
      refine S_eff rfl ?_
      have hs := hS.open_ (.v (t := 9) 17 rfl h_17 (.v (t := 37) 16 rfl h_16 .nil))
      refine w_store (m := 12) (cs' := [.string s8.Network, .string s8.Station, .string s8.Location, .string s8.Channel, .int .i64 (w64 (1000000000000 + (w64 (250000 * rv46.1)))), .int .i64 rv54.1, .int .i64 rv39.1.Num, .int .i64 rv39.1.Den, .int .i64 rv62.1, .int .i64 rv68.1, .int .i64 rv74.1, .slice none ([] : List Int).length 0]) hs hw 6 rfl rfl rfl Try.sizeOf32 rfl rfl rfl rfl trivial ?_
      intro a w hs hw
      refine wpList_nil ?_
      refine then_normal ?_
      exact ⟨b52, b60, b79, k49, k57, k65, k71, k77, p48, p56, p64, p70, p76, S, hS.close0 (.v (t := 9) 17 rfl h_17 (.v (t := 37) 16 rfl h_16 .nil)) hs rfl, hw.ft [0, 1, 2, 3, 4, 5, 6] [0, 1, 2, 3, 4, 5, 6, 7, 8, 9, 10, 11, 12, 13, 14, 15] (by decide) rfl rfl⟩
    · intro l a w hl ⟨b52, b60, b79, k49, k57, k65, k71, k77, p48, p56, p64, p70, p76, S, hS, hw⟩
      have hw := hw.yes 15 rfl (hl 15 (by decide))
      have hw := hw.fixR 3 (r' := .box b2 [.slice p76 rv74.2.L.length k77, .int .i64 rv74.2.At] 60) rfl (bT (hl 15 (by decide)))
      have hw := hw.fixR 6 (r' := .box b79 [.string s8.Network, .string s8.Station, .string s8.Location, .string s8.Channel, .int .i64 (w64 (1000000000000 + (w64 (250000 * rv46.1)))), .int .i64 rv54.1, .int .i64 rv39.1.Num, .int .i64 rv39.1.Den, .int .i64 rv62.1, .int .i64 rv68.1, .int .i64 rv74.1, .slice none ([] : List Int).length 0] 32) rfl (bT (hl 18 (by decide)))
      have hs := hS.on (.b (t := 0) rfl (.b (t := 2) rfl (.b (t := 6) rfl (.v (t := 9) 17 rfl (hl 17 (by decide)) .nil))))
      have hw := hw.addE (e := SlA (α := Int) none 0 0 []) nil_sl
      exact ⟨S, b79, k77, p76, (hs.wk rfl), (hw.ft [3, 1, 6] [1, 0] (by decide) rfl rfl)⟩
  · rintro a w ⟨Sv80, b79, k77, p76, hs, hw⟩
    refine then_normal ?_
    refine wp_seq ?_
    refine wp_seq ?_
    refine wp_region_lit ?_
    refine st_val hs (y_move rfl) trivial rfl rfl fun a hs => ?_
    refine st_val hs (y_move rfl) trivial rfl rfl fun a hs => ?_
    obtain ⟨rv148, h147, hsh⟩ := bind_t hsh
    refine st_callR hs (made_Dice_Next_ok h147 hw.dom (hw.ownAt 0 rfl) (hw.boxS 0 rfl) (hw.envAt 0 rfl)) (do_call Try.call16 rfl) trivial rfl rfl ?_
    intro v156 Sv153 w a h154 h155 hs
    obtain ⟨p150, k151, rfl, h149, h152⟩ := h155
    have hw := hw.call1 0 rfl h154 h149
    have hw := hw.addE (e := SlA p150 rv148.2.L.length k151 rv148.2.L) h152
    refine st_val hs (y_add rfl rfl) trivial rfl rfl fun a hs => ?_
    obtain ⟨i158, h157, hsh⟩ := bind_t hsh
    refine st_val hs (y_assignI rfl h157) trivial rfl rfl fun a hs => ?_
    refine wpList_nil ?_
    refine then_normal ?_
    obtain ⟨e226, h274, hsh⟩ := bind_t hsh
    refine wp_join (fun a w => ∃ (p227 : Option Addr) (k228 : Nat) (p229 : Option Addr) (k230 : Nat) (c231 : List Value) (Sv232 : Nat → Prop), Sl 54 [(6, .pointer (some ⟨b11, 0, none⟩)), (9, .pointer (some ⟨b79, 0, none⟩))] a ∧ Wd ⟨w0, S0, [b2]⟩ Sv232 [.box b2 [.slice p227 e226.1.length k228, .int .i64 e226.2.1] 60, .box b11 [.string ByteArray.empty, .string ByteArray.empty, .string ByteArray.empty, .string ByteArray.empty, .int .i64 0, .int .i64 0, .int .i64 0, .int .i64 0, .int .i64 0, .int .i64 0, .int .i64 0, .slice none ([] : List Int).length 0] 32, .box b79 [.string s8.Network, .string s8.Station, .string s8.Location, .string s8.Channel, .int .i64 (w64 (1000000000000 + (w64 (250000 * rv46.1)))), .int .i64 rv54.1, .int .i64 rv39.1.Num, .int .i64 rv39.1.Den, .int .i64 rv62.1, .int .i64 rv68.1, .int .i64 rv74.1, .slice p229 e226.2.2.length k230] 32, .row p229 e226.2.2.length k230 c231 3 1] [SlA p227 e226.1.length k228 e226.1, SlA none ([] : List Int).length 0 ([] : List Int), RowA c231 e226.2.2] w) ?_ ?_
    · refine wp_block ?_
      have hw := hw.nilRow Int 3
      refine wp_while (fun sv159 a w => ∃ (p200 : Option Addr) (k201 : Nat) (p202 : Option Addr) (k203 : Nat) (c204 : List Value) (Sv205 : Nat → Prop), Sl 54 [(0, .pointer (some ⟨b2, 0, none⟩)), (6, .pointer (some ⟨b11, 0, none⟩)), (9, .pointer (some ⟨b79, 0, none⟩)), (10, .int .i64 sv159.2.2.2)] a ∧ Wd ⟨w0, S0, [b2]⟩ Sv205 [.box b2 [.slice p200 sv159.1.length k201, .int .i64 sv159.2.1] 60, .box b11 [.string ByteArray.empty, .string ByteArray.empty, .string ByteArray.empty, .string ByteArray.empty, .int .i64 0, .int .i64 0, .int .i64 0, .int .i64 0, .int .i64 0, .int .i64 0, .int .i64 0, .slice none ([] : List Int).length 0] 32, .box b79 [.string s8.Network, .string s8.Station, .string s8.Location, .string s8.Channel, .int .i64 (w64 (1000000000000 + (w64 (250000 * rv46.1)))), .int .i64 rv54.1, .int .i64 rv39.1.Num, .int .i64 rv39.1.Den, .int .i64 rv62.1, .int .i64 rv68.1, .int .i64 rv74.1, .slice p202 sv159.2.2.1.length k203] 32, .row p202 sv159.2.2.1.length k203 c204 3 1] [SlA p200 sv159.1.length k201 sv159.1, SlA none ([] : List Int).length 0 ([] : List Int), RowA c204 sv159.2.2.1] w) (rv148.2.L, rv148.2.At, ([] : List Int), i158) h274 ⟨p150, k151, none, 0, [], Sv153, (hs.wk rfl), (hw.ft [1, 2, 3, 0] [1, 3, 0] (by decide) rfl rfl)⟩ ?_
      clear h274
      repeat clear hsh
      rintro sv159 a w tv224 ⟨p200, k201, p202, k203, c204, Sv205, hs, hw⟩ hsh hd223
      delta made_Dice_Record_l1 at hsh
      refine wp_seq ?_
      refine wp_seq ?_
      refine wp_region_lit ?_
      refine st_val hs (y_move rfl) trivial rfl rfl fun a hs => ?_
      refine st_val hs (y_gtr rfl rfl) trivial rfl rfl fun a hs => ?_
      refine wpList_nil ?_
      refine then_normal ?_
      refine wp_cond_split (hs.ev rfl) (fun h234 => ?_) (fun h234 => ?_)
      · have hsh := ite_t hsh h234
        refine wp_skip ?_
        refine then_normal ?_
        refine wp_seq ?_
        refine wp_block ?_
        obtain ⟨rv250, h249, hsh⟩ := bind_t hsh
        obtain ⟨l258, h257, hsh⟩ := bind_t hsh
        refine wp_only (fun a w => ∃ (Sv262 : Nat → Prop) (c261 : List Value) (k253 : Nat) (k260 : Nat) (p252 : Option Addr) (p259 : Option Addr), Sl 54 [(0, .pointer (some ⟨b2, 0, none⟩)), (6, .pointer (some ⟨b11, 0, none⟩)), (9, .pointer (some ⟨b79, 0, none⟩)), (10, .int .i64 sv159.2.2.2)] a ∧ Wd ⟨w0, S0, [b2]⟩ Sv262 [.box b2 [.slice p252 rv250.2.L.length k253, .int .i64 rv250.2.At] 60, .box b11 [.string ByteArray.empty, .string ByteArray.empty, .string ByteArray.empty, .string ByteArray.empty, .int .i64 0, .int .i64 0, .int .i64 0, .int .i64 0, .int .i64 0, .int .i64 0, .int .i64 0, .slice none ([] : List Int).length 0] 32, .box b79 [.string s8.Network, .string s8.Station, .string s8.Location, .string s8.Channel, .int .i64 (w64 (1000000000000 + (w64 (250000 * rv46.1)))), .int .i64 rv54.1, .int .i64 rv39.1.Num, .int .i64 rv39.1.Den, .int .i64 rv62.1, .int .i64 rv68.1, .int .i64 rv74.1, .slice p259 l258.length k260] 32, .row p259 l258.length k260 c261 3 1] [SlA p252 rv250.2.L.length k253 rv250.2.L, SlA none ([] : List Int).length 0 ([] : List Int), RowA c261 l258] w) ?_ ?_
        · refine h_begin (C := Cls [.box b11 [.string ByteArray.empty, .string ByteArray.empty, .string ByteArray.empty, .string ByteArray.empty, .int .i64 0, .int .i64 0, .int .i64 0, .int .i64 0, .int .i64 0, .int .i64 0, .int .i64 0, .slice none ([] : List Int).length 0] 32] []) (by kernel_rfl) rfl ?_
          have hw := hw.drew
          have hC : Cls [.box b11 [.string ByteArray.empty, .string ByteArray.empty, .string ByteArray.empty, .string ByteArray.empty, .int .i64 0, .int .i64 0, .int .i64 0, .int .i64 0, .int .i64 0, .int .i64 0, .int .i64 0, .slice none ([] : List Int).length 0] 32] [] _ := hw.cs [1] [] rfl rfl
          refine h_get hs (i := 0) rfl (by kernel_rfl) rfl rfl hC rfl (fun w hC => y_fieldAddr (o' := 11) Try.runUnderlying32 rfl Try.sizeOf22 rfl rfl rfl) fun a hs => ?_
          refine h_get hs (i := 2) rfl (by kernel_rfl) rfl rfl hC rfl (fun w hC => y_move rfl) fun a hs => ?_
          refine h_all (rs := [1, 3]) (by kernel_rfl) rfl ?_
          refine AllH.cons rfl ?_ ?_
          · refine st_val hs (y_loadB1 (hw.ownAt 2 rfl) rfl Try.isAgg22 rfl) trivial rfl rfl fun a hs => ?_
            refine wpList_nil ?_
            refine then_normal ?_
            have hC : Cls [.box b11 [.string ByteArray.empty, .string ByteArray.empty, .string ByteArray.empty, .string ByteArray.empty, .int .i64 0, .int .i64 0, .int .i64 0, .int .i64 0, .int .i64 0, .int .i64 0, .int .i64 0, .slice none ([] : List Int).length 0] 32] [] _ := hw.cs [1] [] rfl rfl
            refine ⟨hC, ?_⟩
            refine h_all (rs := [3]) (by kernel_rfl) rfl ?_
            refine AllH.cons rfl ?_ ?_
            · refine st_callR hs (made_Dice_Next_ok h249 hw.dom (hw.ownAt 0 rfl) (hw.boxS 0 rfl) (hw.envAt 0 rfl)) (do_call Try.call16 rfl) trivial rfl rfl ?_
              intro v266 Sv263 w a h264 h265 hs
              obtain ⟨p252, k253, rfl, h251, h254⟩ := h265
              have hw := hw.call1 0 rfl h264 h251
              have hw := hw.addE (e := SlA p252 rv250.2.L.length k253 rv250.2.L) h254
              refine wpList_nil ?_
              refine then_normal ?_
              have hC : Cls [.box b11 [.string ByteArray.empty, .string ByteArray.empty, .string ByteArray.empty, .string ByteArray.empty, .int .i64 0, .int .i64 0, .int .i64 0, .int .i64 0, .int .i64 0, .int .i64 0, .int .i64 0, .slice none ([] : List Int).length 0] 32] [] _ := hw.cs [1] [] rfl rfl
              refine ⟨hC, ?_⟩
              refine h_all (rs := [4]) (by kernel_rfl) rfl ?_
              refine AllH.cons rfl ?_ ?_
              · refine w_litSlice (α := Int) (vs := [.int .i64 rv250.1]) (cs := [.int .i64 rv250.1]) (xs := ([rv250.1] : List Int)) hs hw El22 rfl rfl rfl rfl rfl rfl ⟨⟨_, rfl, rfl⟩, rfl⟩ rfl trivial rfl fun b256 a w hs hw => ?_
                refine wpList_nil ?_
                refine then_normal ?_
                have hC : Cls [.box b11 [.string ByteArray.empty, .string ByteArray.empty, .string ByteArray.empty, .string ByteArray.empty, .int .i64 0, .int .i64 0, .int .i64 0, .int .i64 0, .int .i64 0, .int .i64 0, .int .i64 0, .slice none ([] : List Int).length 0] 32] [] _ := hw.cs [2] [] rfl rfl
                refine ⟨hC, ?_⟩
                refine h_strong (C' := Cls [.box b11 [.string ByteArray.empty, .string ByteArray.empty, .string ByteArray.empty, .string ByteArray.empty, .int .i64 0, .int .i64 0, .int .i64 0, .int .i64 0, .int .i64 0, .int .i64 0, .int .i64 0, .slice none ([] : List Int).length 0] 32, .row (some ⟨b256, 0, none⟩) ([rv250.1] : List Int).length ([rv250.1] : List Int).length [.int .i64 rv250.1] 3 1] []) (fun _ h => by exact h.sub [0] (Sel.of rfl) (AllIn.of [] rfl)) ?_
                have hC : Cls [.box b11 [.string ByteArray.empty, .string ByteArray.empty, .string ByteArray.empty, .string ByteArray.empty, .int .i64 0, .int .i64 0, .int .i64 0, .int .i64 0, .int .i64 0, .int .i64 0, .int .i64 0, .slice none ([] : List Int).length 0] 32, .row (some ⟨b256, 0, none⟩) ([rv250.1] : List Int).length ([rv250.1] : List Int).length [.int .i64 rv250.1] 3 1] [] _ := hw.cs [2, 0] [] rfl rfl
                refine h_all (rs := [5]) (by kernel_rfl) rfl ?_
                refine AllH.cons rfl ?_ ?_
                · refine w_appendR (α := Int) hs hw El22 4 rfl rfl rfl 4 rfl 0 rfl 0 rfl h257 rfl trivial ?_
                  intro p259 k260 c261 a w hs hw
                  refine wpList_nil ?_
                  refine then_normal ?_
                  have hC : Cls [.box b11 [.string ByteArray.empty, .string ByteArray.empty, .string ByteArray.empty, .string ByteArray.empty, .int .i64 0, .int .i64 0, .int .i64 0, .int .i64 0, .int .i64 0, .int .i64 0, .int .i64 0, .slice none ([] : List Int).length 0] 32, .row (some ⟨b256, 0, none⟩) ([rv250.1] : List Int).length ([rv250.1] : List Int).length [.int .i64 rv250.1] 3 1] [] _ := hw.cs [2, 0] [] rfl rfl
                  refine ⟨hC, ?_⟩
                  refine h_get hs (i := 6) rfl (by kernel_rfl) rfl rfl hC rfl (fun w hC => y_fieldAddr (o' := 11) Try.runUnderlying32 rfl Try.sizeOf22 rfl rfl rfl) fun a hs => ?_
                  refine h_all (rs := [7]) (by kernel_rfl) rfl ?_
                  refine AllH.cons rfl ?_ ?_
                  · refine w_store (m := 1) (cs' := [.string s8.Network, .string s8.Station, .string s8.Location, .string s8.Channel, .int .i64 (w64 (1000000000000 + (w64 (250000 * rv46.1)))), .int .i64 rv54.1, .int .i64 rv39.1.Num, .int .i64 rv39.1.Den, .int .i64 rv62.1, .int .i64 rv68.1, .int .i64 rv74.1, .slice p259 l258.length k260]) hs hw 3 rfl rfl rfl Try.sizeOf22 rfl rfl rfl rfl trivial ?_
                    intro a w hs hw
                    refine wpList_nil ?_
                    refine then_normal ?_
                    have hC : Cls [.box b11 [.string ByteArray.empty, .string ByteArray.empty, .string ByteArray.empty, .string ByteArray.empty, .int .i64 0, .int .i64 0, .int .i64 0, .int .i64 0, .int .i64 0, .int .i64 0, .int .i64 0, .slice none ([] : List Int).length 0] 32, .row (some ⟨b256, 0, none⟩) ([rv250.1] : List Int).length ([rv250.1] : List Int).length [.int .i64 rv250.1] 3 1] [] _ := hw.cs [2, 0] [] rfl rfl
                    refine ⟨hC, ?_⟩
                    refine h_done (by kernel_rfl) ?_
                    exact ⟨Sv263, c261, k253, k260, p252, p259, (hs.wk rfl), (hw.ft [1, 2, 3, 4] [2, 4, 0] (by decide) rfl rfl)⟩
                  exact AllH.nil
                exact AllH.nil
              exact AllH.nil
            exact AllH.nil
          refine AllH.cons rfl ?_ ?_
          · refine st_callR hs (made_Dice_Next_ok h249 hw.dom (hw.ownAt 0 rfl) (hw.boxS 0 rfl) (hw.envAt 0 rfl)) (do_call Try.call16 rfl) trivial rfl rfl ?_
            intro v270 Sv267 w a h268 h269 hs
            obtain ⟨p252, k253, rfl, h251, h254⟩ := h269
            have hw := hw.call1 0 rfl h268 h251
            have hw := hw.addE (e := SlA p252 rv250.2.L.length k253 rv250.2.L) h254
            refine wpList_nil ?_
            refine then_normal ?_
            have hC : Cls [.box b11 [.string ByteArray.empty, .string ByteArray.empty, .string ByteArray.empty, .string ByteArray.empty, .int .i64 0, .int .i64 0, .int .i64 0, .int .i64 0, .int .i64 0, .int .i64 0, .int .i64 0, .slice none ([] : List Int).length 0] 32] [] _ := hw.cs [1] [] rfl rfl
            refine ⟨hC, ?_⟩
            refine h_all (rs := [1, 4]) (by kernel_rfl) rfl ?_
            refine AllH.cons rfl ?_ ?_
            · refine st_val hs (y_loadB1 (hw.ownAt 2 rfl) rfl Try.isAgg22 rfl) trivial rfl rfl fun a hs => ?_
              refine wpList_nil ?_
              refine then_normal ?_
              have hC : Cls [.box b11 [.string ByteArray.empty, .string ByteArray.empty, .string ByteArray.empty, .string ByteArray.empty, .int .i64 0, .int .i64 0, .int .i64 0, .int .i64 0, .int .i64 0, .int .i64 0, .int .i64 0, .slice none ([] : List Int).length 0] 32] [] _ := hw.cs [1] [] rfl rfl
              refine ⟨hC, ?_⟩
              refine h_all (rs := [4]) (by kernel_rfl) rfl ?_
              refine AllH.cons rfl ?_ ?_
              · refine w_litSlice (α := Int) (vs := [.int .i64 rv250.1]) (cs := [.int .i64 rv250.1]) (xs := ([rv250.1] : List Int)) hs hw El22 rfl rfl rfl rfl rfl rfl ⟨⟨_, rfl, rfl⟩, rfl⟩ rfl trivial rfl fun b256 a w hs hw => ?_
                refine wpList_nil ?_
                refine then_normal ?_
                have hC : Cls [.box b11 [.string ByteArray.empty, .string ByteArray.empty, .string ByteArray.empty, .string ByteArray.empty, .int .i64 0, .int .i64 0, .int .i64 0, .int .i64 0, .int .i64 0, .int .i64 0, .int .i64 0, .slice none ([] : List Int).length 0] 32] [] _ := hw.cs [2] [] rfl rfl
                refine ⟨hC, ?_⟩
                refine h_strong (C' := Cls [.box b11 [.string ByteArray.empty, .string ByteArray.empty, .string ByteArray.empty, .string ByteArray.empty, .int .i64 0, .int .i64 0, .int .i64 0, .int .i64 0, .int .i64 0, .int .i64 0, .int .i64 0, .slice none ([] : List Int).length 0] 32, .row (some ⟨b256, 0, none⟩) ([rv250.1] : List Int).length ([rv250.1] : List Int).length [.int .i64 rv250.1] 3 1] []) (fun _ h => by exact h.sub [0] (Sel.of rfl) (AllIn.of [] rfl)) ?_
                have hC : Cls [.box b11 [.string ByteArray.empty, .string ByteArray.empty, .string ByteArray.empty, .string ByteArray.empty, .int .i64 0, .int .i64 0, .int .i64 0, .int .i64 0, .int .i64 0, .int .i64 0, .int .i64 0, .slice none ([] : List Int).length 0] 32, .row (some ⟨b256, 0, none⟩) ([rv250.1] : List Int).length ([rv250.1] : List Int).length [.int .i64 rv250.1] 3 1] [] _ := hw.cs [2, 0] [] rfl rfl
                refine h_all (rs := [5]) (by kernel_rfl) rfl ?_
                refine AllH.cons rfl ?_ ?_
                · refine w_appendR (α := Int) hs hw El22 4 rfl rfl rfl 4 rfl 0 rfl 0 rfl h257 rfl trivial ?_
                  intro p259 k260 c261 a w hs hw
                  refine wpList_nil ?_
                  refine then_normal ?_
                  have hC : Cls [.box b11 [.string ByteArray.empty, .string ByteArray.empty, .string ByteArray.empty, .string ByteArray.empty, .int .i64 0, .int .i64 0, .int .i64 0, .int .i64 0, .int .i64 0, .int .i64 0, .int .i64 0, .slice none ([] : List Int).length 0] 32, .row (some ⟨b256, 0, none⟩) ([rv250.1] : List Int).length ([rv250.1] : List Int).length [.int .i64 rv250.1] 3 1] [] _ := hw.cs [2, 0] [] rfl rfl
                  refine ⟨hC, ?_⟩
                  refine h_get hs (i := 6) rfl (by kernel_rfl) rfl rfl hC rfl (fun w hC => y_fieldAddr (o' := 11) Try.runUnderlying32 rfl Try.sizeOf22 rfl rfl rfl) fun a hs => ?_
                  refine h_all (rs := [7]) (by kernel_rfl) rfl ?_
                  refine AllH.cons rfl ?_ ?_
                  · refine w_store (m := 1) (cs' := [.string s8.Network, .string s8.Station, .string s8.Location, .string s8.Channel, .int .i64 (w64 (1000000000000 + (w64 (250000 * rv46.1)))), .int .i64 rv54.1, .int .i64 rv39.1.Num, .int .i64 rv39.1.Den, .int .i64 rv62.1, .int .i64 rv68.1, .int .i64 rv74.1, .slice p259 l258.length k260]) hs hw 3 rfl rfl rfl Try.sizeOf22 rfl rfl rfl rfl trivial ?_
                    intro a w hs hw
                    refine wpList_nil ?_
                    refine then_normal ?_
                    have hC : Cls [.box b11 [.string ByteArray.empty, .string ByteArray.empty, .string ByteArray.empty, .string ByteArray.empty, .int .i64 0, .int .i64 0, .int .i64 0, .int .i64 0, .int .i64 0, .int .i64 0, .int .i64 0, .slice none ([] : List Int).length 0] 32, .row (some ⟨b256, 0, none⟩) ([rv250.1] : List Int).length ([rv250.1] : List Int).length [.int .i64 rv250.1] 3 1] [] _ := hw.cs [2, 0] [] rfl rfl
                    refine ⟨hC, ?_⟩
                    refine h_done (by kernel_rfl) ?_
                    exact ⟨Sv267, c261, k253, k260, p252, p259, (hs.wk rfl), (hw.ft [1, 2, 3, 4] [2, 4, 0] (by decide) rfl rfl)⟩
                  exact AllH.nil
                exact AllH.nil
              exact AllH.nil
            refine AllH.cons rfl ?_ ?_
            · refine w_litSlice (α := Int) (vs := [.int .i64 rv250.1]) (cs := [.int .i64 rv250.1]) (xs := ([rv250.1] : List Int)) hs hw El22 rfl rfl rfl rfl rfl rfl ⟨⟨_, rfl, rfl⟩, rfl⟩ rfl trivial rfl fun b256 a w hs hw => ?_
              refine wpList_nil ?_
              refine then_normal ?_
              have hC : Cls [.box b11 [.string ByteArray.empty, .string ByteArray.empty, .string ByteArray.empty, .string ByteArray.empty, .int .i64 0, .int .i64 0, .int .i64 0, .int .i64 0, .int .i64 0, .int .i64 0, .int .i64 0, .slice none ([] : List Int).length 0] 32] [] _ := hw.cs [2] [] rfl rfl
              refine ⟨hC, ?_⟩
              refine h_strong (C' := Cls [.box b11 [.string ByteArray.empty, .string ByteArray.empty, .string ByteArray.empty, .string ByteArray.empty, .int .i64 0, .int .i64 0, .int .i64 0, .int .i64 0, .int .i64 0, .int .i64 0, .int .i64 0, .slice none ([] : List Int).length 0] 32, .row (some ⟨b256, 0, none⟩) ([rv250.1] : List Int).length ([rv250.1] : List Int).length [.int .i64 rv250.1] 3 1] []) (fun _ h => by exact h.sub [0] (Sel.of rfl) (AllIn.of [] rfl)) ?_
              have hC : Cls [.box b11 [.string ByteArray.empty, .string ByteArray.empty, .string ByteArray.empty, .string ByteArray.empty, .int .i64 0, .int .i64 0, .int .i64 0, .int .i64 0, .int .i64 0, .int .i64 0, .int .i64 0, .slice none ([] : List Int).length 0] 32, .row (some ⟨b256, 0, none⟩) ([rv250.1] : List Int).length ([rv250.1] : List Int).length [.int .i64 rv250.1] 3 1] [] _ := hw.cs [2, 0] [] rfl rfl
              refine h_all (rs := [1]) (by kernel_rfl) rfl ?_
              refine AllH.cons rfl ?_ ?_
              · refine st_val hs (y_loadB1 (hw.ownAt 3 rfl) rfl Try.isAgg22 rfl) trivial rfl rfl fun a hs => ?_
                refine wpList_nil ?_
                refine then_normal ?_
                have hC : Cls [.box b11 [.string ByteArray.empty, .string ByteArray.empty, .string ByteArray.empty, .string ByteArray.empty, .int .i64 0, .int .i64 0, .int .i64 0, .int .i64 0, .int .i64 0, .int .i64 0, .int .i64 0, .slice none ([] : List Int).length 0] 32, .row (some ⟨b256, 0, none⟩) ([rv250.1] : List Int).length ([rv250.1] : List Int).length [.int .i64 rv250.1] 3 1] [] _ := hw.cs [2, 0] [] rfl rfl
                refine ⟨hC, ?_⟩
                refine h_all (rs := [5]) (by kernel_rfl) rfl ?_
                refine AllH.cons rfl ?_ ?_
                · refine w_appendR (α := Int) hs hw El22 4 rfl rfl rfl 4 rfl 0 rfl 0 rfl h257 rfl trivial ?_
                  intro p259 k260 c261 a w hs hw
                  refine wpList_nil ?_
                  refine then_normal ?_
                  have hC : Cls [.box b11 [.string ByteArray.empty, .string ByteArray.empty, .string ByteArray.empty, .string ByteArray.empty, .int .i64 0, .int .i64 0, .int .i64 0, .int .i64 0, .int .i64 0, .int .i64 0, .int .i64 0, .slice none ([] : List Int).length 0] 32, .row (some ⟨b256, 0, none⟩) ([rv250.1] : List Int).length ([rv250.1] : List Int).length [.int .i64 rv250.1] 3 1] [] _ := hw.cs [2, 0] [] rfl rfl
                  refine ⟨hC, ?_⟩
                  refine h_get hs (i := 6) rfl (by kernel_rfl) rfl rfl hC rfl (fun w hC => y_fieldAddr (o' := 11) Try.runUnderlying32 rfl Try.sizeOf22 rfl rfl rfl) fun a hs => ?_
                  refine h_all (rs := [7]) (by kernel_rfl) rfl ?_
                  refine AllH.cons rfl ?_ ?_
                  · refine w_store (m := 1) (cs' := [.string s8.Network, .string s8.Station, .string s8.Location, .string s8.Channel, .int .i64 (w64 (1000000000000 + (w64 (250000 * rv46.1)))), .int .i64 rv54.1, .int .i64 rv39.1.Num, .int .i64 rv39.1.Den, .int .i64 rv62.1, .int .i64 rv68.1, .int .i64 rv74.1, .slice p259 l258.length k260]) hs hw 3 rfl rfl rfl Try.sizeOf22 rfl rfl rfl rfl trivial ?_
                    intro a w hs hw
                    refine wpList_nil ?_
                    refine then_normal ?_
                    have hC : Cls [.box b11 [.string ByteArray.empty, .string ByteArray.empty, .string ByteArray.empty, .string ByteArray.empty, .int .i64 0, .int .i64 0, .int .i64 0, .int .i64 0, .int .i64 0, .int .i64 0, .int .i64 0, .slice none ([] : List Int).length 0] 32, .row (some ⟨b256, 0, none⟩) ([rv250.1] : List Int).length ([rv250.1] : List Int).length [.int .i64 rv250.1] 3 1] [] _ := hw.cs [2, 0] [] rfl rfl
                    refine ⟨hC, ?_⟩
                    refine h_done (by kernel_rfl) ?_
                    exact ⟨Sv267, c261, k253, k260, p252, p259, (hs.wk rfl), (hw.ft [1, 2, 3, 4] [2, 4, 0] (by decide) rfl rfl)⟩
                  exact AllH.nil
                exact AllH.nil
              exact AllH.nil
            exact AllH.nil
          exact AllH.nil
        · rintro a w ⟨Sv262, c261, k253, k260, p252, p259, hs, hw⟩
          refine blk_normal ?_
          refine then_normal ?_
          refine wp_region_lit ?_
          refine st_val hs (y_move rfl) trivial rfl rfl fun a hs => ?_
          refine st_val hs (y_sub rfl rfl) trivial rfl rfl fun a hs => ?_
          obtain ⟨i272, h271, hsh⟩ := bind_t hsh
          refine st_val hs (y_assignI rfl h271) trivial rfl rfl fun a hs => ?_
          refine wpList_nil ?_
          refine then_normal ?_
          exact ⟨_, (Option.some.inj hsh).symm, p252, k253, p259, k260, c261, Sv262, (hs.wk rfl), (hw.ft [0, 1, 2, 3] [0, 1, 2] (by decide) rfl rfl)⟩
      · have hsh := ite_f hsh h234
        refine wp_exit ?_
        refine then_exit ?_
        refine then_exit ?_
        refine blk_exit ?_
        have hsh := Option.some.inj hsh
        subst hsh
        have h273 := hd223 _ rfl
        subst h273
        refine then_normal ?_
        exact ⟨p200, k201, p202, k203, c204, Sv205, (hs.wk rfl), (hw.ft [0, 1, 2, 3] [0, 1, 2] (by decide) rfl rfl)⟩
    · rintro a w ⟨p227, k228, p229, k230, c231, Sv232, hs, hw⟩
      refine then_normal ?_
      refine wp_seq ?_
      refine wp_region_lit ?_
      refine st_val hs (y_loadBA (hw.ownAt 2 rfl) rfl Try.isAgg32 Try.sizeOf32 rfl rfl) trivial rfl rfl fun a hs => ?_
      refine w_store (m := 12) (cs' := [.string s8.Network, .string s8.Station, .string s8.Location, .string s8.Channel, .int .i64 (w64 (1000000000000 + (w64 (250000 * rv46.1)))), .int .i64 rv54.1, .int .i64 rv39.1.Num, .int .i64 rv39.1.Den, .int .i64 rv62.1, .int .i64 rv68.1, .int .i64 rv74.1, .slice p229 e226.2.2.length k230]) hs hw 1 rfl rfl rfl Try.sizeOf32 rfl rfl rfl rfl trivial ?_
      intro a w hs hw
      refine wpList_nil ?_
      refine then_normal ?_
      have hsh := Option.some.inj hsh
      subst hsh
      refine wp_ret ?_
      exact ret1 hs rfl (rv_cell hw 1 rfl rfl Try.isAgg32 Try.sizeOf32 rfl) (hw.ret ⟨p229, k230, c231, p227, k228, rfl, (hw.freshOf 3 rfl (.inr ⟨0, _, _, _, rfl, rfl, rfl⟩)), (hw.envAt 2 rfl), (hw.ownAt 0 rfl), (hw.envAt 0 rfl)⟩)

abbrev record_Follows_rd (w0 : World) (r : Bool) : (Nat → Prop) → World → Value → Prop := fun S w v => v = .bool r
set_option maxHeartbeats 4000000 in
set_option maxRecDepth 100000 in
theorem record_Follows_ok {w0 : World} {S0 : Nat → Prop} {p2 : Option Addr} {k3 : Nat} {p6 : Option Addr} {k7 : Nat} {a1 : Record} {b5 : Record} {tolerance9 : Int} {r : Bool} (hsh : record_Follows a1 b5 tolerance9 = some r) (hS : ∀ b, S0 b → b < w0.heap.size) (h4 : (SlA p2 a1.Samples.length k3 a1.Samples).p S0 w0) (h8 : (SlA p6 b5.Samples.length k7 b5.Samples).p S0 w0) : Calls Try.prog 14 #[.agg #[.string a1.Source.Network, .string a1.Source.Station, .string a1.Source.Location, .string a1.Source.Channel, .int .i64 a1.Start, .int .i64 a1.First, .int .i64 a1.Rate.Num, .int .i64 a1.Rate.Den, .int .i64 a1.Error, .int .i64 a1.Run, .int .i64 a1.Seq, .slice p2 a1.Samples.length k3], .agg #[.string b5.Source.Network, .string b5.Source.Station, .string b5.Source.Location, .string b5.Source.Channel, .int .i64 b5.Start, .int .i64 b5.First, .int .i64 b5.Rate.Num, .int .i64 b5.Rate.Den, .int .i64 b5.Error, .int .i64 b5.Run, .int .i64 b5.Seq, .slice p6 b5.Samples.length k7], .int .i64 tolerance9] w0 (Ret [] w0 S0 (record_Follows_rd w0 r)) := by
  refine calls_of_wp Try.func14 rfl ?_
  have hs := Sl.enter #[.agg #[.string a1.Source.Network, .string a1.Source.Station, .string a1.Source.Location, .string a1.Source.Channel, .int .i64 a1.Start, .int .i64 a1.First, .int .i64 a1.Rate.Num, .int .i64 a1.Rate.Den, .int .i64 a1.Error, .int .i64 a1.Run, .int .i64 a1.Seq, .slice p2 a1.Samples.length k3], .agg #[.string b5.Source.Network, .string b5.Source.Station, .string b5.Source.Location, .string b5.Source.Channel, .int .i64 b5.Start, .int .i64 b5.First, .int .i64 b5.Rate.Num, .int .i64 b5.Rate.Den, .int .i64 b5.Error, .int .i64 b5.Run, .int .i64 b5.Seq, .slice p6 b5.Samples.length k7], .int .i64 tolerance9] 46 [(0, .agg #[.string a1.Source.Network, .string a1.Source.Station, .string a1.Source.Location, .string a1.Source.Channel, .int .i64 a1.Start, .int .i64 a1.First, .int .i64 a1.Rate.Num, .int .i64 a1.Rate.Den, .int .i64 a1.Error, .int .i64 a1.Run, .int .i64 a1.Seq, .slice p2 a1.Samples.length k3]), (1, .agg #[.string b5.Source.Network, .string b5.Source.Station, .string b5.Source.Location, .string b5.Source.Channel, .int .i64 b5.Start, .int .i64 b5.First, .int .i64 b5.Rate.Num, .int .i64 b5.Rate.Den, .int .i64 b5.Error, .int .i64 b5.Run, .int .i64 b5.Seq, .slice p6 b5.Samples.length k7]), (2, .int .i64 tolerance9)] rfl ⟨rfl, rfl, rfl, trivial⟩
  have hw := Wd.enter (E := []) hS (fun _ h => (by cases h))
  have hw := hw.addE h4
  have hw := hw.addE h8
  delta record_Follows at hsh
  refine wp_seq ?_
  refine wp_region_lit ?_
  refine w_box (cs := [.string a1.Source.Network, .string a1.Source.Station, .string a1.Source.Location, .string a1.Source.Channel, .int .i64 a1.Start, .int .i64 a1.First, .int .i64 a1.Rate.Num, .int .i64 a1.Rate.Den, .int .i64 a1.Error, .int .i64 a1.Run, .int .i64 a1.Seq, .slice p2 a1.Samples.length k3]) hs hw rfl rfl rfl trivial ?_
  intro b10 a w hs hw
  refine w_box (cs := [.string b5.Source.Network, .string b5.Source.Station, .string b5.Source.Location, .string b5.Source.Channel, .int .i64 b5.Start, .int .i64 b5.First, .int .i64 b5.Rate.Num, .int .i64 b5.Rate.Den, .int .i64 b5.Error, .int .i64 b5.Run, .int .i64 b5.Seq, .slice p6 b5.Samples.length k7]) hs hw rfl rfl rfl trivial ?_
  intro b11 a w hs hw
  refine st_val hs (y_assign rfl) trivial rfl rfl fun a hs => ?_
  refine wpList_nil ?_
  refine then_normal ?_
  refine wp_seq ?_
  refine wp_seq ?_
  refine wp_region_lit ?_
  refine st_val hs (y_loadBA (hw.ownAt 1 rfl) rfl Try.isAgg32 Try.sizeOf32 rfl rfl) trivial rfl rfl fun a hs => ?_
  obtain ⟨rv13, h12, hsh⟩ := bind_t hsh
  refine st_callR hs (record_Valid_ok h12 hw.dom (hw.envAt 1 rfl)) (do_call Try.call26 rfl) trivial rfl rfl ?_
  intro v17 Sv14 w a h15 h16 hs
  subst h16
  have hw := hw.call h15
  refine st_val hs (y_not rfl) trivial rfl rfl fun a hs => ?_
  refine st_val hs (y_move rfl) trivial rfl rfl fun a hs => ?_
  obtain ⟨c25, hc25, hsh⟩ := bind_t hsh
  refine wpl_join 4 (fun a w => ∃ (Sv26 : Nat → Prop), Sl 46 [(2, .int .i64 tolerance9), (3, .pointer (some ⟨b10, 0, none⟩)), (4, .pointer (some ⟨b11, 0, none⟩)), (14, .bool c25)] a ∧ Wd ⟨w0, S0, []⟩ Sv26 [.box b10 [.string a1.Source.Network, .string a1.Source.Station, .string a1.Source.Location, .string a1.Source.Channel, .int .i64 a1.Start, .int .i64 a1.First, .int .i64 a1.Rate.Num, .int .i64 a1.Rate.Den, .int .i64 a1.Error, .int .i64 a1.Run, .int .i64 a1.Seq, .slice p2 a1.Samples.length k3] 32, .box b11 [.string b5.Source.Network, .string b5.Source.Station, .string b5.Source.Location, .string b5.Source.Channel, .int .i64 b5.Start, .int .i64 b5.First, .int .i64 b5.Rate.Num, .int .i64 b5.Rate.Den, .int .i64 b5.Error, .int .i64 b5.Run, .int .i64 b5.Seq, .slice p6 b5.Samples.length k7] 32] [SlA p2 a1.Samples.length k3 a1.Samples, SlA p6 b5.Samples.length k7 b5.Samples] w) ?_ ?_
  · rcases Bool.eq_false_or_eq_true (!rv13) with h24 | h24
    · have hs := hs.fix 10 (.bool true) rfl (vb h24)
      have hsh := ite_t hc25 h24
      refine st_skip hs rfl rfl rfl rfl rfl fun a hs => ?_
      refine st_skip hs rfl rfl rfl rfl rfl fun a hs => ?_
      refine st_skip hs rfl rfl rfl rfl rfl fun a hs => ?_
      refine st_val hs (y_pickT rfl rfl) trivial rfl rfl fun a hs => ?_
      refine wpList_nil ?_
      have hsh := Option.some.inj hsh
      subst hsh
      refine then_normal ?_
      exact ⟨Sv14, (hs.wk rfl), (hw.ft [1, 0] [1, 0] (by decide) rfl rfl)⟩
    · have hs := hs.fix 10 (.bool false) rfl (vb h24)
      have hsh := ite_f hc25 h24
      refine st_val hs (y_loadBA (hw.ownAt 0 rfl) rfl Try.isAgg32 Try.sizeOf32 rfl rfl) ⟨_, rfl, rfl⟩ rfl rfl fun a hs => ?_
      obtain ⟨rv28, h27, hsh⟩ := bind_t hsh
      refine st_callR hs (record_Valid_ok h27 hw.dom (hw.envAt 0 rfl)) (do_call Try.call26 rfl) ⟨_, rfl, rfl⟩ rfl rfl ?_
      intro v32 Sv29 w a h30 h31 hs
      subst h31
      have hw := hw.call h30
      refine st_val hs (y_not rfl) ⟨_, rfl, rfl⟩ rfl rfl fun a hs => ?_
      refine st_val hs (y_pickF rfl rfl) trivial rfl rfl fun a hs => ?_
      refine wpList_nil ?_
      have hsh := Option.some.inj hsh
      subst hsh
      refine then_normal ?_
      exact ⟨Sv29, (hs.wk rfl), (hw.ft [1, 0] [1, 0] (by decide) rfl rfl)⟩
  · rintro a w ⟨Sv26, hs, hw⟩
    refine st_val hs (y_move rfl) trivial rfl rfl fun a hs => ?_
    refine wpl_join 6 (fun a w1 => w = w1 ∧ Sl 46 [(2, .int .i64 tolerance9), (3, .pointer (some ⟨b10, 0, none⟩)), (4, .pointer (some ⟨b11, 0, none⟩)), (21, .bool (c25 || (!((a1.Source.Network == b5.Source.Network) && ((a1.Source.Station == b5.Source.Station) && ((a1.Source.Location == b5.Source.Location) && ((a1.Source.Channel == b5.Source.Channel) && true)))))))] a) ?_ ?_
    · rcases Bool.eq_false_or_eq_true c25 with h33 | h33
      · have hs := hs.fix 15 (.bool true) rfl (vb h33)
        refine st_skip hs rfl rfl rfl rfl rfl fun a hs => ?_
        refine st_skip hs rfl rfl rfl rfl rfl fun a hs => ?_
        refine st_skip hs rfl rfl rfl rfl rfl fun a hs => ?_
        refine st_skip hs rfl rfl rfl rfl rfl fun a hs => ?_
        refine st_skip hs rfl rfl rfl rfl rfl fun a hs => ?_
        refine st_val hs (y_pickT rfl rfl) trivial rfl rfl fun a hs => ?_
        refine wpList_nil ?_
        refine then_normal ?_
        exact ⟨rfl, (hs.fix 21 (.bool (c25 || (!((a1.Source.Network == b5.Source.Network) && ((a1.Source.Station == b5.Source.Station) && ((a1.Source.Location == b5.Source.Location) && ((a1.Source.Channel == b5.Source.Channel) && true))))))) rfl (or_t h33)).weaken _ ⟨rfl, rfl, rfl, rfl, trivial⟩⟩
      · have hs := hs.fix 15 (.bool false) rfl (vb h33)
        refine st_val hs (y_fieldAddr (o' := 0) Try.runUnderlying32 rfl Try.sizeOf28 rfl rfl rfl) ⟨_, rfl, rfl⟩ rfl rfl fun a hs => ?_
        refine st_val hs (y_loadBA (hw.ownAt 0 rfl) rfl Try.isAgg28 Try.sizeOf28 rfl rfl) ⟨_, rfl, rfl⟩ rfl rfl fun a hs => ?_
        refine st_val hs (y_fieldAddr (o' := 0) Try.runUnderlying32 rfl Try.sizeOf28 rfl rfl rfl) ⟨_, rfl, rfl⟩ rfl rfl fun a hs => ?_
        refine st_val hs (y_loadBA (hw.ownAt 1 rfl) rfl Try.isAgg28 Try.sizeOf28 rfl rfl) ⟨_, rfl, rfl⟩ rfl rfl fun a hs => ?_
        refine st_val hs (y_neqA (by kernel_rfl) rfl rfl (eqv_struct Try.runUnderlying28 (by kernel_rfl) (EqF.cons1 rfl Try.isAgg9 rfl rfl (eqv_str Try.runUnderlying9) (EqF.cons1 rfl Try.isAgg9 rfl rfl (eqv_str Try.runUnderlying9) (EqF.cons1 rfl Try.isAgg9 rfl rfl (eqv_str Try.runUnderlying9) (EqF.cons1 rfl Try.isAgg9 rfl rfl (eqv_str Try.runUnderlying9) EqF.nil)))))) ⟨_, rfl, rfl⟩ rfl rfl fun a hs => ?_
        refine st_val hs (y_pickF rfl rfl) trivial rfl rfl fun a hs => ?_
        refine wpList_nil ?_
        refine then_normal ?_
        exact ⟨rfl, (hs.fix 21 (.bool (c25 || (!((a1.Source.Network == b5.Source.Network) && ((a1.Source.Station == b5.Source.Station) && ((a1.Source.Location == b5.Source.Location) && ((a1.Source.Channel == b5.Source.Channel) && true))))))) rfl (or_f h33)).weaken _ ⟨rfl, rfl, rfl, rfl, trivial⟩⟩
    · rintro a w1 ⟨h72, hs⟩
      subst h72
      refine st_val hs (y_move rfl) trivial rfl rfl fun a hs => ?_
      refine wpl_join 6 (fun a w1 => w = w1 ∧ Sl 46 [(2, .int .i64 tolerance9), (3, .pointer (some ⟨b10, 0, none⟩)), (4, .pointer (some ⟨b11, 0, none⟩)), (28, .bool ((c25 || (!((a1.Source.Network == b5.Source.Network) && ((a1.Source.Station == b5.Source.Station) && ((a1.Source.Location == b5.Source.Location) && ((a1.Source.Channel == b5.Source.Channel) && true)))))) || (!((a1.Rate.Num == b5.Rate.Num) && ((a1.Rate.Den == b5.Rate.Den) && true)))))] a) ?_ ?_
      · rcases Bool.eq_false_or_eq_true (c25 || (!((a1.Source.Network == b5.Source.Network) && ((a1.Source.Station == b5.Source.Station) && ((a1.Source.Location == b5.Source.Location) && ((a1.Source.Channel == b5.Source.Channel) && true)))))) with h34 | h34
        · have hs := hs.fix 22 (.bool true) rfl (vb h34)
          refine st_skip hs rfl rfl rfl rfl rfl fun a hs => ?_
          refine st_skip hs rfl rfl rfl rfl rfl fun a hs => ?_
          refine st_skip hs rfl rfl rfl rfl rfl fun a hs => ?_
          refine st_skip hs rfl rfl rfl rfl rfl fun a hs => ?_
          refine st_skip hs rfl rfl rfl rfl rfl fun a hs => ?_
          refine st_val hs (y_pickT rfl rfl) trivial rfl rfl fun a hs => ?_
          refine wpList_nil ?_
          refine then_normal ?_
          exact ⟨rfl, (hs.fix 28 (.bool ((c25 || (!((a1.Source.Network == b5.Source.Network) && ((a1.Source.Station == b5.Source.Station) && ((a1.Source.Location == b5.Source.Location) && ((a1.Source.Channel == b5.Source.Channel) && true)))))) || (!((a1.Rate.Num == b5.Rate.Num) && ((a1.Rate.Den == b5.Rate.Den) && true))))) rfl (or_t h34)).weaken _ ⟨rfl, rfl, rfl, rfl, trivial⟩⟩
        · have hs := hs.fix 22 (.bool false) rfl (vb h34)
          refine st_val hs (y_fieldAddr (o' := 6) Try.runUnderlying32 rfl Try.sizeOf30 rfl rfl rfl) ⟨_, rfl, rfl⟩ rfl rfl fun a hs => ?_
          refine st_val hs (y_loadBA (hw.ownAt 0 rfl) rfl Try.isAgg30 Try.sizeOf30 rfl rfl) ⟨_, rfl, rfl⟩ rfl rfl fun a hs => ?_
          refine st_val hs (y_fieldAddr (o' := 6) Try.runUnderlying32 rfl Try.sizeOf30 rfl rfl rfl) ⟨_, rfl, rfl⟩ rfl rfl fun a hs => ?_
          refine st_val hs (y_loadBA (hw.ownAt 1 rfl) rfl Try.isAgg30 Try.sizeOf30 rfl rfl) ⟨_, rfl, rfl⟩ rfl rfl fun a hs => ?_
          refine st_val hs (y_neqA (by kernel_rfl) rfl rfl (eqv_struct Try.runUnderlying30 (by kernel_rfl) (EqF.cons1 rfl Try.isAgg3 rfl rfl (eqv_int Try.runUnderlying3) (EqF.cons1 rfl Try.isAgg3 rfl rfl (eqv_int Try.runUnderlying3) EqF.nil)))) ⟨_, rfl, rfl⟩ rfl rfl fun a hs => ?_
          refine st_val hs (y_pickF rfl rfl) trivial rfl rfl fun a hs => ?_
          refine wpList_nil ?_
          refine then_normal ?_
          exact ⟨rfl, (hs.fix 28 (.bool ((c25 || (!((a1.Source.Network == b5.Source.Network) && ((a1.Source.Station == b5.Source.Station) && ((a1.Source.Location == b5.Source.Location) && ((a1.Source.Channel == b5.Source.Channel) && true)))))) || (!((a1.Rate.Num == b5.Rate.Num) && ((a1.Rate.Den == b5.Rate.Den) && true))))) rfl (or_f h34)).weaken _ ⟨rfl, rfl, rfl, rfl, trivial⟩⟩
      · rintro a w1 ⟨h71, hs⟩
        subst h71
        refine st_val hs (y_move rfl) trivial rfl rfl fun a hs => ?_
        obtain ⟨c42, hc42, hsh⟩ := bind_t hsh
        refine wpl_join 4 (fun a w => ∃ (Sv43 : Nat → Prop), Sl 46 [(2, .int .i64 tolerance9), (3, .pointer (some ⟨b10, 0, none⟩)), (4, .pointer (some ⟨b11, 0, none⟩)), (33, .bool c42)] a ∧ Wd ⟨w0, S0, []⟩ Sv43 [.box b10 [.string a1.Source.Network, .string a1.Source.Station, .string a1.Source.Location, .string a1.Source.Channel, .int .i64 a1.Start, .int .i64 a1.First, .int .i64 a1.Rate.Num, .int .i64 a1.Rate.Den, .int .i64 a1.Error, .int .i64 a1.Run, .int .i64 a1.Seq, .slice p2 a1.Samples.length k3] 32, .box b11 [.string b5.Source.Network, .string b5.Source.Station, .string b5.Source.Location, .string b5.Source.Channel, .int .i64 b5.Start, .int .i64 b5.First, .int .i64 b5.Rate.Num, .int .i64 b5.Rate.Den, .int .i64 b5.Error, .int .i64 b5.Run, .int .i64 b5.Seq, .slice p6 b5.Samples.length k7] 32] [SlA p2 a1.Samples.length k3 a1.Samples, SlA p6 b5.Samples.length k7 b5.Samples] w) ?_ ?_
        · rcases Bool.eq_false_or_eq_true ((c25 || (!((a1.Source.Network == b5.Source.Network) && ((a1.Source.Station == b5.Source.Station) && ((a1.Source.Location == b5.Source.Location) && ((a1.Source.Channel == b5.Source.Channel) && true)))))) || (!((a1.Rate.Num == b5.Rate.Num) && ((a1.Rate.Den == b5.Rate.Den) && true)))) with h41 | h41
          · have hs := hs.fix 29 (.bool true) rfl (vb h41)
            have hsh := ite_t hc42 h41
            refine st_skip hs rfl rfl rfl rfl rfl fun a hs => ?_
            refine st_skip hs rfl rfl rfl rfl rfl fun a hs => ?_
            refine st_skip hs rfl rfl rfl rfl rfl fun a hs => ?_
            refine st_val hs (y_pickT rfl rfl) trivial rfl rfl fun a hs => ?_
            refine wpList_nil ?_
            have hsh := Option.some.inj hsh
            subst hsh
            refine then_normal ?_
            exact ⟨Sv26, (hs.wk rfl), (hw.ft [0, 1] [0, 1] (by decide) rfl rfl)⟩
          · have hs := hs.fix 29 (.bool false) rfl (vb h41)
            have hsh := ite_f hc42 h41
            refine st_val hs (y_move rfl) ⟨_, rfl, rfl⟩ rfl rfl fun a hs => ?_
            obtain ⟨rv45, h44, hsh⟩ := bind_t hsh
            refine st_callR hs (record_in_ok h44 hw.dom) (do_call Try.call39 rfl) ⟨_, rfl, rfl⟩ rfl rfl ?_
            intro v49 Sv46 w a h47 h48 hs
            subst h48
            have hw := hw.call h47
            refine st_val hs (y_not rfl) ⟨_, rfl, rfl⟩ rfl rfl fun a hs => ?_
            refine st_val hs (y_pickF rfl rfl) trivial rfl rfl fun a hs => ?_
            refine wpList_nil ?_
            have hsh := Option.some.inj hsh
            subst hsh
            refine then_normal ?_
            exact ⟨Sv46, (hs.wk rfl), (hw.ft [0, 1] [0, 1] (by decide) rfl rfl)⟩
        · rintro a w ⟨Sv43, hs, hw⟩
          refine wpList_nil ?_
          refine then_normal ?_
          refine wp_cond_split (hs.ev rfl) (fun h51 => ?_) (fun h51 => ?_)
          · have hsh := ite_t hsh h51
            refine wp_seq ?_
            refine wp_region_lit ?_
            refine st_val hs (y_assign rfl) trivial rfl rfl fun a hs => ?_
            refine wpList_nil ?_
            refine then_normal ?_
            have hsh := Option.some.inj hsh
            subst hsh
            refine wp_ret ?_
            refine then_ret ?_
            exact ret1 hs rfl (rv_tmp rfl) (hw.ret rfl)
          · have hsh := ite_f hsh h51
            refine wp_skip ?_
            refine then_normal ?_
            refine wp_seq ?_
            obtain ⟨rv53, h52, hsh⟩ := bind_t hsh
            obtain ⟨rv55, h54, hsh⟩ := bind_t hsh
            obtain ⟨rv57, h56, hsh⟩ := bind_t hsh
            refine wp_only (fun a w => ∃ (Sv58 : Nat → Prop), Sl 46 [(6, .bool rv57)] a ∧ Wd ⟨w0, S0, []⟩ Sv58 [] [] w) ?_ ?_
            · refine h_begin (C := Cls [.box b10 [.string a1.Source.Network, .string a1.Source.Station, .string a1.Source.Location, .string a1.Source.Channel, .int .i64 a1.Start, .int .i64 a1.First, .int .i64 a1.Rate.Num, .int .i64 a1.Rate.Den, .int .i64 a1.Error, .int .i64 a1.Run, .int .i64 a1.Seq, .slice p2 a1.Samples.length k3] 32, .box b11 [.string b5.Source.Network, .string b5.Source.Station, .string b5.Source.Location, .string b5.Source.Channel, .int .i64 b5.Start, .int .i64 b5.First, .int .i64 b5.Rate.Num, .int .i64 b5.Rate.Den, .int .i64 b5.Error, .int .i64 b5.Run, .int .i64 b5.Seq, .slice p6 b5.Samples.length k7] 32] []) (by kernel_rfl) rfl ?_
              have hw := hw.drew
              have hC : Cls [.box b10 [.string a1.Source.Network, .string a1.Source.Station, .string a1.Source.Location, .string a1.Source.Channel, .int .i64 a1.Start, .int .i64 a1.First, .int .i64 a1.Rate.Num, .int .i64 a1.Rate.Den, .int .i64 a1.Error, .int .i64 a1.Run, .int .i64 a1.Seq, .slice p2 a1.Samples.length k3] 32, .box b11 [.string b5.Source.Network, .string b5.Source.Station, .string b5.Source.Location, .string b5.Source.Channel, .int .i64 b5.Start, .int .i64 b5.First, .int .i64 b5.Rate.Num, .int .i64 b5.Rate.Den, .int .i64 b5.Error, .int .i64 b5.Run, .int .i64 b5.Seq, .slice p6 b5.Samples.length k7] 32] [] _ := hw.cs [0, 1] [] rfl rfl
              refine h_get hs (i := 0) rfl (by kernel_rfl) rfl rfl hC rfl (fun w hC => y_loadBA (hC.ownAt 1 rfl) rfl Try.isAgg32 Try.sizeOf32 rfl rfl) fun a hs => ?_
              refine h_get hs (i := 2) rfl (by kernel_rfl) rfl rfl hC rfl (fun w hC => y_loadBA (hC.ownAt 0 rfl) rfl Try.isAgg32 Try.sizeOf32 rfl rfl) fun a hs => ?_
              refine h_get hs (i := 3) rfl (by kernel_rfl) rfl rfl hC rfl (fun w hC => y_fieldAddr (o' := 11) Try.runUnderlying32 rfl Try.sizeOf22 rfl rfl rfl) fun a hs => ?_
              refine h_get hs (i := 4) rfl (by kernel_rfl) rfl rfl hC rfl (fun w hC => y_loadB1 (hC.ownAt 0 rfl) rfl Try.isAgg22 rfl) fun a hs => ?_
              refine h_get hs (i := 5) rfl (by kernel_rfl) rfl rfl hC rfl (fun w hC => y_len Try.runUnderlying22 rfl) fun a hs => ?_
              refine h_get hs (i := 8) rfl (by kernel_rfl) rfl rfl hC rfl (fun w hC => y_move rfl) fun a hs => ?_
              refine h_get hs (i := 9) rfl (by kernel_rfl) rfl rfl hC rfl (fun w hC => y_neg rfl) fun a hs => ?_
              refine h_get hs (i := 10) rfl (by kernel_rfl) rfl rfl hC rfl (fun w hC => y_move rfl) fun a hs => ?_
              refine h_all (rs := [1]) (by kernel_rfl) rfl ?_
              refine AllH.cons rfl ?_ ?_
              · refine st_callR hs (record_time_ok h52 hw.dom (hw.envAt 1 rfl)) (do_call Try.call38 rfl) trivial rfl rfl ?_
                intro v62 Sv59 w a h60 h61 hs
                subst h61
                have hw := hw.call h60
                refine wpList_nil ?_
                refine then_normal ?_
                have hC : Cls [.box b10 [.string a1.Source.Network, .string a1.Source.Station, .string a1.Source.Location, .string a1.Source.Channel, .int .i64 a1.Start, .int .i64 a1.First, .int .i64 a1.Rate.Num, .int .i64 a1.Rate.Den, .int .i64 a1.Error, .int .i64 a1.Run, .int .i64 a1.Seq, .slice p2 a1.Samples.length k3] 32, .box b11 [.string b5.Source.Network, .string b5.Source.Station, .string b5.Source.Location, .string b5.Source.Channel, .int .i64 b5.Start, .int .i64 b5.First, .int .i64 b5.Rate.Num, .int .i64 b5.Rate.Den, .int .i64 b5.Error, .int .i64 b5.Run, .int .i64 b5.Seq, .slice p6 b5.Samples.length k7] 32] [] _ := hw.cs [0, 1] [] rfl rfl
                refine ⟨hC, ?_⟩
                refine h_all (rs := [6]) (by kernel_rfl) rfl ?_
                refine AllH.cons rfl ?_ ?_
                · refine st_callR hs (record_time_ok h54 hw.dom (hw.envAt 0 rfl)) (do_call Try.call38 rfl) trivial rfl rfl ?_
                  intro v66 Sv63 w a h64 h65 hs
                  subst h65
                  have hw := hw.call h64
                  refine wpList_nil ?_
                  refine then_normal ?_
                  have hC : Cls [.box b10 [.string a1.Source.Network, .string a1.Source.Station, .string a1.Source.Location, .string a1.Source.Channel, .int .i64 a1.Start, .int .i64 a1.First, .int .i64 a1.Rate.Num, .int .i64 a1.Rate.Den, .int .i64 a1.Error, .int .i64 a1.Run, .int .i64 a1.Seq, .slice p2 a1.Samples.length k3] 32, .box b11 [.string b5.Source.Network, .string b5.Source.Station, .string b5.Source.Location, .string b5.Source.Channel, .int .i64 b5.Start, .int .i64 b5.First, .int .i64 b5.Rate.Num, .int .i64 b5.Rate.Den, .int .i64 b5.Error, .int .i64 b5.Run, .int .i64 b5.Seq, .slice p6 b5.Samples.length k7] 32] [] _ := hw.cs [0, 1] [] rfl rfl
                  refine ⟨hC, ?_⟩
                  refine h_get hs (i := 7) rfl (by kernel_rfl) rfl rfl hC rfl (fun w hC => y_sub rfl rfl) fun a hs => ?_
                  refine h_all (rs := [11]) (by kernel_rfl) rfl ?_
                  refine AllH.cons rfl ?_ ?_
                  · refine st_callR hs (record_in_ok h56 hw.dom) (do_call Try.call39 rfl) trivial rfl rfl ?_
                    intro v70 Sv67 w a h68 h69 hs
                    subst h69
                    have hw := hw.call h68
                    refine wpList_nil ?_
                    refine then_normal ?_
                    have hC : Cls [.box b10 [.string a1.Source.Network, .string a1.Source.Station, .string a1.Source.Location, .string a1.Source.Channel, .int .i64 a1.Start, .int .i64 a1.First, .int .i64 a1.Rate.Num, .int .i64 a1.Rate.Den, .int .i64 a1.Error, .int .i64 a1.Run, .int .i64 a1.Seq, .slice p2 a1.Samples.length k3] 32, .box b11 [.string b5.Source.Network, .string b5.Source.Station, .string b5.Source.Location, .string b5.Source.Channel, .int .i64 b5.Start, .int .i64 b5.First, .int .i64 b5.Rate.Num, .int .i64 b5.Rate.Den, .int .i64 b5.Error, .int .i64 b5.Run, .int .i64 b5.Seq, .slice p6 b5.Samples.length k7] 32] [] _ := hw.cs [0, 1] [] rfl rfl
                    refine ⟨hC, ?_⟩
                    refine h_get hs (i := 12) rfl (by kernel_rfl) rfl rfl hC rfl (fun w hC => y_assign rfl) fun a hs => ?_
                    refine h_done (by kernel_rfl) ?_
                    exact ⟨Sv67, (hs.wk rfl), (hw.ft [] [] (by decide) rfl rfl)⟩
                  exact AllH.nil
                exact AllH.nil
              exact AllH.nil
            · rintro a w ⟨Sv58, hs, hw⟩
              refine then_normal ?_
              have hsh := Option.some.inj hsh
              subst hsh
              refine wp_ret ?_
              exact ret1 hs rfl (rv_tmp rfl) (hw.ret rfl)

abbrev slices_Equal_Lint_int_rd (w0 : World) (r : Bool) : (Nat → Prop) → World → Value → Prop := fun S w v => v = .bool r
set_option maxHeartbeats 4000000 in
set_option maxRecDepth 100000 in
theorem slices_Equal_Lint_int_ok {w0 : World} {S0 : Nat → Prop} {p2 : Option Addr} {k3 : Nat} {p6 : Option Addr} {k7 : Nat} {s1_1 : (List Int)} {s2_5 : (List Int)} {r : Bool} (hsh : slices_Equal_Lint_int s1_1 s2_5 = some r) (hS : ∀ b, S0 b → b < w0.heap.size) (h4 : (SlA p2 s1_1.length k3 s1_1).p S0 w0) (h8 : (SlA p6 s2_5.length k7 s2_5).p S0 w0) : Calls Try.prog 40 #[.slice p2 s1_1.length k3, .slice p6 s2_5.length k7] w0 (Ret [] w0 S0 (slices_Equal_Lint_int_rd w0 r)) := by
  refine calls_of_wp Try.func40 rfl ?_
  have hs := Sl.enter #[.slice p2 s1_1.length k3, .slice p6 s2_5.length k7] 26 [(0, .slice p2 s1_1.length k3), (1, .slice p6 s2_5.length k7)] rfl ⟨rfl, rfl, trivial⟩
  have hw := Wd.enter (E := []) hS (fun _ h => (by cases h))
  have hw := hw.addE h4
  have hw := hw.addE h8
  delta slices_Equal_Lint_int at hsh
  refine wp_seq ?_
  refine wp_region_lit ?_
  refine st_val hs (y_assign rfl) trivial rfl rfl fun a hs => ?_
  refine wpList_nil ?_
  refine then_normal ?_
  refine wp_seq ?_
  refine wp_seq ?_
  refine wp_region_lit ?_
  refine st_val hs (y_move rfl) trivial rfl rfl fun a hs => ?_
  refine st_val hs (y_len Try.runUnderlying22 rfl) trivial rfl rfl fun a hs => ?_
  refine st_val hs (y_move rfl) trivial rfl rfl fun a hs => ?_
  refine st_val hs (y_len Try.runUnderlying22 rfl) trivial rfl rfl fun a hs => ?_
  refine st_val hs (y_neq rfl rfl) trivial rfl rfl fun a hs => ?_
  refine wpList_nil ?_
  refine then_normal ?_
  refine wp_cond_split (hs.ev rfl) (fun h10 => ?_) (fun h10 => ?_)
  · have hsh := ite_t hsh h10
    refine wp_seq ?_
    refine wp_region_lit ?_
    refine st_val hs (y_assign rfl) trivial rfl rfl fun a hs => ?_
    refine wpList_nil ?_
    refine then_normal ?_
    have hsh := Option.some.inj hsh
    subst hsh
    refine wp_ret ?_
    refine then_ret ?_
    exact ret1 hs rfl (rv_tmp rfl) (hw.ret rfl)
  · have hsh := ite_f hsh h10
    refine wp_skip ?_
    refine then_normal ?_
    refine wp_seq ?_
    refine wp_seq ?_
    refine wp_region_lit ?_
    refine st_val hs (y_move rfl) trivial rfl rfl fun a hs => ?_
    refine st_val hs (y_len Try.runUnderlying22 rfl) trivial rfl rfl fun a hs => ?_
    refine st_val hs (y_move rfl) trivial rfl rfl fun a hs => ?_
    refine wpList_nil ?_
    refine then_normal ?_
    refine wp_block ?_
    refine wp_while (fun sv103 a w => ∃ (Sv163 : Nat → Prop), Sl 26 [(0, .slice p2 s1_1.length k3), (1, .slice p6 s2_5.length k7), (12, .int .i64 (s1_1.length : Int)), (13, .int .i64 sv103)] a ∧ Wd ⟨w0, S0, []⟩ Sv163 [] [SlA p2 s1_1.length k3 s1_1, SlA p6 s2_5.length k7 s2_5] w) 0 hsh ⟨S0, (hs.wk rfl), (hw.ft [] [1, 0] (by decide) rfl rfl)⟩ ?_
    repeat clear hsh
    rintro sv103 a w tv194 ⟨Sv163, hs, hw⟩ hsh hd193
    delta slices_Equal_Lint_int_l2 at hsh
    refine wp_seq ?_
    refine wp_region_lit ?_
    refine st_val hs (y_lss rfl rfl) trivial rfl rfl fun a hs => ?_
    refine wpList_nil ?_
    refine then_normal ?_
    refine wp_seq ?_
    refine wp_cond_split (hs.ev rfl) (fun h198 => ?_) (fun h198 => ?_)
    · have hsh := ite_t hsh h198
      refine wp_skip ?_
      refine then_normal ?_
      refine wp_seq ?_
      refine wp_block ?_
      refine wp_seq ?_
      refine wp_region_lit ?_
      refine st_val hs (y_move rfl) trivial rfl rfl fun a hs => ?_
      refine st_val hs (y_assign rfl) trivial rfl rfl fun a hs => ?_
      refine wpList_nil ?_
      refine then_normal ?_
      refine wp_seq ?_
      obtain ⟨x229, h227, hsh⟩ := bind_t hsh
      obtain ⟨b235, o236, q233, c234, h237, h230, h231, h232, h228⟩ := hw.elemV 0 rfl h227
      have hsv238 := hs
      have hwv239 := hw
      subst h237
      have hs := hsv238
      have hw := hwv239
      obtain ⟨_, rfl, rfl⟩ := h228
      have hw := hw.addE h232
      obtain ⟨x242, h240, hsh⟩ := bind_t hsh
      obtain ⟨b248, o249, q246, c247, h250, h243, h244, h245, h241⟩ := hw.elemV 2 rfl h240
      have hsv251 := hs
      have hwv252 := hw
      subst h250
      have hs := hsv251
      have hw := hwv252
      obtain ⟨_, rfl, rfl⟩ := h241
      have hw := hw.addE h245
      refine wp_only (fun a w => ∃ (Sv253 : Nat → Prop), Sl 26 [(0, .slice (some ⟨b235, o236, none⟩) s1_1.length k3), (1, .slice (some ⟨b248, o249, none⟩) s2_5.length k7), (12, .int .i64 (s1_1.length : Int)), (13, .int .i64 sv103), (24, .bool (x229 != x242))] a ∧ Wd ⟨w0, S0, []⟩ Sv253 [] [SlA (some ⟨b235, o236, none⟩) s1_1.length k3 s1_1, SlA (some ⟨b248, o249, none⟩) s2_5.length k7 s2_5] w) ?_ ?_
      · refine h_begin (C := Cls [] [CeA b248 q246 [.int .i64 x242], CeA b235 q233 [.int .i64 x229]]) (by kernel_rfl) rfl ?_
        have hw := hw.drew
        have hC : Cls [] [CeA b248 q246 [.int .i64 x242], CeA b235 q233 [.int .i64 x229]] _ := hw.cs [] [0, 1] rfl rfl
        refine h_get hs (i := 0) rfl (by kernel_rfl) rfl rfl hC rfl (fun w hC => y_move rfl) fun a hs => ?_
        refine h_get hs (i := 1) rfl (by kernel_rfl) rfl rfl hC rfl (fun w hC => y_move rfl) fun a hs => ?_
        refine h_get hs (i := 2) rfl (by kernel_rfl) rfl rfl hC rfl (fun w hC => y_indexAt Try.runUnderlying22 Try.sizeOf3 rfl rfl h230.1 h230.2 h231) fun a hs => ?_
        refine h_get hs (i := 3) rfl (by kernel_rfl) rfl rfl hC rfl (fun w hC => y_loadE1 (j := 0) (hC.ceAt 1 rfl) rfl Try.isAgg3 rfl) fun a hs => ?_
        refine h_get hs (i := 4) rfl (by kernel_rfl) rfl rfl hC rfl (fun w hC => y_move rfl) fun a hs => ?_
        refine h_get hs (i := 5) rfl (by kernel_rfl) rfl rfl hC rfl (fun w hC => y_move rfl) fun a hs => ?_
        refine h_get hs (i := 6) rfl (by kernel_rfl) rfl rfl hC rfl (fun w hC => y_indexAt Try.runUnderlying22 Try.sizeOf3 rfl rfl h243.1 h243.2 h244) fun a hs => ?_
        refine h_get hs (i := 7) rfl (by kernel_rfl) rfl rfl hC rfl (fun w hC => y_loadE1 (j := 0) (hC.ceAt 0 rfl) rfl Try.isAgg3 rfl) fun a hs => ?_
        refine h_get hs (i := 8) rfl (by kernel_rfl) rfl rfl hC rfl (fun w hC => y_neq rfl rfl) fun a hs => ?_
        refine h_done (by kernel_rfl) ?_
        exact ⟨Sv163, (hs.wk rfl), (hw.ft [] [2, 3] (by decide) rfl rfl)⟩
      · rintro a w ⟨Sv253, hs, hw⟩
        refine then_normal ?_
        refine wp_cond_split (hs.ev rfl) (fun h255 => ?_) (fun h255 => ?_)
        · have hsh := ite_t hsh h255
          refine wp_seq ?_
          refine wp_region_lit ?_
          refine st_val hs (y_assign rfl) trivial rfl rfl fun a hs => ?_
          refine wpList_nil ?_
          refine then_normal ?_
          have hsh := Option.some.inj hsh
          subst hsh
          have h256 := hd193 _ rfl
          subst h256
          refine wp_ret ?_
          refine blk_ret ?_
          refine then_ret ?_
          refine then_ret ?_
          refine blk_ret ?_
          refine then_ret ?_
          exact ret1 hs rfl (rv_tmp rfl) (hw.ret rfl)
        · have hsh := ite_f hsh h255
          refine wp_skip ?_
          refine blk_normal ?_
          refine then_normal ?_
          refine wp_region_lit ?_
          refine st_val hs (y_add rfl rfl) trivial rfl rfl fun a hs => ?_
          refine st_val hs (y_move rfl) trivial rfl rfl fun a hs => ?_
          refine wpList_nil ?_
          refine then_normal ?_
          exact ⟨_, (Option.some.inj hsh).symm, Sv253, (hs.wk rfl), (hw.ft [] [0, 1] (by decide) rfl rfl)⟩
    · have hsh := ite_f hsh h198
      obtain ⟨rv257, hsh, h258⟩ := map_t hsh
      have h258 := hd193 _ h258.symm
      subst h258
      refine wp_exit ?_
      refine then_exit ?_
      refine then_exit ?_
      refine blk_exit ?_
      refine then_normal ?_
      refine wp_seq ?_
      refine wp_region_lit ?_
      refine st_val hs (y_assign rfl) trivial rfl rfl fun a hs => ?_
      refine wpList_nil ?_
      refine then_normal ?_
      have hsh := Option.some.inj hsh
      subst hsh
      refine wp_ret ?_
      exact ret1 hs rfl (rv_tmp rfl) (hw.ret rfl)

abbrev record_Same_rd (w0 : World) (r : Bool) : (Nat → Prop) → World → Value → Prop := fun S w v => v = .bool r
set_option maxHeartbeats 4000000 in
set_option maxRecDepth 100000 in
theorem record_Same_ok {w0 : World} {S0 : Nat → Prop} {p2 : Option Addr} {k3 : Nat} {p6 : Option Addr} {k7 : Nat} {a1 : Record} {b5 : Record} {r : Bool} (hsh : record_Same a1 b5 = some r) (hS : ∀ b, S0 b → b < w0.heap.size) (h4 : (SlA p2 a1.Samples.length k3 a1.Samples).p S0 w0) (h8 : (SlA p6 b5.Samples.length k7 b5.Samples).p S0 w0) : Calls Try.prog 17 #[.agg #[.string a1.Source.Network, .string a1.Source.Station, .string a1.Source.Location, .string a1.Source.Channel, .int .i64 a1.Start, .int .i64 a1.First, .int .i64 a1.Rate.Num, .int .i64 a1.Rate.Den, .int .i64 a1.Error, .int .i64 a1.Run, .int .i64 a1.Seq, .slice p2 a1.Samples.length k3], .agg #[.string b5.Source.Network, .string b5.Source.Station, .string b5.Source.Location, .string b5.Source.Channel, .int .i64 b5.Start, .int .i64 b5.First, .int .i64 b5.Rate.Num, .int .i64 b5.Rate.Den, .int .i64 b5.Error, .int .i64 b5.Run, .int .i64 b5.Seq, .slice p6 b5.Samples.length k7]] w0 (Ret [] w0 S0 (record_Same_rd w0 r)) := by
  refine calls_of_wp Try.func17 rfl ?_
  have hs := Sl.enter #[.agg #[.string a1.Source.Network, .string a1.Source.Station, .string a1.Source.Location, .string a1.Source.Channel, .int .i64 a1.Start, .int .i64 a1.First, .int .i64 a1.Rate.Num, .int .i64 a1.Rate.Den, .int .i64 a1.Error, .int .i64 a1.Run, .int .i64 a1.Seq, .slice p2 a1.Samples.length k3], .agg #[.string b5.Source.Network, .string b5.Source.Station, .string b5.Source.Location, .string b5.Source.Channel, .int .i64 b5.Start, .int .i64 b5.First, .int .i64 b5.Rate.Num, .int .i64 b5.Rate.Den, .int .i64 b5.Error, .int .i64 b5.Run, .int .i64 b5.Seq, .slice p6 b5.Samples.length k7]] 59 [(0, .agg #[.string a1.Source.Network, .string a1.Source.Station, .string a1.Source.Location, .string a1.Source.Channel, .int .i64 a1.Start, .int .i64 a1.First, .int .i64 a1.Rate.Num, .int .i64 a1.Rate.Den, .int .i64 a1.Error, .int .i64 a1.Run, .int .i64 a1.Seq, .slice p2 a1.Samples.length k3]), (1, .agg #[.string b5.Source.Network, .string b5.Source.Station, .string b5.Source.Location, .string b5.Source.Channel, .int .i64 b5.Start, .int .i64 b5.First, .int .i64 b5.Rate.Num, .int .i64 b5.Rate.Den, .int .i64 b5.Error, .int .i64 b5.Run, .int .i64 b5.Seq, .slice p6 b5.Samples.length k7])] rfl ⟨rfl, rfl, trivial⟩
  have hw := Wd.enter (E := []) hS (fun _ h => (by cases h))
  have hw := hw.addE h4
  have hw := hw.addE h8
  delta record_Same at hsh
  refine wp_seq ?_
  refine wp_region_lit ?_
  refine w_box (cs := [.string a1.Source.Network, .string a1.Source.Station, .string a1.Source.Location, .string a1.Source.Channel, .int .i64 a1.Start, .int .i64 a1.First, .int .i64 a1.Rate.Num, .int .i64 a1.Rate.Den, .int .i64 a1.Error, .int .i64 a1.Run, .int .i64 a1.Seq, .slice p2 a1.Samples.length k3]) hs hw rfl rfl rfl trivial ?_
  intro b9 a w hs hw
  refine w_box (cs := [.string b5.Source.Network, .string b5.Source.Station, .string b5.Source.Location, .string b5.Source.Channel, .int .i64 b5.Start, .int .i64 b5.First, .int .i64 b5.Rate.Num, .int .i64 b5.Rate.Den, .int .i64 b5.Error, .int .i64 b5.Run, .int .i64 b5.Seq, .slice p6 b5.Samples.length k7]) hs hw rfl rfl rfl trivial ?_
  intro b10 a w hs hw
  refine st_val hs (y_assign rfl) trivial rfl rfl fun a hs => ?_
  refine wpList_nil ?_
  refine then_normal ?_
  refine wp_seq ?_
  refine wp_region_lit ?_
  refine st_val hs (y_fieldAddr (o' := 0) Try.runUnderlying32 rfl Try.sizeOf28 rfl rfl rfl) trivial rfl rfl fun a hs => ?_
  refine st_val hs (y_loadBA (hw.ownAt 1 rfl) rfl Try.isAgg28 Try.sizeOf28 rfl rfl) trivial rfl rfl fun a hs => ?_
  refine st_val hs (y_fieldAddr (o' := 0) Try.runUnderlying32 rfl Try.sizeOf28 rfl rfl rfl) trivial rfl rfl fun a hs => ?_
  refine st_val hs (y_loadBA (hw.ownAt 0 rfl) rfl Try.isAgg28 Try.sizeOf28 rfl rfl) trivial rfl rfl fun a hs => ?_
  refine st_val hs (y_eqlA (by kernel_rfl) rfl rfl (eqv_struct Try.runUnderlying28 (by kernel_rfl) (EqF.cons1 rfl Try.isAgg9 rfl rfl (eqv_str Try.runUnderlying9) (EqF.cons1 rfl Try.isAgg9 rfl rfl (eqv_str Try.runUnderlying9) (EqF.cons1 rfl Try.isAgg9 rfl rfl (eqv_str Try.runUnderlying9) (EqF.cons1 rfl Try.isAgg9 rfl rfl (eqv_str Try.runUnderlying9) EqF.nil)))))) trivial rfl rfl fun a hs => ?_
  refine st_val hs (y_move rfl) trivial rfl rfl fun a hs => ?_
  refine wpl_join 6 (fun a w1 => w = w1 ∧ Sl 59 [(2, .pointer (some ⟨b9, 0, none⟩)), (3, .pointer (some ⟨b10, 0, none⟩)), (16, .bool (((a1.Source.Network == b5.Source.Network) && ((a1.Source.Station == b5.Source.Station) && ((a1.Source.Location == b5.Source.Location) && ((a1.Source.Channel == b5.Source.Channel) && true)))) && (a1.Start == b5.Start)))] a) ?_ ?_
  · rcases Bool.eq_false_or_eq_true ((a1.Source.Network == b5.Source.Network) && ((a1.Source.Station == b5.Source.Station) && ((a1.Source.Location == b5.Source.Location) && ((a1.Source.Channel == b5.Source.Channel) && true)))) with h11 | h11
    · have hs := hs.fix 10 (.bool true) rfl (vb h11)
      refine st_val hs (y_fieldAddr (o' := 4) Try.runUnderlying32 rfl Try.sizeOf3 rfl rfl rfl) ⟨_, rfl, rfl⟩ rfl rfl fun a hs => ?_
      refine st_val hs (y_loadB1 (hw.ownAt 1 rfl) rfl Try.isAgg3 rfl) ⟨_, rfl, rfl⟩ rfl rfl fun a hs => ?_
      refine st_val hs (y_fieldAddr (o' := 4) Try.runUnderlying32 rfl Try.sizeOf3 rfl rfl rfl) ⟨_, rfl, rfl⟩ rfl rfl fun a hs => ?_
      refine st_val hs (y_loadB1 (hw.ownAt 0 rfl) rfl Try.isAgg3 rfl) ⟨_, rfl, rfl⟩ rfl rfl fun a hs => ?_
      refine st_val hs (y_eql rfl rfl) ⟨_, rfl, rfl⟩ rfl rfl fun a hs => ?_
      refine st_val hs (y_pickT rfl rfl) trivial rfl rfl fun a hs => ?_
      refine wpList_nil ?_
      refine then_normal ?_
      exact ⟨rfl, (hs.fix 16 (.bool (((a1.Source.Network == b5.Source.Network) && ((a1.Source.Station == b5.Source.Station) && ((a1.Source.Location == b5.Source.Location) && ((a1.Source.Channel == b5.Source.Channel) && true)))) && (a1.Start == b5.Start))) rfl (and_t h11)).weaken _ ⟨rfl, rfl, rfl, trivial⟩⟩
    · have hs := hs.fix 10 (.bool false) rfl (vb h11)
      refine st_skip hs rfl rfl rfl rfl rfl fun a hs => ?_
      refine st_skip hs rfl rfl rfl rfl rfl fun a hs => ?_
      refine st_skip hs rfl rfl rfl rfl rfl fun a hs => ?_
      refine st_skip hs rfl rfl rfl rfl rfl fun a hs => ?_
      refine st_skip hs rfl rfl rfl rfl rfl fun a hs => ?_
      refine st_val hs (y_pickF rfl rfl) trivial rfl rfl fun a hs => ?_
      refine wpList_nil ?_
      refine then_normal ?_
      exact ⟨rfl, (hs.fix 16 (.bool (((a1.Source.Network == b5.Source.Network) && ((a1.Source.Station == b5.Source.Station) && ((a1.Source.Location == b5.Source.Location) && ((a1.Source.Channel == b5.Source.Channel) && true)))) && (a1.Start == b5.Start))) rfl (and_f h11)).weaken _ ⟨rfl, rfl, rfl, trivial⟩⟩
  · rintro a w1 ⟨h37, hs⟩
    subst h37
    refine st_val hs (y_move rfl) trivial rfl rfl fun a hs => ?_
    refine wpl_join 6 (fun a w1 => w = w1 ∧ Sl 59 [(2, .pointer (some ⟨b9, 0, none⟩)), (3, .pointer (some ⟨b10, 0, none⟩)), (23, .bool ((((a1.Source.Network == b5.Source.Network) && ((a1.Source.Station == b5.Source.Station) && ((a1.Source.Location == b5.Source.Location) && ((a1.Source.Channel == b5.Source.Channel) && true)))) && (a1.Start == b5.Start)) && (a1.First == b5.First)))] a) ?_ ?_
    · rcases Bool.eq_false_or_eq_true (((a1.Source.Network == b5.Source.Network) && ((a1.Source.Station == b5.Source.Station) && ((a1.Source.Location == b5.Source.Location) && ((a1.Source.Channel == b5.Source.Channel) && true)))) && (a1.Start == b5.Start)) with h12 | h12
      · have hs := hs.fix 17 (.bool true) rfl (vb h12)
        refine st_val hs (y_fieldAddr (o' := 5) Try.runUnderlying32 rfl Try.sizeOf3 rfl rfl rfl) ⟨_, rfl, rfl⟩ rfl rfl fun a hs => ?_
        refine st_val hs (y_loadB1 (hw.ownAt 1 rfl) rfl Try.isAgg3 rfl) ⟨_, rfl, rfl⟩ rfl rfl fun a hs => ?_
        refine st_val hs (y_fieldAddr (o' := 5) Try.runUnderlying32 rfl Try.sizeOf3 rfl rfl rfl) ⟨_, rfl, rfl⟩ rfl rfl fun a hs => ?_
        refine st_val hs (y_loadB1 (hw.ownAt 0 rfl) rfl Try.isAgg3 rfl) ⟨_, rfl, rfl⟩ rfl rfl fun a hs => ?_
        refine st_val hs (y_eql rfl rfl) ⟨_, rfl, rfl⟩ rfl rfl fun a hs => ?_
        refine st_val hs (y_pickT rfl rfl) trivial rfl rfl fun a hs => ?_
        refine wpList_nil ?_
        refine then_normal ?_
        exact ⟨rfl, (hs.fix 23 (.bool ((((a1.Source.Network == b5.Source.Network) && ((a1.Source.Station == b5.Source.Station) && ((a1.Source.Location == b5.Source.Location) && ((a1.Source.Channel == b5.Source.Channel) && true)))) && (a1.Start == b5.Start)) && (a1.First == b5.First))) rfl (and_t h12)).weaken _ ⟨rfl, rfl, rfl, trivial⟩⟩
      · have hs := hs.fix 17 (.bool false) rfl (vb h12)
        refine st_skip hs rfl rfl rfl rfl rfl fun a hs => ?_
        refine st_skip hs rfl rfl rfl rfl rfl fun a hs => ?_
        refine st_skip hs rfl rfl rfl rfl rfl fun a hs => ?_
        refine st_skip hs rfl rfl rfl rfl rfl fun a hs => ?_
        refine st_skip hs rfl rfl rfl rfl rfl fun a hs => ?_
        refine st_val hs (y_pickF rfl rfl) trivial rfl rfl fun a hs => ?_
        refine wpList_nil ?_
        refine then_normal ?_
        exact ⟨rfl, (hs.fix 23 (.bool ((((a1.Source.Network == b5.Source.Network) && ((a1.Source.Station == b5.Source.Station) && ((a1.Source.Location == b5.Source.Location) && ((a1.Source.Channel == b5.Source.Channel) && true)))) && (a1.Start == b5.Start)) && (a1.First == b5.First))) rfl (and_f h12)).weaken _ ⟨rfl, rfl, rfl, trivial⟩⟩
    · rintro a w1 ⟨h36, hs⟩
      subst h36
      refine st_val hs (y_move rfl) trivial rfl rfl fun a hs => ?_
      refine wpl_join 6 (fun a w1 => w = w1 ∧ Sl 59 [(2, .pointer (some ⟨b9, 0, none⟩)), (3, .pointer (some ⟨b10, 0, none⟩)), (30, .bool (((((a1.Source.Network == b5.Source.Network) && ((a1.Source.Station == b5.Source.Station) && ((a1.Source.Location == b5.Source.Location) && ((a1.Source.Channel == b5.Source.Channel) && true)))) && (a1.Start == b5.Start)) && (a1.First == b5.First)) && ((a1.Rate.Num == b5.Rate.Num) && ((a1.Rate.Den == b5.Rate.Den) && true))))] a) ?_ ?_
      · rcases Bool.eq_false_or_eq_true ((((a1.Source.Network == b5.Source.Network) && ((a1.Source.Station == b5.Source.Station) && ((a1.Source.Location == b5.Source.Location) && ((a1.Source.Channel == b5.Source.Channel) && true)))) && (a1.Start == b5.Start)) && (a1.First == b5.First)) with h13 | h13
        · have hs := hs.fix 24 (.bool true) rfl (vb h13)
          refine st_val hs (y_fieldAddr (o' := 6) Try.runUnderlying32 rfl Try.sizeOf30 rfl rfl rfl) ⟨_, rfl, rfl⟩ rfl rfl fun a hs => ?_
          refine st_val hs (y_loadBA (hw.ownAt 1 rfl) rfl Try.isAgg30 Try.sizeOf30 rfl rfl) ⟨_, rfl, rfl⟩ rfl rfl fun a hs => ?_
          refine st_val hs (y_fieldAddr (o' := 6) Try.runUnderlying32 rfl Try.sizeOf30 rfl rfl rfl) ⟨_, rfl, rfl⟩ rfl rfl fun a hs => ?_
          refine st_val hs (y_loadBA (hw.ownAt 0 rfl) rfl Try.isAgg30 Try.sizeOf30 rfl rfl) ⟨_, rfl, rfl⟩ rfl rfl fun a hs => ?_
          refine st_val hs (y_eqlA (by kernel_rfl) rfl rfl (eqv_struct Try.runUnderlying30 (by kernel_rfl) (EqF.cons1 rfl Try.isAgg3 rfl rfl (eqv_int Try.runUnderlying3) (EqF.cons1 rfl Try.isAgg3 rfl rfl (eqv_int Try.runUnderlying3) EqF.nil)))) ⟨_, rfl, rfl⟩ rfl rfl fun a hs => ?_
          refine st_val hs (y_pickT rfl rfl) trivial rfl rfl fun a hs => ?_
          refine wpList_nil ?_
          refine then_normal ?_
          exact ⟨rfl, (hs.fix 30 (.bool (((((a1.Source.Network == b5.Source.Network) && ((a1.Source.Station == b5.Source.Station) && ((a1.Source.Location == b5.Source.Location) && ((a1.Source.Channel == b5.Source.Channel) && true)))) && (a1.Start == b5.Start)) && (a1.First == b5.First)) && ((a1.Rate.Num == b5.Rate.Num) && ((a1.Rate.Den == b5.Rate.Den) && true)))) rfl (and_t h13)).weaken _ ⟨rfl, rfl, rfl, trivial⟩⟩
        · have hs := hs.fix 24 (.bool false) rfl (vb h13)
          refine st_skip hs rfl rfl rfl rfl rfl fun a hs => ?_
          refine st_skip hs rfl rfl rfl rfl rfl fun a hs => ?_
          refine st_skip hs rfl rfl rfl rfl rfl fun a hs => ?_
          refine st_skip hs rfl rfl rfl rfl rfl fun a hs => ?_
          refine st_skip hs rfl rfl rfl rfl rfl fun a hs => ?_
          refine st_val hs (y_pickF rfl rfl) trivial rfl rfl fun a hs => ?_
          refine wpList_nil ?_
          refine then_normal ?_
          exact ⟨rfl, (hs.fix 30 (.bool (((((a1.Source.Network == b5.Source.Network) && ((a1.Source.Station == b5.Source.Station) && ((a1.Source.Location == b5.Source.Location) && ((a1.Source.Channel == b5.Source.Channel) && true)))) && (a1.Start == b5.Start)) && (a1.First == b5.First)) && ((a1.Rate.Num == b5.Rate.Num) && ((a1.Rate.Den == b5.Rate.Den) && true)))) rfl (and_f h13)).weaken _ ⟨rfl, rfl, rfl, trivial⟩⟩
      · rintro a w1 ⟨h35, hs⟩
        subst h35
        refine st_val hs (y_move rfl) trivial rfl rfl fun a hs => ?_
        refine wpl_join 6 (fun a w1 => w = w1 ∧ Sl 59 [(2, .pointer (some ⟨b9, 0, none⟩)), (3, .pointer (some ⟨b10, 0, none⟩)), (37, .bool ((((((a1.Source.Network == b5.Source.Network) && ((a1.Source.Station == b5.Source.Station) && ((a1.Source.Location == b5.Source.Location) && ((a1.Source.Channel == b5.Source.Channel) && true)))) && (a1.Start == b5.Start)) && (a1.First == b5.First)) && ((a1.Rate.Num == b5.Rate.Num) && ((a1.Rate.Den == b5.Rate.Den) && true))) && (a1.Error == b5.Error)))] a) ?_ ?_
        · rcases Bool.eq_false_or_eq_true (((((a1.Source.Network == b5.Source.Network) && ((a1.Source.Station == b5.Source.Station) && ((a1.Source.Location == b5.Source.Location) && ((a1.Source.Channel == b5.Source.Channel) && true)))) && (a1.Start == b5.Start)) && (a1.First == b5.First)) && ((a1.Rate.Num == b5.Rate.Num) && ((a1.Rate.Den == b5.Rate.Den) && true))) with h14 | h14
          · have hs := hs.fix 31 (.bool true) rfl (vb h14)
            refine st_val hs (y_fieldAddr (o' := 8) Try.runUnderlying32 rfl Try.sizeOf3 rfl rfl rfl) ⟨_, rfl, rfl⟩ rfl rfl fun a hs => ?_
            refine st_val hs (y_loadB1 (hw.ownAt 1 rfl) rfl Try.isAgg3 rfl) ⟨_, rfl, rfl⟩ rfl rfl fun a hs => ?_
            refine st_val hs (y_fieldAddr (o' := 8) Try.runUnderlying32 rfl Try.sizeOf3 rfl rfl rfl) ⟨_, rfl, rfl⟩ rfl rfl fun a hs => ?_
            refine st_val hs (y_loadB1 (hw.ownAt 0 rfl) rfl Try.isAgg3 rfl) ⟨_, rfl, rfl⟩ rfl rfl fun a hs => ?_
            refine st_val hs (y_eql rfl rfl) ⟨_, rfl, rfl⟩ rfl rfl fun a hs => ?_
            refine st_val hs (y_pickT rfl rfl) trivial rfl rfl fun a hs => ?_
            refine wpList_nil ?_
            refine then_normal ?_
            exact ⟨rfl, (hs.fix 37 (.bool ((((((a1.Source.Network == b5.Source.Network) && ((a1.Source.Station == b5.Source.Station) && ((a1.Source.Location == b5.Source.Location) && ((a1.Source.Channel == b5.Source.Channel) && true)))) && (a1.Start == b5.Start)) && (a1.First == b5.First)) && ((a1.Rate.Num == b5.Rate.Num) && ((a1.Rate.Den == b5.Rate.Den) && true))) && (a1.Error == b5.Error))) rfl (and_t h14)).weaken _ ⟨rfl, rfl, rfl, trivial⟩⟩
          · have hs := hs.fix 31 (.bool false) rfl (vb h14)
            refine st_skip hs rfl rfl rfl rfl rfl fun a hs => ?_
            refine st_skip hs rfl rfl rfl rfl rfl fun a hs => ?_
            refine st_skip hs rfl rfl rfl rfl rfl fun a hs => ?_
            refine st_skip hs rfl rfl rfl rfl rfl fun a hs => ?_
            refine st_skip hs rfl rfl rfl rfl rfl fun a hs => ?_
            refine st_val hs (y_pickF rfl rfl) trivial rfl rfl fun a hs => ?_
            refine wpList_nil ?_
            refine then_normal ?_
            exact ⟨rfl, (hs.fix 37 (.bool ((((((a1.Source.Network == b5.Source.Network) && ((a1.Source.Station == b5.Source.Station) && ((a1.Source.Location == b5.Source.Location) && ((a1.Source.Channel == b5.Source.Channel) && true)))) && (a1.Start == b5.Start)) && (a1.First == b5.First)) && ((a1.Rate.Num == b5.Rate.Num) && ((a1.Rate.Den == b5.Rate.Den) && true))) && (a1.Error == b5.Error))) rfl (and_f h14)).weaken _ ⟨rfl, rfl, rfl, trivial⟩⟩
        · rintro a w1 ⟨h34, hs⟩
          subst h34
          refine st_val hs (y_move rfl) trivial rfl rfl fun a hs => ?_
          refine wpl_join 6 (fun a w1 => w = w1 ∧ Sl 59 [(2, .pointer (some ⟨b9, 0, none⟩)), (3, .pointer (some ⟨b10, 0, none⟩)), (44, .bool (((((((a1.Source.Network == b5.Source.Network) && ((a1.Source.Station == b5.Source.Station) && ((a1.Source.Location == b5.Source.Location) && ((a1.Source.Channel == b5.Source.Channel) && true)))) && (a1.Start == b5.Start)) && (a1.First == b5.First)) && ((a1.Rate.Num == b5.Rate.Num) && ((a1.Rate.Den == b5.Rate.Den) && true))) && (a1.Error == b5.Error)) && (a1.Run == b5.Run)))] a) ?_ ?_
          · rcases Bool.eq_false_or_eq_true ((((((a1.Source.Network == b5.Source.Network) && ((a1.Source.Station == b5.Source.Station) && ((a1.Source.Location == b5.Source.Location) && ((a1.Source.Channel == b5.Source.Channel) && true)))) && (a1.Start == b5.Start)) && (a1.First == b5.First)) && ((a1.Rate.Num == b5.Rate.Num) && ((a1.Rate.Den == b5.Rate.Den) && true))) && (a1.Error == b5.Error)) with h15 | h15
            · have hs := hs.fix 38 (.bool true) rfl (vb h15)
              refine st_val hs (y_fieldAddr (o' := 9) Try.runUnderlying32 rfl Try.sizeOf3 rfl rfl rfl) ⟨_, rfl, rfl⟩ rfl rfl fun a hs => ?_
              refine st_val hs (y_loadB1 (hw.ownAt 1 rfl) rfl Try.isAgg3 rfl) ⟨_, rfl, rfl⟩ rfl rfl fun a hs => ?_
              refine st_val hs (y_fieldAddr (o' := 9) Try.runUnderlying32 rfl Try.sizeOf3 rfl rfl rfl) ⟨_, rfl, rfl⟩ rfl rfl fun a hs => ?_
              refine st_val hs (y_loadB1 (hw.ownAt 0 rfl) rfl Try.isAgg3 rfl) ⟨_, rfl, rfl⟩ rfl rfl fun a hs => ?_
              refine st_val hs (y_eql rfl rfl) ⟨_, rfl, rfl⟩ rfl rfl fun a hs => ?_
              refine st_val hs (y_pickT rfl rfl) trivial rfl rfl fun a hs => ?_
              refine wpList_nil ?_
              refine then_normal ?_
              exact ⟨rfl, (hs.fix 44 (.bool (((((((a1.Source.Network == b5.Source.Network) && ((a1.Source.Station == b5.Source.Station) && ((a1.Source.Location == b5.Source.Location) && ((a1.Source.Channel == b5.Source.Channel) && true)))) && (a1.Start == b5.Start)) && (a1.First == b5.First)) && ((a1.Rate.Num == b5.Rate.Num) && ((a1.Rate.Den == b5.Rate.Den) && true))) && (a1.Error == b5.Error)) && (a1.Run == b5.Run))) rfl (and_t h15)).weaken _ ⟨rfl, rfl, rfl, trivial⟩⟩
            · have hs := hs.fix 38 (.bool false) rfl (vb h15)
              refine st_skip hs rfl rfl rfl rfl rfl fun a hs => ?_
              refine st_skip hs rfl rfl rfl rfl rfl fun a hs => ?_
              refine st_skip hs rfl rfl rfl rfl rfl fun a hs => ?_
              refine st_skip hs rfl rfl rfl rfl rfl fun a hs => ?_
              refine st_skip hs rfl rfl rfl rfl rfl fun a hs => ?_
              refine st_val hs (y_pickF rfl rfl) trivial rfl rfl fun a hs => ?_
              refine wpList_nil ?_
              refine then_normal ?_
              exact ⟨rfl, (hs.fix 44 (.bool (((((((a1.Source.Network == b5.Source.Network) && ((a1.Source.Station == b5.Source.Station) && ((a1.Source.Location == b5.Source.Location) && ((a1.Source.Channel == b5.Source.Channel) && true)))) && (a1.Start == b5.Start)) && (a1.First == b5.First)) && ((a1.Rate.Num == b5.Rate.Num) && ((a1.Rate.Den == b5.Rate.Den) && true))) && (a1.Error == b5.Error)) && (a1.Run == b5.Run))) rfl (and_f h15)).weaken _ ⟨rfl, rfl, rfl, trivial⟩⟩
          · rintro a w1 ⟨h33, hs⟩
            subst h33
            refine st_val hs (y_move rfl) trivial rfl rfl fun a hs => ?_
            refine wpl_join 6 (fun a w1 => w = w1 ∧ Sl 59 [(2, .pointer (some ⟨b9, 0, none⟩)), (3, .pointer (some ⟨b10, 0, none⟩)), (51, .bool ((((((((a1.Source.Network == b5.Source.Network) && ((a1.Source.Station == b5.Source.Station) && ((a1.Source.Location == b5.Source.Location) && ((a1.Source.Channel == b5.Source.Channel) && true)))) && (a1.Start == b5.Start)) && (a1.First == b5.First)) && ((a1.Rate.Num == b5.Rate.Num) && ((a1.Rate.Den == b5.Rate.Den) && true))) && (a1.Error == b5.Error)) && (a1.Run == b5.Run)) && (a1.Seq == b5.Seq)))] a) ?_ ?_
            · rcases Bool.eq_false_or_eq_true (((((((a1.Source.Network == b5.Source.Network) && ((a1.Source.Station == b5.Source.Station) && ((a1.Source.Location == b5.Source.Location) && ((a1.Source.Channel == b5.Source.Channel) && true)))) && (a1.Start == b5.Start)) && (a1.First == b5.First)) && ((a1.Rate.Num == b5.Rate.Num) && ((a1.Rate.Den == b5.Rate.Den) && true))) && (a1.Error == b5.Error)) && (a1.Run == b5.Run)) with h16 | h16
              · have hs := hs.fix 45 (.bool true) rfl (vb h16)
                refine st_val hs (y_fieldAddr (o' := 10) Try.runUnderlying32 rfl Try.sizeOf3 rfl rfl rfl) ⟨_, rfl, rfl⟩ rfl rfl fun a hs => ?_
                refine st_val hs (y_loadB1 (hw.ownAt 1 rfl) rfl Try.isAgg3 rfl) ⟨_, rfl, rfl⟩ rfl rfl fun a hs => ?_
                refine st_val hs (y_fieldAddr (o' := 10) Try.runUnderlying32 rfl Try.sizeOf3 rfl rfl rfl) ⟨_, rfl, rfl⟩ rfl rfl fun a hs => ?_
                refine st_val hs (y_loadB1 (hw.ownAt 0 rfl) rfl Try.isAgg3 rfl) ⟨_, rfl, rfl⟩ rfl rfl fun a hs => ?_
                refine st_val hs (y_eql rfl rfl) ⟨_, rfl, rfl⟩ rfl rfl fun a hs => ?_
                refine st_val hs (y_pickT rfl rfl) trivial rfl rfl fun a hs => ?_
                refine wpList_nil ?_
                refine then_normal ?_
                exact ⟨rfl, (hs.fix 51 (.bool ((((((((a1.Source.Network == b5.Source.Network) && ((a1.Source.Station == b5.Source.Station) && ((a1.Source.Location == b5.Source.Location) && ((a1.Source.Channel == b5.Source.Channel) && true)))) && (a1.Start == b5.Start)) && (a1.First == b5.First)) && ((a1.Rate.Num == b5.Rate.Num) && ((a1.Rate.Den == b5.Rate.Den) && true))) && (a1.Error == b5.Error)) && (a1.Run == b5.Run)) && (a1.Seq == b5.Seq))) rfl (and_t h16)).weaken _ ⟨rfl, rfl, rfl, trivial⟩⟩
              · have hs := hs.fix 45 (.bool false) rfl (vb h16)
                refine st_skip hs rfl rfl rfl rfl rfl fun a hs => ?_
                refine st_skip hs rfl rfl rfl rfl rfl fun a hs => ?_
                refine st_skip hs rfl rfl rfl rfl rfl fun a hs => ?_
                refine st_skip hs rfl rfl rfl rfl rfl fun a hs => ?_
                refine st_skip hs rfl rfl rfl rfl rfl fun a hs => ?_
                refine st_val hs (y_pickF rfl rfl) trivial rfl rfl fun a hs => ?_
                refine wpList_nil ?_
                refine then_normal ?_
                exact ⟨rfl, (hs.fix 51 (.bool ((((((((a1.Source.Network == b5.Source.Network) && ((a1.Source.Station == b5.Source.Station) && ((a1.Source.Location == b5.Source.Location) && ((a1.Source.Channel == b5.Source.Channel) && true)))) && (a1.Start == b5.Start)) && (a1.First == b5.First)) && ((a1.Rate.Num == b5.Rate.Num) && ((a1.Rate.Den == b5.Rate.Den) && true))) && (a1.Error == b5.Error)) && (a1.Run == b5.Run)) && (a1.Seq == b5.Seq))) rfl (and_f h16)).weaken _ ⟨rfl, rfl, rfl, trivial⟩⟩
            · rintro a w1 ⟨h32, hs⟩
              subst h32
              refine st_val hs (y_move rfl) trivial rfl rfl fun a hs => ?_
              obtain ⟨c24, hc24, hsh⟩ := bind_t hsh
              refine wpl_join 6 (fun a w => ∃ (Sv25 : Nat → Prop), Sl 59 [(58, .bool c24)] a ∧ Wd ⟨w0, S0, []⟩ Sv25 [] [] w) ?_ ?_
              · rcases Bool.eq_false_or_eq_true ((((((((a1.Source.Network == b5.Source.Network) && ((a1.Source.Station == b5.Source.Station) && ((a1.Source.Location == b5.Source.Location) && ((a1.Source.Channel == b5.Source.Channel) && true)))) && (a1.Start == b5.Start)) && (a1.First == b5.First)) && ((a1.Rate.Num == b5.Rate.Num) && ((a1.Rate.Den == b5.Rate.Den) && true))) && (a1.Error == b5.Error)) && (a1.Run == b5.Run)) && (a1.Seq == b5.Seq)) with h23 | h23
                · have hs := hs.fix 52 (.bool true) rfl (vb h23)
                  have hsh := ite_t hc24 h23
                  refine st_val hs (y_fieldAddr (o' := 11) Try.runUnderlying32 rfl Try.sizeOf22 rfl rfl rfl) ⟨_, rfl, rfl⟩ rfl rfl fun a hs => ?_
                  refine st_val hs (y_loadB1 (hw.ownAt 1 rfl) rfl Try.isAgg22 rfl) ⟨_, rfl, rfl⟩ rfl rfl fun a hs => ?_
                  refine st_val hs (y_fieldAddr (o' := 11) Try.runUnderlying32 rfl Try.sizeOf22 rfl rfl rfl) ⟨_, rfl, rfl⟩ rfl rfl fun a hs => ?_
                  refine st_val hs (y_loadB1 (hw.ownAt 0 rfl) rfl Try.isAgg22 rfl) ⟨_, rfl, rfl⟩ rfl rfl fun a hs => ?_
                  obtain ⟨rv27, h26, hsh⟩ := bind_t hsh
                  refine st_callR hs (slices_Equal_Lint_int_ok h26 hw.dom (hw.envAt 1 rfl) (hw.envAt 0 rfl)) (do_call Try.call40 rfl) ⟨_, rfl, rfl⟩ rfl rfl ?_
                  intro v31 Sv28 w a h29 h30 hs
                  subst h30
                  have hw := hw.call h29
                  refine st_val hs (y_pickT rfl rfl) trivial rfl rfl fun a hs => ?_
                  refine wpList_nil ?_
                  have hsh := Option.some.inj hsh
                  subst hsh
                  refine then_normal ?_
                  exact ⟨Sv28, (hs.wk rfl), (hw.ft [] [] (by decide) rfl rfl)⟩
                · have hs := hs.fix 52 (.bool false) rfl (vb h23)
                  have hsh := ite_f hc24 h23
                  refine st_skip hs rfl rfl rfl rfl rfl fun a hs => ?_
                  refine st_skip hs rfl rfl rfl rfl rfl fun a hs => ?_
                  refine st_skip hs rfl rfl rfl rfl rfl fun a hs => ?_
                  refine st_skip hs rfl rfl rfl rfl rfl fun a hs => ?_
                  refine st_skip hs rfl rfl rfl rfl rfl fun a hs => ?_
                  refine st_val hs (y_pickF rfl rfl) trivial rfl rfl fun a hs => ?_
                  refine wpList_nil ?_
                  have hsh := Option.some.inj hsh
                  subst hsh
                  refine then_normal ?_
                  exact ⟨S0, (hs.wk rfl), (hw.ft [] [] (by decide) rfl rfl)⟩
              · rintro a w ⟨Sv25, hs, hw⟩
                refine st_val hs (y_assign rfl) trivial rfl rfl fun a hs => ?_
                refine wpList_nil ?_
                refine then_normal ?_
                have hsh := Option.some.inj hsh
                subst hsh
                refine wp_ret ?_
                exact ret1 hs rfl (rv_tmp rfl) (hw.ret rfl)

end Go.Proofs.Ytdifjkamipeibaa.Wk

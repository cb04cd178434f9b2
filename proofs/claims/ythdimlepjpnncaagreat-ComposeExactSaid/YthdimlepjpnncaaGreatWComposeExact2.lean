/- The walks of ComposeExact, part 2: each Go function computes what its plain program computes. Printed by a program of ours. -/
import Derived.Test.YthdimlepjpnncaaGreatProg
import Derived.Test.YthdimlepjpnncaaGreatDat
import Derived.Test.YthdimlepjpnncaaGreatSh
import Derived.Test.YthdimlepjpnncaaGreatLa1
import Derived.KernelRfl
import Derived.Test.YthdimlepjpnncaaGreatLb1
import Derived.Shelf.SlLaysF0
import Derived.Test.YthdimlepjpnncaaGreatWComposeExact1
namespace Go.Proofs.YthdimlepjpnncaaGreat.Wk
open Go Go.RowKit Go.Proofs Go.Proofs.YthdimlepjpnncaaGreat.Sh Go.Proofs.Tryz
set_option linter.unusedVariables false
set_option linter.unusedSimpArgs false
set_option maxHeartbeats 4000000
set_option maxRecDepth 100000
abbrev made_Dice_Record_rd (w0 : World) (X : List Nat) (b2 : Nat) (r : (Record × Dice)) : (Nat → Prop) → World → Value → Prop := fun S w v => ∃ p0_11 k0_11 c0_11 pq0_0 kq0_0, v = V35 r.1 p0_11 k0_11 ∧ Outs X w0 S w [.row p0_11 r.1.Samples.length k0_11 c0_11 3 1, .box b2 (C75 r.2 pq0_0 kq0_0) 75] ∧ (RowA c0_11 r.1.Samples).p S w ∧ (Sq pq0_0 kq0_0 r.2.L).p S w
abbrev D16t1 (b2 : Nat) (b43 : Nat) (b8 : Nat) (b9 : Nat) (n7 : Int) : Slots := [(0, pt b2), (2, iv n7), (4, pt b8), (6, pt b9), (7, pt b43)]
abbrev D16t2 (b2 : Nat) (b50 : Nat) (b57 : Nat) (b73 : Nat) (rv37 : (Rate × Int)) (rv45 : (Int × Dice)) (rv52 : (Int × Dice)) (rv59 : (Int × Dice)) (rv64 : (Int × Dice)) (rv69 : (Int × Dice)) (s6 : SourceID) : Vs := [(0, 21, V31 s6), (1, 22, pt b2), (2, 23, iv rv45.1), (3, 24, iv (w64 (250000 * rv45.1))), (4, 25, iv (w64 (1000000000000 + (w64 (250000 * rv45.1))))), (5, 26, pt b2), (6, 27, sl (ad b50) ([0, 0, 3] : List Int).length ([0, 0, 3] : List Int)), (7, 28, iv rv52.1), (8, 29, V33 rv37.1), (9, 30, pt b2), (10, 31, sl (ad b57) ([0, 0, 10, 500] : List Int).length ([0, 0, 10, 500] : List Int)), (11, 32, iv rv59.1), (12, 33, pt b2), (13, 34, iv rv64.1), (14, 35, pt b2), (15, 36, iv rv69.1), (16, 37, .agg #[.string s6.Network, .string s6.Station, .string s6.Location, .string s6.Channel, iv (w64 (1000000000000 + (w64 (250000 * rv45.1)))), iv rv52.1, iv rv37.1.Num, iv rv37.1.Den, iv rv59.1, iv rv64.1, iv rv69.1, .slice none ([] : List Int).length 0]), (17, 9, pt b73)]
abbrev D16t3 : List Value := [iv 0, iv 0, iv 3]
abbrev D16t4 : List Int := ([0, 0, 3] : List Int)
abbrev D16t5 : List Value := Z9
abbrev D16t6 : List Int := ([0, 0, 10, 500] : List Int)
abbrev E16_1 (s6 : SourceID) (rv45 : (Int × Dice)) (rv52 : (Int × Dice)) (rv37 : (Rate × Int)) (rv59 : (Int × Dice)) (rv64 : (Int × Dice)) (rv69 : (Int × Dice)) (p263 : Option Addr) (k264 : Nat) (l262 : (List Int)) : List Value := [.string s6.Network, .string s6.Station, .string s6.Location, .string s6.Channel, iv (w64 (1000000000000 + (w64 (250000 * rv45.1)))), iv rv52.1, iv rv37.1.Num, iv rv37.1.Den, iv rv59.1, iv rv64.1, iv rv69.1, sl p263 k264 l262]
abbrev E16_0 (s6 : SourceID) (rv45 : (Int × Dice)) (rv52 : (Int × Dice)) (rv37 : (Rate × Int)) (rv59 : (Int × Dice)) (rv64 : (Int × Dice)) (rv69 : (Int × Dice)) : List Value := [.string s6.Network, .string s6.Station, .string s6.Location, .string s6.Channel, iv (w64 (1000000000000 + (w64 (250000 * rv45.1)))), iv rv52.1, iv rv37.1.Num, iv rv37.1.Den, iv rv59.1, iv rv64.1, iv rv69.1, .slice none ([] : List Int).length 0]
theorem made_Dice_Record_ok {w0 S0 b2 p3 k4 d1 s6 n7 r} (u : made_Dice_Record d1 s6 n7 = some r) (hS : Dm S0 w0) (hin : Ins S0 w0 [.box b2 (C75 d1 p3 k4) 75]) (h5 : (Sq p3 k4 d1.L).p S0 w0) : Calls Tryz.prog 16 #[pt b2, V31 s6, iv n7] w0 (Ret (blks [.box b2 (C75 d1 p3 k4) 75]) w0 S0 (made_Dice_Record_rd w0 (blks [.box b2 (C75 d1 p3 k4) 75]) b2 r)) := by
 refine enI 54 func16 rfl hS hin rfl rfl rfl fun a s d => ?_
 have d := d.addE h5
 refine sr (wb (C31 s6) s d rfl fun b8 a w s d => ?_)
 refine wa Z4 s d zeroValue35 fun b9 a w s d => ?_
 refine nl (sn0 1 s rfl fun a s => ?_)
 refine w_litSlice (α := Int) (vs := Z10) (cs := Z10) (xs := ([1, 2, 2, 3] : List Int)) s d El22 rfl rfl rfl rfl rfl rfl ⟨⟨_, rfl, rfl⟩, ⟨⟨_, rfl, rfl⟩, ⟨⟨_, rfl, rfl⟩, ⟨⟨_, rfl, rfl⟩, rfl⟩⟩⟩⟩ rfl trivial rfl fun b11 a w s d => ?_
 obtain ⟨rv13, h12, u⟩ := bt u
 obtain ⟨Sv17, d⟩ := w_share (α := Int) d 0 rfl 0 rfl
 refine cR s (made_Dice_Pick_ok h12 d.dom (d.ins [2] (by decide) rfl) (d.envAt 2 rfl) (d.envAt 0 rfl)) (do_call call47 rfl) rfl ?_
 rintro v21 Sv18 w a h19 ⟨p14, k15, rfl, h22, h16⟩ s
 have d := (d.callO [2] [0, 1] (by decide) rfl h19 h22).addE (e := Sq p14 k15 rv13.2.L) h16
 refine mv s rfl rfl fun a s => ?_
 refine w_litSlice (α := Int) (vs := Z11) (cs := Z11) (xs := ([1, 1, 1, 3] : List Int)) s d El22 rfl rfl rfl rfl rfl rfl ⟨⟨_, rfl, rfl⟩, ⟨⟨_, rfl, rfl⟩, ⟨⟨_, rfl, rfl⟩, ⟨⟨_, rfl, rfl⟩, rfl⟩⟩⟩⟩ rfl trivial rfl fun b24 a w s d => ?_
 obtain ⟨rv26, h25, u⟩ := bt u
 obtain ⟨Sv30, d⟩ := w_share (α := Int) d 0 rfl 0 rfl
 refine cR s (made_Dice_Pick_ok h25 d.dom (d.ins [0] (by decide) rfl) (d.envAt 2 rfl) (d.envAt 0 rfl)) (do_call call47 rfl) rfl ?_
 rintro v34 Sv31 w a h32 ⟨p27, k28, rfl, h35, h29⟩ s
 have d := (d.callO [0] [1, 2] (by decide) rfl h32 h35).addE (e := Sq p27 k28 rv26.2.L) h29
 obtain ⟨rv37, h36, u⟩ := bt u
 refine cV s d (ref02_New_ok h36 d.bdom) (do_call call48 rfl) rfl fun a w s d => ?_
 refine rn0 3 s rfl fun a s => ?_
 refine wa [iv 0, iv 0] s d zeroValue33 fun b43 a w s d => ?_
 refine ws (C33 rv37.1) s d 0 rfl rfl rfl sizeOf33 fun a w s d => ?_
 refine rz0 1 s rfl fun a s => ?_
 refine wp_seq ?_
 obtain ⟨rv45, h44, u⟩ := bt u
 obtain ⟨rv52, h51, u⟩ := bt u
 obtain ⟨rv59, h58, u⟩ := bt u
 obtain ⟨rv64, h63, u⟩ := bt u
 obtain ⟨rv69, h68, u⟩ := bt u
 refine wp_only (fun a w => ∃ Sv74 b73 k71 p70, Sl 54 [(0, pt b2), (2, iv n7), (6, pt b9), (9, pt b73)] a ∧ Wd ⟨w0, S0, blks [.box b2 (C75 d1 p3 k4) 75]⟩ Sv74 [.box b2 (C75 rv69.2 p70 k71) 75, .box b9 Z4 35, .box b73 (E16_0 s6 rv45 rv52 rv37 rv59 rv64 rv69) 35] [Sq p70 k71 rv69.2.L, Sq none 0 ([] : List Int)] w) ?_ ?_
 ·refine wp_region_phi (n := 19) (Φ := fun l a w => ∃ b50 b57 b73 k47 k54 k61 k66 k71 p46 p53 p60 p65 p70 S, SlF 54 (D16t1 b2 b43 b8 b9 n7) (D16t2 b2 b50 b57 b73 rv37 rv45 rv52 rv59 rv64 rv69 s6) l a ∧ Wd ⟨w0, S0, blks [.box b2 (C75 d1 p3 k4) 75]⟩ S [.box b43 (C33 rv37.1) 33, ((bif l 15 then .box b2 (C75 rv69.2 p70 k71) 75 else (bif l 13 then .box b2 (C75 rv64.2 p65 k66) 75 else (bif l 11 then .box b2 (C75 rv59.2 p60 k61) 75 else (bif l 7 then .box b2 (C75 rv52.2 p53 k54) 75 else (bif l 2 then .box b2 (C75 rv45.2 p46 k47) 75 else .box b2 (C75 rv26.2 p27 k28) 75))))) : Res), .box b9 Z4 35, .box b8 (C31 s6) 31, ((bif l 7 then emp else (bif l 6 then .row (ad b50) ([0, 0, 3] : List Int).length ([0, 0, 3] : List Int).length [iv 0, iv 0, iv 3] 3 1 else emp)) : Res), ((bif l 11 then emp else (bif l 10 then .row (ad b57) ([0, 0, 10, 500] : List Int).length ([0, 0, 10, 500] : List Int).length Z9 3 1 else emp)) : Res), ((bif l 18 then .box b73 (E16_0 s6 rv45 rv52 rv37 rv59 rv64 rv69) 35 else (bif l 17 then .box b73 Z4 35 else emp)) : Res)] [Sq p27 k28 rv26.2.L, Sq (ad b24) ([1, 1, 1, 3] : List Int).length ([1, 1, 1, 3] : List Int), RowA Z11 ([1, 1, 1, 3] : List Int), Sq p14 k15 rv13.2.L, Sq (ad b11) ([1, 2, 2, 3] : List Int).length ([1, 2, 2, 3] : List Int), RowA Z10 ([1, 2, 2, 3] : List Int), Sq p3 k4 d1.L, optA (l 2) (Sq p46 k47 rv45.2.L), optA (l 6) (RowA [iv 0, iv 0, iv 3] ([0, 0, 3] : List Int)), optA (l 7) (Sq (ad b50) ([0, 0, 3] : List Int).length ([0, 0, 3] : List Int)), optA (l 7) (Sq p53 k54 rv52.2.L), optA (l 10) (RowA Z9 ([0, 0, 10, 500] : List Int)), optA (l 11) (Sq (ad b57) ([0, 0, 10, 500] : List Int).length ([0, 0, 10, 500] : List Int)), optA (l 11) (Sq p60 k61 rv59.2.L), optA (l 13) (Sq p65 k66 rv64.2.L), optA (l 15) (Sq p70 k71 rv69.2.L)] w) [1, 1, 2, 3, 4, 1, 1, 3, 1, 1, 1, 4, 1, 5, 1, 6, 7, 1, 8] (by kernel_rfl) rfl (by kernel_rfl) ?_ (AllS.succ (AllS.succ (AllS.succ (AllS.succ (AllS.succ (AllS.succ (AllS.succ (AllS.succ (AllS.succ (AllS.succ (AllS.succ (AllS.succ (AllS.succ (AllS.succ (AllS.succ (AllS.succ (AllS.succ (AllS.succ (AllS.succ AllS.zero ?_) ?_) ?_) ?_) ?_) ?_) ?_) ?_) ?_) ?_) ?_) ?_) ?_) ?_) ?_) ?_) ?_) ?_) ?_) ?_
  ·obtain ⟨b50, b57, b73, k47, k54, k61, k66, k71, p46, p53, p60, p65, p70, _⟩ : ∃ (b50 : Nat) (b57 : Nat) (b73 : Nat) (k47 : Nat) (k54 : Nat) (k61 : Nat) (k66 : Nat) (k71 : Nat) (p46 : Option Addr) (p53 : Option Addr) (p60 : Option Addr) (p65 : Option Addr) (p70 : Option Addr), True := ⟨0, 0, 0, 0, 0, 0, 0, 0, none, none, none, none, none, trivial⟩
   have d := ((d.drew).emp).emp
   have d := ((d.emp).noE (Sq p70 k71 rv69.2.L)).noE (Sq p65 k66 rv64.2.L)
   have d := ((d.noE (Sq p60 k61 rv59.2.L)).noE (Sq (ad b57) ([0, 0, 10, 500] : List Int).length ([0, 0, 10, 500] : List Int))).noE (RowA Z9 ([0, 0, 10, 500] : List Int))
   have d := ((d.noE (Sq p53 k54 rv52.2.L)).noE (Sq (ad b50) ([0, 0, 3] : List Int).length ([0, 0, 3] : List Int))).noE (RowA [iv 0, iv 0, iv 3] ([0, 0, 3] : List Int))
   have d := d.noE (Sq p46 k47 rv45.2.L)
   exact ⟨b50, b57, b73, k47, k54, k61, k66, k71, p46, p53, p60, p65, p70, Sv31, SlF.init (s.wk rfl) (by kernel_rfl), d.gt [3, 4, 5, 6, 0, 1, 2] [9, 10, 11, 12, 13, 14, 15, 0, 1, 2, 3, 4, 5, 6, 7, 8] rfl rfl⟩
  ·intro l hi hp hc a w ⟨b50, b57, b73, k47, k54, k61, k66, k71, p46, p53, p60, p65, p70, S, hS, d⟩
   refine S_val hS (.b (t := 4) rfl .nil) rfl rfl trivial (y_loadBA (d.ownAt 3 rfl) rfl isAgg31 sizeOf31 rfl rfl) (rfl) 0 rfl fun a hS => ⟨b50, b57, b73, k47, k54, k61, k66, k71, p46, p53, p60, p65, p70, S, hS, d⟩
  ·intro l hi hp hc a w ⟨b50, b57, b73, k47, k54, k61, k66, k71, p46, p53, p60, p65, p70, S, hS, d⟩
   refine S_val hS (.b (t := 0) rfl .nil) rfl rfl trivial (y_move rfl) (rfl) 1 rfl fun a hS => ⟨b50, b57, b73, k47, k54, k61, k66, k71, p46, p53, p60, p65, p70, S, hS, d⟩
  ·intro l hi hp hc a w ⟨b50, b57, b73, k47, k54, k61, k66, k71, p46, p53, p60, p65, p70, S, hS, d⟩
   have h_7 := l_neg hc 7 hi rfl
   have h_11 := l_neg hc 11 h_7 rfl
   have h_13 := l_neg hc 13 h_11 rfl
   have h_15 := l_neg hc 15 h_13 rfl
   have d := d.fixR 1 (r' := .box b2 (C75 rv26.2 p27 k28) 75) rfl ((bF h_15).trans ((bF h_13).trans ((bF h_11).trans ((bF h_7).trans ((bF hi))))))
   have h_1 := hp 1 rfl
   refine S_eff rfl ?_
   have s := hS.open_ (.v (t := 22) 1 rfl h_1 .nil)
   refine cR s (made_Dice_Next_ok h44 d.dom (d.ins [1] (by decide) rfl) (d.envAt 0 rfl)) (do_call call15 rfl) rfl ?_
   rintro v110 Sv107 w a h108 ⟨p46, k47, rfl, h111, h48⟩ s
   have d := ((d.callO [1] [0, 2, 3, 4, 5, 6] (by decide) rfl h108 h111).addE (e := Sq p46 k47 rv45.2.L) h48).fixR 0 (r' := (bif l 15 then .box b2 (C75 rv69.2 p70 k71) 75 else (bif l 13 then .box b2 (C75 rv64.2 p65 k66) 75 else (bif l 11 then .box b2 (C75 rv59.2 p60 k61) 75 else (bif l 7 then .box b2 (C75 rv52.2 p53 k54) 75 else .box b2 (C75 rv45.2 p46 k47) 75))))) rfl ((bF h_15).trans ((bF h_13).trans ((bF h_11).trans ((bF h_7))))).symm
   have d := d.opt 0 rfl true
   exact nl ⟨b50, b57, b73, k47, k54, k61, k66, k71, p46, p53, p60, p65, p70, Sv107, hS.close (.v (t := 22) 1 rfl h_1 .nil) s rfl (.same (.same (.here (.same (.same (.same (.same (.same (.same (.same (.same (.same (.same (.same (.same (.same (.same (.same .nil)))))))))))))))))) 2 rfl, d.gt [1, 0, 2, 3, 4, 5, 6] [2, 3, 4, 5, 6, 7, 8, 0, 10, 11, 12, 13, 14, 15, 16, 17] rfl rfl⟩
  ·intro l hi hp hc a w ⟨b50, b57, b73, k47, k54, k61, k66, k71, p46, p53, p60, p65, p70, S, hS, d⟩
   have h_2 := hp 2 rfl
   refine S_val hS (.v (t := 23) 2 rfl h_2 .nil) rfl rfl trivial (y_mul rfl rfl) (rfl) 3 rfl fun a hS => ⟨b50, b57, b73, k47, k54, k61, k66, k71, p46, p53, p60, p65, p70, S, hS, d⟩
  ·intro l hi hp hc a w ⟨b50, b57, b73, k47, k54, k61, k66, k71, p46, p53, p60, p65, p70, S, hS, d⟩
   have h_3 := hp 3 rfl
   refine S_val hS (.v (t := 24) 3 rfl h_3 .nil) rfl rfl trivial (y_add rfl rfl) (rfl) 4 rfl fun a hS => ⟨b50, b57, b73, k47, k54, k61, k66, k71, p46, p53, p60, p65, p70, S, hS, d⟩
  ·intro l hi hp hc a w ⟨b50, b57, b73, k47, k54, k61, k66, k71, p46, p53, p60, p65, p70, S, hS, d⟩
   refine S_val hS (.b (t := 0) rfl .nil) rfl rfl trivial (y_move rfl) (rfl) 5 rfl fun a hS => ⟨b50, b57, b73, k47, k54, k61, k66, k71, p46, p53, p60, p65, p70, S, hS, d⟩
  ·intro l hi hp hc a w ⟨b50, b57, b73, k47, k54, k61, k66, k71, p46, p53, p60, p65, p70, S, hS, d⟩
   refine S_eff rfl ?_
   have s := hS.open_ .nil
   refine w_litSlice (α := Int) (vs := D16t3) (cs := D16t3) (xs := D16t4) s d El22 rfl rfl rfl rfl rfl rfl ⟨⟨_, rfl, rfl⟩, ⟨⟨_, rfl, rfl⟩, ⟨⟨_, rfl, rfl⟩, rfl⟩⟩⟩ rfl trivial rfl fun b50 a w s d => ?_
   have h_7 := l_neg hc 7 hi rfl
   have d := ((d.fixR 0 (r' := (bif l 7 then emp else .row (ad b50) ([0, 0, 3] : List Int).length ([0, 0, 3] : List Int).length [iv 0, iv 0, iv 3] 3 1)) rfl ((bF h_7)).symm).opt 0 rfl true).noL h_7 (Sq (ad b50) ([0, 0, 3] : List Int).length ([0, 0, 3] : List Int))
   exact nl ⟨b50, b57, b73, k47, k54, k61, k66, k71, p46, p53, p60, p65, p70, S, hS.close .nil s rfl (.same (.same (.same (.same (.same (.same (.here (.same (.same (.same (.same (.same (.same (.same (.same (.same (.same (.same .nil)))))))))))))))))) 6 rfl, d.gt [1, 2, 3, 4, 0, 6, 7] [3, 4, 5, 6, 7, 8, 9, 10, 1, 0, 13, 14, 15, 16, 17, 18] rfl rfl⟩
  ·intro l hi hp hc a w ⟨b50, b57, b73, k47, k54, k61, k66, k71, p46, p53, p60, p65, p70, S, hS, d⟩
   have h_11 := l_neg hc 11 hi rfl
   have h_13 := l_neg hc 13 h_11 rfl
   have h_15 := l_neg hc 15 h_13 rfl
   have h_2 := hp 2 rfl
   have d := d.fixR 1 (r' := .box b2 (C75 rv45.2 p46 k47) 75) rfl ((bF h_15).trans ((bF h_13).trans ((bF h_11).trans ((bF hi).trans ((bT h_2))))))
   have h_6 := hp 6 rfl
   have d := ((d.fixR 4 (r' := .row (ad b50) ([0, 0, 3] : List Int).length ([0, 0, 3] : List Int).length [iv 0, iv 0, iv 3] 3 1) rfl ((bF hi).trans ((bT h_6)))).yes 7 rfl h_2).yes 9 rfl h_6
   have h_5 := hp 5 rfl
   refine S_eff rfl ?_
   have s := hS.open_ (.v (t := 26) 5 rfl h_5 (.v (t := 27) 6 rfl h_6 .nil))
   obtain ⟨Sv118, d⟩ := w_share (α := Int) d 4 rfl 0 rfl
   refine cR s (made_Dice_Pick_ok h51 d.dom (d.ins [1] (by decide) rfl) (d.envAt 2 rfl) (d.envAt 0 rfl)) (do_call call47 rfl) rfl ?_
   rintro v122 Sv119 w a h120 ⟨p53, k54, rfl, h123, h55⟩ s
   have d := ((d.callO [1] [0, 2, 3, 4, 5] (by decide) rfl h120 h123).addE (e := Sq p53 k54 rv52.2.L) h55).fixR 0 (r' := (bif l 15 then .box b2 (C75 rv69.2 p70 k71) 75 else (bif l 13 then .box b2 (C75 rv64.2 p65 k66) 75 else (bif l 11 then .box b2 (C75 rv59.2 p60 k61) 75 else .box b2 (C75 rv52.2 p53 k54) 75)))) rfl ((bF h_15).trans ((bF h_13).trans ((bF h_11)))).symm
   have d := ((d.emp).opt 1 rfl true).opt 1 rfl true
   exact nl ⟨b50, b57, b73, k47, k54, k61, k66, k71, p46, p53, p60, p65, p70, Sv119, hS.close (.v (t := 26) 5 rfl h_5 (.v (t := 27) 6 rfl h_6 .nil)) s rfl (.same (.same (.same (.same (.same (.same (.same (.here (.same (.same (.same (.same (.same (.same (.same (.same (.same (.same .nil)))))))))))))))))) 7 rfl, d.gt [2, 1, 3, 4, 0, 5, 6] [6, 7, 8, 9, 10, 11, 12, 13, 14, 1, 0, 17, 18, 19, 20, 21] rfl rfl⟩
  ·intro l hi hp hc a w ⟨b50, b57, b73, k47, k54, k61, k66, k71, p46, p53, p60, p65, p70, S, hS, d⟩
   refine S_val hS (.b (t := 7) rfl .nil) rfl rfl trivial (y_loadBA (d.ownAt 0 rfl) rfl isAgg33 sizeOf33 rfl rfl) (rfl) 8 rfl fun a hS => ⟨b50, b57, b73, k47, k54, k61, k66, k71, p46, p53, p60, p65, p70, S, hS, d⟩
  ·intro l hi hp hc a w ⟨b50, b57, b73, k47, k54, k61, k66, k71, p46, p53, p60, p65, p70, S, hS, d⟩
   refine S_val hS (.b (t := 0) rfl .nil) rfl rfl trivial (y_move rfl) (rfl) 9 rfl fun a hS => ⟨b50, b57, b73, k47, k54, k61, k66, k71, p46, p53, p60, p65, p70, S, hS, d⟩
  ·intro l hi hp hc a w ⟨b50, b57, b73, k47, k54, k61, k66, k71, p46, p53, p60, p65, p70, S, hS, d⟩
   refine S_eff rfl ?_
   have s := hS.open_ .nil
   refine w_litSlice (α := Int) (vs := D16t5) (cs := D16t5) (xs := D16t6) s d El22 rfl rfl rfl rfl rfl rfl ⟨⟨_, rfl, rfl⟩, ⟨⟨_, rfl, rfl⟩, ⟨⟨_, rfl, rfl⟩, ⟨⟨_, rfl, rfl⟩, rfl⟩⟩⟩⟩ rfl trivial rfl fun b57 a w s d => ?_
   have h_11 := l_neg hc 11 hi rfl
   have d := ((d.fixR 0 (r' := (bif l 11 then emp else .row (ad b57) ([0, 0, 10, 500] : List Int).length ([0, 0, 10, 500] : List Int).length Z9 3 1)) rfl ((bF h_11)).symm).opt 0 rfl true).noL h_11 (Sq (ad b57) ([0, 0, 10, 500] : List Int).length ([0, 0, 10, 500] : List Int))
   exact nl ⟨b50, b57, b73, k47, k54, k61, k66, k71, p46, p53, p60, p65, p70, S, hS.close .nil s rfl (.same (.same (.same (.same (.same (.same (.same (.same (.same (.same (.here (.same (.same (.same (.same (.same (.same (.same .nil)))))))))))))))))) 10 rfl, d.gt [1, 2, 3, 4, 5, 0, 7] [3, 4, 5, 6, 7, 8, 9, 10, 11, 12, 13, 1, 0, 16, 17, 18] rfl rfl⟩
  ·intro l hi hp hc a w ⟨b50, b57, b73, k47, k54, k61, k66, k71, p46, p53, p60, p65, p70, S, hS, d⟩
   have h_13 := l_neg hc 13 hi rfl
   have h_15 := l_neg hc 15 h_13 rfl
   have h_7 := hp 7 rfl
   have d := d.fixR 1 (r' := .box b2 (C75 rv52.2 p53 k54) 75) rfl ((bF h_15).trans ((bF h_13).trans ((bF hi).trans ((bT h_7)))))
   have h_10 := hp 10 rfl
   have d := ((d.fixR 5 (r' := .row (ad b57) ([0, 0, 10, 500] : List Int).length ([0, 0, 10, 500] : List Int).length Z9 3 1) rfl ((bF hi).trans ((bT h_10)))).yes 10 rfl h_7).yes 12 rfl h_10
   have h_9 := hp 9 rfl
   refine S_eff rfl ?_
   have s := hS.open_ (.v (t := 30) 9 rfl h_9 (.v (t := 31) 10 rfl h_10 .nil))
   obtain ⟨Sv130, d⟩ := w_share (α := Int) d 5 rfl 0 rfl
   refine cR s (made_Dice_Pick_ok h58 d.dom (d.ins [1] (by decide) rfl) (d.envAt 2 rfl) (d.envAt 0 rfl)) (do_call call47 rfl) rfl ?_
   rintro v134 Sv131 w a h132 ⟨p60, k61, rfl, h135, h62⟩ s
   have d := ((d.callO [1] [0, 2, 3, 4, 5] (by decide) rfl h132 h135).addE (e := Sq p60 k61 rv59.2.L) h62).fixR 0 (r' := (bif l 15 then .box b2 (C75 rv69.2 p70 k71) 75 else (bif l 13 then .box b2 (C75 rv64.2 p65 k66) 75 else .box b2 (C75 rv59.2 p60 k61) 75))) rfl ((bF h_15).trans ((bF h_13))).symm
   have d := ((d.emp).opt 1 rfl true).opt 1 rfl true
   exact nl ⟨b50, b57, b73, k47, k54, k61, k66, k71, p46, p53, p60, p65, p70, Sv131, hS.close (.v (t := 30) 9 rfl h_9 (.v (t := 31) 10 rfl h_10 .nil)) s rfl (.same (.same (.same (.same (.same (.same (.same (.same (.same (.same (.same (.here (.same (.same (.same (.same (.same (.same .nil)))))))))))))))))) 11 rfl, d.gt [2, 1, 3, 4, 5, 0, 6] [6, 7, 8, 9, 10, 11, 12, 13, 14, 15, 16, 17, 1, 0, 20, 21] rfl rfl⟩
  ·intro l hi hp hc a w ⟨b50, b57, b73, k47, k54, k61, k66, k71, p46, p53, p60, p65, p70, S, hS, d⟩
   refine S_val hS (.b (t := 0) rfl .nil) rfl rfl trivial (y_move rfl) (rfl) 12 rfl fun a hS => ⟨b50, b57, b73, k47, k54, k61, k66, k71, p46, p53, p60, p65, p70, S, hS, d⟩
  ·intro l hi hp hc a w ⟨b50, b57, b73, k47, k54, k61, k66, k71, p46, p53, p60, p65, p70, S, hS, d⟩
   have h_15 := l_neg hc 15 hi rfl
   have h_11 := hp 11 rfl
   have d := (d.fixR 1 (r' := .box b2 (C75 rv59.2 p60 k61) 75) rfl ((bF h_15).trans ((bF hi).trans ((bT h_11))))).yes 13 rfl h_11
   have h_12 := hp 12 rfl
   refine S_eff rfl ?_
   have s := hS.open_ (.v (t := 33) 12 rfl h_12 .nil)
   refine cR s (made_Dice_Next_ok h63 d.dom (d.ins [1] (by decide) rfl) (d.envAt 0 rfl)) (do_call call15 rfl) rfl ?_
   rintro v144 Sv141 w a h142 ⟨p65, k66, rfl, h145, h67⟩ s
   have d := ((d.callO [1] [0, 2, 3, 4, 5, 6] (by decide) rfl h142 h145).addE (e := Sq p65 k66 rv64.2.L) h67).fixR 0 (r' := (bif l 15 then .box b2 (C75 rv69.2 p70 k71) 75 else .box b2 (C75 rv64.2 p65 k66) 75)) rfl ((bF h_15)).symm
   have d := d.opt 0 rfl true
   exact nl ⟨b50, b57, b73, k47, k54, k61, k66, k71, p46, p53, p60, p65, p70, Sv141, hS.close (.v (t := 33) 12 rfl h_12 .nil) s rfl (.same (.same (.same (.same (.same (.same (.same (.same (.same (.same (.same (.same (.same (.here (.same (.same (.same (.same .nil)))))))))))))))))) 13 rfl, d.gt [1, 0, 2, 3, 4, 5, 6] [3, 4, 5, 6, 7, 8, 9, 10, 11, 12, 13, 14, 15, 16, 0, 18] rfl rfl⟩
  ·intro l hi hp hc a w ⟨b50, b57, b73, k47, k54, k61, k66, k71, p46, p53, p60, p65, p70, S, hS, d⟩
   refine S_val hS (.b (t := 0) rfl .nil) rfl rfl trivial (y_move rfl) (rfl) 14 rfl fun a hS => ⟨b50, b57, b73, k47, k54, k61, k66, k71, p46, p53, p60, p65, p70, S, hS, d⟩
  ·intro l hi hp hc a w ⟨b50, b57, b73, k47, k54, k61, k66, k71, p46, p53, p60, p65, p70, S, hS, d⟩
   have h_13 := hp 13 rfl
   have d := (d.fixR 1 (r' := .box b2 (C75 rv64.2 p65 k66) 75) rfl ((bF hi).trans ((bT h_13)))).yes 14 rfl h_13
   have h_14 := hp 14 rfl
   refine S_eff rfl ?_
   have s := hS.open_ (.v (t := 35) 14 rfl h_14 .nil)
   refine cR s (made_Dice_Next_ok h68 d.dom (d.ins [1] (by decide) rfl) (d.envAt 0 rfl)) (do_call call15 rfl) rfl ?_
   rintro v154 Sv151 w a h152 ⟨p70, k71, rfl, h155, h72⟩ s
   have d := ((d.callO [1] [0, 2, 3, 4, 5, 6] (by decide) rfl h152 h155).addE (e := Sq p70 k71 rv69.2.L) h72).opt 0 rfl true
   exact nl ⟨b50, b57, b73, k47, k54, k61, k66, k71, p46, p53, p60, p65, p70, Sv151, hS.close (.v (t := 35) 14 rfl h_14 .nil) s rfl (.same (.same (.same (.same (.same (.same (.same (.same (.same (.same (.same (.same (.same (.same (.same (.here (.same (.same .nil)))))))))))))))))) 15 rfl, d.gt [1, 0, 2, 3, 4, 5, 6] [3, 4, 5, 6, 7, 8, 9, 10, 11, 12, 13, 14, 15, 16, 17, 0] rfl rfl⟩
  ·intro l hi hp hc a w ⟨b50, b57, b73, k47, k54, k61, k66, k71, p46, p53, p60, p65, p70, S, hS, d⟩
   have h_15 := hp 15 rfl
   have h_13 := hp 13 rfl
   have h_11 := hp 11 rfl
   have h_8 := hp 8 rfl
   have h_7 := hp 7 rfl
   have h_4 := hp 4 rfl
   have h_0 := hp 0 rfl
   refine S_val hS (.v (t := 21) 0 rfl h_0 (.v (t := 25) 4 rfl h_4 (.v (t := 28) 7 rfl h_7 (.v (t := 29) 8 rfl h_8 (.v (t := 32) 11 rfl h_11 (.v (t := 34) 13 rfl h_13 (.v (t := 36) 15 rfl h_15 .nil))))))) rfl rfl trivial (y_build (vs := [(0, V31 s6), (1, iv (w64 (1000000000000 + (w64 (250000 * rv45.1))))), (2, iv rv52.1), (3, V33 rv37.1), (4, iv rv59.1), (5, iv rv64.1), (6, iv rv69.1)]) Bld35 rfl rfl) (rfl) 16 rfl fun a hS => ⟨b50, b57, b73, k47, k54, k61, k66, k71, p46, p53, p60, p65, p70, S, hS, d⟩
  ·intro l hi hp hc a w ⟨b50, b57, b73, k47, k54, k61, k66, k71, p46, p53, p60, p65, p70, S, hS, d⟩
   refine S_eff rfl ?_
   have s := hS.open_ .nil
   refine wa Z4 s d zeroValue35 fun b73 a w s d => ?_
   have h_18 := l_neg hc 18 hi rfl
   have d := d.fixR 0 (r' := (bif l 18 then .box b73 (E16_0 s6 rv45 rv52 rv37 rv59 rv64 rv69) 35 else .box b73 Z4 35)) rfl ((bF h_18)).symm
   exact nl ⟨b50, b57, b73, k47, k54, k61, k66, k71, p46, p53, p60, p65, p70, S, hS.close .nil s rfl (.same (.same (.same (.same (.same (.same (.same (.same (.same (.same (.same (.same (.same (.same (.same (.same (.same (.here .nil)))))))))))))))))) 17 rfl, d.gt [1, 2, 3, 4, 5, 6, 0] [0, 1, 2, 3, 4, 5, 6, 7, 8, 9, 10, 11, 12, 13, 14, 15] rfl rfl⟩
  ·intro l hi hp hc a w ⟨b50, b57, b73, k47, k54, k61, k66, k71, p46, p53, p60, p65, p70, S, hS, d⟩
   have h_17 := hp 17 rfl
   have d := d.fixR 6 (r' := .box b73 Z4 35) rfl ((bF hi).trans ((bT h_17)))
   have h_16 := hp 16 rfl
   refine S_eff rfl ?_
   have s := hS.open_ (.v (t := 9) 17 rfl h_17 (.v (t := 37) 16 rfl h_16 .nil))
   refine ws (E16_0 s6 rv45 rv52 rv37 rv59 rv64 rv69) s d 6 rfl rfl rfl sizeOf35 fun a w s d => ?_
   exact nl ⟨b50, b57, b73, k47, k54, k61, k66, k71, p46, p53, p60, p65, p70, S, hS.close0 (.v (t := 9) 17 rfl h_17 (.v (t := 37) 16 rfl h_16 .nil)) s rfl, d.gt [0, 1, 2, 3, 4, 5, 6] [0, 1, 2, 3, 4, 5, 6, 7, 8, 9, 10, 11, 12, 13, 14, 15] rfl rfl⟩
  intro l a w hl ⟨b50, b57, b73, k47, k54, k61, k66, k71, p46, p53, p60, p65, p70, S, hS, d⟩
  have d := ((d.yes 15 rfl (hl 15 (by decide))).fixR 1 (r' := .box b2 (C75 rv69.2 p70 k71) 75) rfl (bT (hl 15 (by decide)))).fixR 6 (r' := .box b73 (E16_0 s6 rv45 rv52 rv37 rv59 rv64 rv69) 35) rfl (bT (hl 18 (by decide)))
  have s := hS.on (.b (t := 0) rfl (.b (t := 2) rfl (.b (t := 6) rfl (.v (t := 9) 17 rfl (hl 17 (by decide)) .nil))))
  have d := d.addE (e := SlA (α := Int) none 0 0 []) nil_sl
  exact ⟨S, b73, k71, p70, wj s d [1, 2, 6] [1, 0]⟩
 rintro a w ⟨Sv74, b73, k71, p70, s, d⟩
 refine tn (wp_seq (sn0 2 s rfl fun a s => ?_))
 obtain ⟨rv157, h156, u⟩ := bt u
 refine cR s (made_Dice_Next_ok h156 d.dom (d.ins [0] (by decide) rfl) (d.envAt 0 rfl)) (do_call call15 rfl) rfl ?_
 rintro v164 Sv161 w a h162 ⟨p158, k159, rfl, h165, h160⟩ s
 have d := (d.callO [0] [1, 2] (by decide) rfl h162 h165).addE (e := Sq p158 k159 rv157.2.L) h160
 refine sv s (y_add rfl rfl) rfl fun a s => ?_
 obtain ⟨i167, h166, u⟩ := bt u
 refine sv s (y_assignI rfl h166) rfl fun a s => ?_
 refine nl ?_
 obtain ⟨e232, h295, u⟩ := bt u
 refine wp_join (fun a w => ∃ p233 k234 c235 p236 k237 Sv238, Sl 54 [(6, pt b9), (9, pt b73)] a ∧ Wd ⟨w0, S0, blks [.box b2 (C75 d1 p3 k4) 75]⟩ Sv238 [.box b2 [sl p233 k234 e232.1, iv e232.2.1] 75, .box b9 Z4 35, .box b73 [.string s6.Network, .string s6.Station, .string s6.Location, .string s6.Channel, iv (w64 (1000000000000 + (w64 (250000 * rv45.1)))), iv rv52.1, iv rv37.1.Num, iv rv37.1.Den, iv rv59.1, iv rv64.1, iv rv69.1, sl p236 k237 e232.2.2] 35, .row p236 e232.2.2.length k237 c235 3 1] [Sq p233 k234 e232.1, Sq none 0 ([] : List Int), RowA c235 e232.2.2] w) ?_ ?_
 ·refine wp_block ?_
  have d := d.nilRow Int 3
  refine wp_while (fun sv168 a w => ∃ p207 k208 c209 p210 k211 Sv212, Sl 54 [(0, pt b2), (6, pt b9), (9, pt b73), (10, iv sv168.2.2.2)] a ∧ Wd ⟨w0, S0, blks [.box b2 (C75 d1 p3 k4) 75]⟩ Sv212 [.box b2 [sl p207 k208 sv168.1, iv sv168.2.1] 75, .box b9 Z4 35, .box b73 [.string s6.Network, .string s6.Station, .string s6.Location, .string s6.Channel, iv (w64 (1000000000000 + (w64 (250000 * rv45.1)))), iv rv52.1, iv rv37.1.Num, iv rv37.1.Den, iv rv59.1, iv rv64.1, iv rv69.1, sl p210 k211 sv168.2.2.1] 35, .row p210 sv168.2.2.1.length k211 c209 3 1] [Sq p207 k208 sv168.1, Sq none 0 ([] : List Int), RowA c209 sv168.2.2.1] w) (rv157.2.L, rv157.2.At, ([] : List Int), i167) h295 ⟨p158, k159, [], none, 0, Sv161, wj s d [1, 2, 3, 0] [1, 3, 0]⟩ ?_
  clear h295
  repeat clear u
  rintro sv168 a w tv230 ⟨p207, k208, c209, p210, k211, Sv212, s, d⟩ u hd229
  refine wp_seq (sz0 2 s rfl fun a s => ?_)
  refine cd s u rfl (fun u => ?_) fun u => ?_
  ·refine sk (wp_seq (wp_block ?_))
   obtain ⟨rv255, h254, u⟩ := bt u
   obtain ⟨l262, h261, u⟩ := bt u
   refine wp_only (fun a w => ∃ Sv266 c265 k257 k264 p256 p263, Sl 54 [(0, pt b2), (6, pt b9), (9, pt b73), (10, iv sv168.2.2.2)] a ∧ Wd ⟨w0, S0, blks [.box b2 (C75 d1 p3 k4) 75]⟩ Sv266 [.box b2 (C75 rv255.2 p256 k257) 75, .box b9 Z4 35, .box b73 (E16_1 s6 rv45 rv52 rv37 rv59 rv64 rv69 p263 k264 l262) 35, .row p263 l262.length k264 c265 3 1] [Sq p256 k257 rv255.2.L, Sq none 0 ([] : List Int), RowA c265 l262] w) ?_ ?_
   ·refine h_c [1] [] d rfl rfl (by kernel_rfl) rfl fun hC d => ?_
    refine gn 2 [0, 2] [] s hC rfl rfl rfl fun a s => ?_
    refine h_all (rs := [1, 3]) (by kernel_rfl) rfl ?_
    refine AllH.cons rfl ?_ ?_
    ·refine sv s (y_loadB1 (d.ownAt 2 rfl) rfl isAgg22 rfl) rfl fun a s => ?_
     refine h_n [1] [] d rfl rfl fun hC => ?_
     refine ho 3 rfl ?_
     refine cR s (made_Dice_Next_ok h254 d.dom (d.ins [0] (by decide) rfl) (d.envAt 0 rfl)) (do_call call15 rfl) rfl ?_
     rintro v270 Sv267 w a h268 ⟨p256, k257, rfl, h271, h258⟩ s
     have d := (d.callO [0] [1, 2, 3] (by decide) rfl h268 h271).addE (e := Sq p256 k257 rv255.2.L) h258
     refine h_n [1] [] d rfl rfl fun hC => ?_
     refine ho 4 rfl ?_
     refine w_litSlice (α := Int) (vs := [iv rv255.1]) (cs := [iv rv255.1]) (xs := ([rv255.1] : List Int)) s d El22 rfl rfl rfl rfl rfl rfl ⟨⟨_, rfl, rfl⟩, rfl⟩ rfl trivial rfl fun b260 a w s d => ?_
     refine h_n [2] [] d rfl rfl fun hC => ?_
     refine h_d [2, 0] [] [0] [] d rfl rfl rfl rfl fun hC => ?_
     refine ho 5 rfl ?_
     refine w_appendR (α := Int) s d El22 4 rfl rfl rfl 4 rfl 0 rfl 0 rfl h261 rfl trivial ?_
     intro p263 k264 c265 a w s d
     refine h_n [2, 0] [] d rfl rfl fun hC => ?_
     refine gv s 6 rfl rfl hC (fun w hC => y_fieldAddr (o' := 11) runUnderlying35 rfl sizeOf22 rfl rfl rfl) fun a s => ?_
     refine ho 7 rfl ?_
     refine ws (E16_1 s6 rv45 rv52 rv37 rv59 rv64 rv69 p263 k264 l262) s d 3 rfl rfl rfl sizeOf22 fun a w s d => ?_
     refine h_n [2, 0] [] d rfl rfl fun hC => ?_
     refine h_done (by kernel_rfl) ?_
     exact ⟨Sv267, c265, k257, k264, p256, p263, wj s d [1, 2, 3, 4] [2, 4, 0]⟩
    refine AllH.cons rfl ?_ ?_
    ·refine cR s (made_Dice_Next_ok h254 d.dom (d.ins [0] (by decide) rfl) (d.envAt 0 rfl)) (do_call call15 rfl) rfl ?_
     rintro v275 Sv272 w a h273 ⟨p256, k257, rfl, h276, h258⟩ s
     have d := (d.callO [0] [1, 2, 3] (by decide) rfl h273 h276).addE (e := Sq p256 k257 rv255.2.L) h258
     refine h_n [1] [] d rfl rfl fun hC => ?_
     refine h_all (rs := [1, 4]) (by kernel_rfl) rfl ?_
     refine AllH.cons rfl ?_ ?_
     ·refine sv s (y_loadB1 (d.ownAt 2 rfl) rfl isAgg22 rfl) rfl fun a s => ?_
      refine h_n [1] [] d rfl rfl fun hC => ?_
      refine ho 4 rfl ?_
      refine w_litSlice (α := Int) (vs := [iv rv255.1]) (cs := [iv rv255.1]) (xs := ([rv255.1] : List Int)) s d El22 rfl rfl rfl rfl rfl rfl ⟨⟨_, rfl, rfl⟩, rfl⟩ rfl trivial rfl fun b260 a w s d => ?_
      refine h_n [2] [] d rfl rfl fun hC => ?_
      refine h_d [2, 0] [] [0] [] d rfl rfl rfl rfl fun hC => ?_
      refine ho 5 rfl ?_
      refine w_appendR (α := Int) s d El22 4 rfl rfl rfl 4 rfl 0 rfl 0 rfl h261 rfl trivial ?_
      intro p263 k264 c265 a w s d
      refine h_n [2, 0] [] d rfl rfl fun hC => ?_
      refine gv s 6 rfl rfl hC (fun w hC => y_fieldAddr (o' := 11) runUnderlying35 rfl sizeOf22 rfl rfl rfl) fun a s => ?_
      refine ho 7 rfl ?_
      refine ws (E16_1 s6 rv45 rv52 rv37 rv59 rv64 rv69 p263 k264 l262) s d 3 rfl rfl rfl sizeOf22 fun a w s d => ?_
      refine h_n [2, 0] [] d rfl rfl fun hC => ?_
      refine h_done (by kernel_rfl) ?_
      exact ⟨Sv272, c265, k257, k264, p256, p263, wj s d [1, 2, 3, 4] [2, 4, 0]⟩
     refine AllH.cons rfl ?_ ?_
     ·refine w_litSlice (α := Int) (vs := [iv rv255.1]) (cs := [iv rv255.1]) (xs := ([rv255.1] : List Int)) s d El22 rfl rfl rfl rfl rfl rfl ⟨⟨_, rfl, rfl⟩, rfl⟩ rfl trivial rfl fun b260 a w s d => ?_
      refine h_n [2] [] d rfl rfl fun hC => ?_
      refine h_d [2, 0] [] [0] [] d rfl rfl rfl rfl fun hC => ?_
      refine ho 1 rfl ?_
      refine sv s (y_loadB1 (d.ownAt 3 rfl) rfl isAgg22 rfl) rfl fun a s => ?_
      refine h_n [2, 0] [] d rfl rfl fun hC => ?_
      refine ho 5 rfl ?_
      refine w_appendR (α := Int) s d El22 4 rfl rfl rfl 4 rfl 0 rfl 0 rfl h261 rfl trivial ?_
      intro p263 k264 c265 a w s d
      refine h_n [2, 0] [] d rfl rfl fun hC => ?_
      refine gv s 6 rfl rfl hC (fun w hC => y_fieldAddr (o' := 11) runUnderlying35 rfl sizeOf22 rfl rfl rfl) fun a s => ?_
      refine ho 7 rfl ?_
      refine ws (E16_1 s6 rv45 rv52 rv37 rv59 rv64 rv69 p263 k264 l262) s d 3 rfl rfl rfl sizeOf22 fun a w s d => ?_
      refine h_n [2, 0] [] d rfl rfl fun hC => ?_
      refine h_done (by kernel_rfl) ?_
      exact ⟨Sv272, c265, k257, k264, p256, p263, wj s d [1, 2, 3, 4] [2, 4, 0]⟩
     exact AllH.nil
    exact AllH.nil
   rintro a w ⟨Sv266, c265, k257, k264, p256, p263, s, d⟩
   refine blk_normal (tn (wp_region_lit (rn0 2 s rfl fun a s => ?_)))
   obtain ⟨i293, h292, u⟩ := bt u
   refine sv s (y_assignI rfl h292) rfl fun a s => ?_
   exact nl ⟨_, io u, p256, k257, c265, p263, k264, Sv266, wj s d [0, 1, 2, 3] [0, 1, 2]⟩
  refine wp_exit (then_exit (then_exit (blk_exit ?_)))
  obtain rfl := oi u
  have h294 := hd229 _ rfl
  subst h294
  exact tn ⟨p207, k208, c209, p210, k211, Sv212, wj s d [0, 1, 2, 3] [0, 1, 2]⟩
 rintro a w ⟨p233, k234, c235, p236, k237, Sv238, s, d⟩
 refine tn (sn 1 [2] s d rfl rfl fun a s => ?_)
 refine ws [.string s6.Network, .string s6.Station, .string s6.Location, .string s6.Channel, iv (w64 (1000000000000 + (w64 (250000 * rv45.1)))), iv rv52.1, iv rv37.1.Num, iv rv37.1.Den, iv rv59.1, iv rv64.1, iv rv69.1, sl p236 k237 e232.2.2] s d 1 rfl rfl rfl sizeOf35 fun a w s d => ?_
 refine nl ?_
 obtain rfl := oi u
 exact wp_ret (ret1 s rfl (rv_cell d 1 rfl rfl isAgg35 sizeOf35 rfl) (d.ret ⟨p236, k237, c235, p233, k234, rfl, (d.outs [3, 0] (by decide) rfl), (d.envAt 2 rfl), (d.envAt 0 rfl)⟩))
abbrev made_Dice_Records_rd (w0 : World) (X : List Nat) (b2 : Nat) (r : ((List Record) × Dice)) : (Nat → Prop) → World → Value → Prop := fun S w v => ∃ p0_0 k0_0 c0_0 pq0_0 kq0_0, v = sl p0_0 k0_0 r.1 ∧ Outs X w0 S w [.row p0_0 r.1.length k0_0 c0_0 35 12, .box b2 (C75 r.2 pq0_0 kq0_0) 75] ∧ (RowA c0_0 r.1).p S w ∧ (Sq pq0_0 kq0_0 r.2.L).p S w
theorem made_Dice_Records_ok {w0 S0 b2 p3 k4 d1 n6 r} (u : made_Dice_Records d1 n6 = some r) (hS : Dm S0 w0) (hin : Ins S0 w0 [.box b2 (C75 d1 p3 k4) 75]) (h5 : (Sq p3 k4 d1.L).p S0 w0) : Calls Tryz.prog 14 #[pt b2, iv n6] w0 (Ret (blks [.box b2 (C75 d1 p3 k4) 75]) w0 S0 (made_Dice_Records_rd w0 (blks [.box b2 (C75 d1 p3 k4) 75]) b2 r)) := by
 refine enI 48 func14 rfl hS hin rfl rfl rfl fun a s d => ?_
 have d := d.addE h5
 refine sz0 1 s rfl fun a s => ?_
 refine sn0 1 s rfl fun a s => ?_
 obtain ⟨rv8, h7, u⟩ := bt u
 refine cR s (made_Dice_Source_ok h7 d.dom (d.ins [0] (by decide) rfl) (d.envAt 0 rfl)) (do_call call19 rfl) rfl ?_
 rintro v15 Sv12 w a h13 ⟨p9, k10, rfl, h16, h11⟩ s
 have d := (d.callO [0] [] (by decide) rfl h13 h16).addE (e := Sq p9 k10 rv8.2.L) h11
 refine wa Z0 s d zeroValue31 fun b17 a w s d => ?_
 refine ws (C31 rv8.1) s d 0 rfl rfl rfl sizeOf31 fun a w s d => ?_
 refine nl (sz0 1 s rfl fun a s => ?_)
 refine wp_seq (sn0 3 s rfl fun a s => ?_)
 obtain ⟨rv19, h18, u⟩ := bt u
 refine cR s (made_Dice_Next_ok h18 d.dom (d.ins [1] (by decide) rfl) (d.envAt 0 rfl)) (do_call call15 rfl) rfl ?_
 rintro v26 Sv23 w a h24 ⟨p20, k21, rfl, h27, h22⟩ s
 have d := (d.callO [1] [0] (by decide) rfl h24 h27).addE (e := Sq p20 k21 rv19.2.L) h22
 refine rz0 1 s rfl fun a s => ?_
 obtain ⟨e374, h642, u⟩ := bt u
 refine wp_join (fun a w => ∃ p375 k376 c377 p378 k379 Sv380, Sl 48 [(6, sl p378 k379 e374.2.2)] a ∧ Wd ⟨w0, S0, blks [.box b2 (C75 d1 p3 k4) 75]⟩ Sv380 [.box b2 [sl p375 k376 e374.1, iv e374.2.1] 75, .row p378 e374.2.2.length k379 c377 35 12] [Sq p375 k376 e374.1, RowA c377 e374.2.2] w) ?_ ?_
 ·refine wp_block ?_
  have d := d.nilRow Record 35
  refine wp_while (fun sv28 a w => ∃ p255 k256 c257 p258 k259 Sv260, Sl 48 [(0, pt b2), (5, pt b17), (6, sl p258 k259 sv28.2.2.1), (7, iv sv28.2.2.2)] a ∧ Wd ⟨w0, S0, blks [.box b2 (C75 d1 p3 k4) 75]⟩ Sv260 [.box b2 [sl p255 k256 sv28.1, iv sv28.2.1] 75, .box b17 (C31 rv8.1) 31, .row p258 sv28.2.2.1.length k259 c257 35 12] [Sq p255 k256 sv28.1, RowA c257 sv28.2.2.1] w) (rv19.2.L, rv19.2.At, ([] : List Record), rv19.1) h642 ⟨p20, k21, [], none, 0, Sv23, wj s d [1, 2, 0] [1, 0]⟩ ?_
  clear h642
  repeat clear u
  rintro sv28 a w tv372 ⟨p255, k256, c257, p258, k259, Sv260, s, d⟩ u hd371
  refine wp_seq (sz0 2 s rfl fun a s => ?_)
  refine cd s u rfl (fun u => ?_) fun u => ?_
  ·refine sk (wp_seq (wp_block (sn 2 [1] s d rfl rfl fun a s => ?_)))
   obtain ⟨rv491, h490, u⟩ := bt u
   refine cR s (made_Dice_Record_ok h490 d.dom (d.ins [0] (by decide) rfl) (d.envAt 0 rfl)) (do_call call16 rfl) rfl ?_
   rintro v502 Sv499 w a h500 ⟨p492, k493, c495, p496, k497, rfl, h503, h494, h498⟩ s
   have d := ((d.callO [0] [1, 2] (by decide) rfl h500 h503).addE (e := RowA c495 rv491.1.Samples) h494).addE (e := Sq p496 k497 rv491.2.L) h498
   refine wa Z4 s d zeroValue35 fun b504 a w s d => ?_
   refine ws (C35 rv491.1 p492 k493) s d 0 rfl rfl rfl sizeOf35 fun a w s d => ?_
   refine nl (wp_seq (sn0 4 s rfl fun a s => ?_))
   obtain ⟨c516, hc516, u⟩ := bt u
   refine wpl_join 4 (fun a w => ∃ p517 k518 Sv519, Sl 48 [(0, pt b2), (5, pt b17), (6, sl p258 k259 sv28.2.2.1), (7, iv sv28.2.2.2), (8, pt b504), (29, .bool c516.2.2)] a ∧ Wd ⟨w0, S0, blks [.box b2 (C75 d1 p3 k4) 75]⟩ Sv519 [.box b2 [sl p517 k518 c516.1, iv c516.2.1] 75, .box b17 (C31 rv8.1) 31, .box b504 (C35 rv491.1 p492 k493) 35, .row p492 rv491.1.Samples.length k493 c495 3 1, .row p258 sv28.2.2.1.length k259 c257 35 12] [Sq p517 k518 c516.1, RowA c495 rv491.1.Samples, RowA c257 sv28.2.2.1] w) ?_ ?_
   ·rcases Bool.eq_false_or_eq_true (decide (0 < (sv28.2.2.1.length : Int))) with h515 | h515
    ·have s := s.bT 25 rfl h515
     have u := ite_t hc516 h515
     refine st_val s (y_move rfl) ⟨_, rfl, rfl⟩ rfl rfl fun a s => ?_
     obtain ⟨rv521, h520, u⟩ := bt u
     refine st_callR s (made_Dice_Next_ok h520 d.dom (d.ins [2] (by decide) rfl) (d.envAt 0 rfl)) (do_call call15 rfl) ⟨_, rfl, rfl⟩ rfl rfl ?_
     rintro v528 Sv525 w a h526 ⟨p522, k523, rfl, h529, h524⟩ s
     have d := (d.callO [2] [0, 1, 3, 4] (by decide) rfl h526 h529).addE (e := Sq p522 k523 rv521.2.L) h524
     refine rn0 2 s rfl fun a s => ?_
     refine wpList_nil ?_
     obtain rfl := oi u
     exact tn ⟨p522, k523, Sv525, wj s d [0, 3, 1, 2, 4] [0, 2, 4]⟩
    have s := s.bF 25 rfl h515
    have u := ite_f hc516 h515
    refine rn0 4 s rfl fun a s => ?_
    refine wpList_nil ?_
    obtain rfl := oi u
    exact tn ⟨p496, k497, Sv499, wj s d [2, 3, 0, 1, 4] [0, 1, 3]⟩
   rintro a w ⟨p517, k518, Sv519, s, d⟩
   refine nl (wp_join (fun a w => ∃ (x576 : (List Int)) (x577 : Int) (x578 : ByteArray) (x579 : ByteArray) (x580 : ByteArray) (x581 : ByteArray) (x582 : Int) (x583 : Int) (x584 : Int) (x585 : Int) (x586 : Int) (x587 : Int) (x588 : Int) (x589 : (List Int)) (p571 k572 p573 k574 Sv575 : _), made_Dice_Records_j1 sv28 x576 x577 x578 x579 x580 x581 x582 x583 x584 x585 x586 x587 x588 x589 = some tv372 ∧ Sl 48 [(0, pt b2), (5, pt b17), (6, sl p258 k259 sv28.2.2.1), (7, iv sv28.2.2.2), (8, pt b504)] a ∧ Wd ⟨w0, S0, blks [.box b2 (C75 d1 p3 k4) 75]⟩ Sv575 [.box b2 [sl p571 k572 x576, iv x577] 75, .box b17 (C31 rv8.1) 31, .box b504 [.string x578, .string x579, .string x580, .string x581, iv x582, iv x583, iv x584, iv x585, iv x586, iv x587, iv x588, sl p573 k574 x589] 35, .row p258 sv28.2.2.1.length k259 c257 35 12] [Sq p571 k572 x576, Sq p573 k574 x589, RowA c257 sv28.2.2.1] w) ?_ ?_)
   ·refine cd s u rfl (fun u => ?_) fun u => ?_
    ·refine sn0 4 s rfl fun a s => ?_
     obtain ⟨rv601, h600, u⟩ := bt u
     refine cR s (made_Dice_Next_ok h600 d.dom (d.ins [0] (by decide) rfl) (d.envAt 0 rfl)) (do_call call15 rfl) rfl ?_
     rintro v608 Sv605 w a h606 ⟨p602, k603, rfl, h609, h604⟩ s
     have d := (d.callO [0] [1, 2, 3, 4] (by decide) rfl h606 h609).addE (e := Sq p602 k603 rv601.2.L) h604
     obtain ⟨x612, h610, u⟩ := bt u
     obtain ⟨b619, q616, c617, h620, h613, h614, h618, h611⟩ := d.elemRV (α := Record) 4 rfl 3 rfl h610
     have hsv621 := s
     have hwv622 := d
     subst h620
     have s := hsv621
     have d := hwv622
     obtain ⟨_, _, _, _, _, _, _, _, _, _, _, _, rfl, rfl, rfl, rfl, rfl, rfl, rfl, rfl, rfl, rfl, rfl, rfl, ⟨p623, n624, k625, rfl, h626⟩⟩ := h611
     obtain rfl := h626.1
     have d := d.addE (e := SlA p623 _ k625 x612.Samples) h626
     refine sv s (y_indexAt runUnderlying27 sizeOf35 rfl rfl h613.1 h613.2 h614) rfl fun a s => ?_
     refine sv s (y_loadQA (j := 0) (d.ownAt 4 rfl) rfl isAgg35 sizeOf35 h618 rfl rfl) rfl fun a s => ?_
     refine ws (C35 x612 p623 k625) s d 2 rfl rfl rfl sizeOf35 fun a w s d => ?_
     refine nl (wp_region_lit (rn 3 [2] s d rfl rfl fun a s => ?_))
     refine w_litSlice (α := Int) (vs := [iv x612.Seq, iv 9]) (cs := [iv x612.Seq, iv 9]) (xs := ([x612.Seq, 9] : List Int)) s d El22 rfl rfl rfl rfl rfl rfl ⟨⟨_, rfl, rfl⟩, ⟨⟨_, rfl, rfl⟩, rfl⟩⟩ rfl trivial rfl fun b628 a w s d => ?_
     obtain ⟨rv630, h629, u⟩ := bt u
     obtain ⟨Sv634, d⟩ := w_share (α := Int) d 0 rfl 0 rfl
     refine cR s (made_Dice_Pick_ok h629 d.dom (d.ins [0] (by decide) rfl) (d.envAt 3 rfl) (d.envAt 0 rfl)) (do_call call47 rfl) rfl ?_
     rintro v638 Sv635 w a h636 ⟨p631, k632, rfl, h639, h633⟩ s
     have d := (d.callO [0] [1, 2, 3, 4] (by decide) rfl h636 h639).addE (e := Sq p631 k632 rv630.2.L) h633
     refine sv s (y_fieldAddr (o' := 10) runUnderlying35 rfl sizeOf3 rfl rfl rfl) rfl fun a s => ?_
     refine ws (C35 ⟨x612.Source, x612.Start, x612.First, x612.Rate, x612.Error, x612.Run, rv630.1, x612.Samples⟩ p623 k625) s d 2 rfl rfl rfl sizeOf3 fun a w s d => ?_
     exact nl ⟨rv630.2.L, rv630.2.At, x612.Source.Network, x612.Source.Station, x612.Source.Location, x612.Source.Channel, x612.Start, x612.First, x612.Rate.Num, x612.Rate.Den, x612.Error, x612.Run, rv630.1, x612.Samples, p631, k632, p623, k625, Sv635, u, wj s d [0, 1, 2, 4] [0, 3, 7]⟩
    refine sk ?_
    obtain ⟨Sv640, d⟩ := w_share (α := Int) d 3 rfl 1 rfl
    exact ⟨c516.1, c516.2.1, rv491.1.Source.Network, rv491.1.Source.Station, rv491.1.Source.Location, rv491.1.Source.Channel, rv491.1.Start, rv491.1.First, rv491.1.Rate.Num, rv491.1.Rate.Den, rv491.1.Error, rv491.1.Run, rv491.1.Seq, rv491.1.Samples, p517, k518, p492, k493, Sv640, u, wj s d [0, 1, 2, 3] [1, 0, 3]⟩
   rintro a w ⟨x576, x577, x578, x579, x580, x581, x582, x583, x584, x585, x586, x587, x588, x589, p571, k572, p573, k574, Sv575, u, s, d⟩
   refine tn (wp_region_lit (rn 2 [2] s d rfl rfl fun a s => ?_))
   refine w_litSlice (α := Record) (vs := [.agg #[.string x578, .string x579, .string x580, .string x581, iv x582, iv x583, iv x584, iv x585, iv x586, iv x587, iv x588, sl p573 k574 x589]]) (cs := [.string x578, .string x579, .string x580, .string x581, iv x582, iv x583, iv x584, iv x585, iv x586, iv x587, iv x588, sl p573 k574 x589]) (xs := ([(⟨(⟨x578, x579, x580, x581⟩ : SourceID), x582, x583, (⟨x584, x585⟩ : Rate), x586, x587, x588, x589⟩ : Record)] : List Record)) s d El27 rfl rfl rfl rfl rfl rfl ⟨⟨_, _, _, _, _, _, _, _, _, _, _, _, rfl, rfl, rfl, rfl, rfl, rfl, rfl, rfl, rfl, rfl, rfl, rfl, ⟨_, _, _, rfl, d.envAt 1 rfl⟩⟩, rfl⟩ rfl trivial rfl fun b591 a w s d => ?_
   obtain ⟨l593, h592, u⟩ := bt u
   refine w_appendR (α := Record) s d El27 4 rfl rfl rfl 3 rfl 0 rfl 0 rfl h592 rfl trivial ?_
   intro p594 k595 c596 a w s d
   refine av s rfl rfl fun a s => ?_
   refine wpList_nil ?_
   refine blk_normal (tn (wp_region_lit (rn0 2 s rfl fun a s => ?_)))
   obtain ⟨i598, h597, u⟩ := bt u
   refine sv s (y_assignI rfl h597) rfl fun a s => ?_
   exact nl ⟨_, io u, p571, k572, c596, p594, k595, Sv575, wj s d [1, 2, 4] [2, 0]⟩
  refine wp_exit (then_exit (then_exit (blk_exit ?_)))
  obtain rfl := oi u
  have h641 := hd371 _ rfl
  subst h641
  exact tn ⟨p255, k256, c257, p258, k259, Sv260, wj s d [0, 2] [0, 1]⟩
 rintro a w ⟨p375, k376, c377, p378, k379, Sv380, s, d⟩
 refine tn (sz0 2 s rfl fun a s => ?_)
 obtain rfl := oi u
 exact q1 s rfl (d.ret ⟨p378, k379, c377, p375, k376, rfl, (d.outs [1, 0] (by decide) rfl), (d.envAt 1 rfl), (d.envAt 0 rfl)⟩)
abbrev made_Dice_OddRecord_rd (w0 : World) (X : List Nat) (b2 : Nat) (r : (Record × Dice)) : (Nat → Prop) → World → Value → Prop := fun S w v => ∃ p0_11 k0_11 c0_11 pq0_0 kq0_0, v = V35 r.1 p0_11 k0_11 ∧ Outs X w0 S w [.row p0_11 r.1.Samples.length k0_11 c0_11 3 1, .box b2 (C75 r.2 pq0_0 kq0_0) 75] ∧ (RowA c0_11 r.1.Samples).p S w ∧ (Sq pq0_0 kq0_0 r.2.L).p S w
theorem made_Dice_OddRecord_ok {w0 S0 b2 p3 k4 p7 k8 d1 r6 r} (u : made_Dice_OddRecord d1 r6 = some r) (hS : Dm S0 w0) (hin : Ins S0 w0 [.box b2 (C75 d1 p3 k4) 75]) (h5 : (Sq p3 k4 d1.L).p S0 w0) (h9 : (Sq p7 k8 r6.Samples).p S0 w0) : Calls Tryz.prog 37 #[pt b2, V35 r6 p7 k8] w0 (Ret (blks [.box b2 (C75 d1 p3 k4) 75]) w0 S0 (made_Dice_OddRecord_rd w0 (blks [.box b2 (C75 d1 p3 k4) 75]) b2 r)) := by
 refine enI 66 func37 rfl hS hin rfl rfl rfl fun a s d => ?_
 have d := (d.addE h5).addE h9
 refine sr (wb (C35 r6 p7 k8) s d rfl fun b10 a w s d => ?_)
 refine wa Z4 s d zeroValue35 fun b11 a w s d => ?_
 refine nl (sn 2 [1] s d rfl rfl fun a s => ?_)
 obtain ⟨l13, h12, u⟩ := bt u
 have d := d.nilRow Int 3
 refine w_appendE (α := Int) s d El22 0 rfl rfl rfl 0 rfl 1 rfl h12 rfl trivial ?_
 intro p14 k15 c16 a w s d
 refine sv s (y_fieldAddr (o' := 11) runUnderlying35 rfl sizeOf22 rfl rfl rfl) rfl fun a s => ?_
 refine ws (C35 ⟨r6.Source, r6.Start, r6.First, r6.Rate, r6.Error, r6.Run, r6.Seq, l13⟩ p14 k15) s d 2 rfl rfl rfl sizeOf22 fun a w s d => ?_
 refine nl (wp_seq (sn0 1 s rfl fun a s => ?_))
 obtain ⟨rv18, h17, u⟩ := bt u
 refine cR s (made_Dice_Next_ok h17 d.dom (d.ins [3] (by decide) rfl) (d.envAt 3 rfl)) (do_call call15 rfl) rfl ?_
 rintro v25 Sv22 w a h23 ⟨p19, k20, rfl, h26, h21⟩ s
 have d := (d.callO [3] [0, 1, 2] (by decide) rfl h23 h26).addE (e := Sq p19 k20 rv18.2.L) h21
 refine nl (wp_block (sz0 2 s rfl fun a s => ?_))
 refine wp_join (fun a w => ∃ (x438 : (List Int)) (x439 : Int) (x440 : ByteArray) (x441 : Int) (x442 : Int) (x443 : Int) (x444 : Int) (x445 : Int) (x446 : Int) (x447 : Int) (x448 : (List Int)) (p432 k433 c434 p435 k436 Sv437 : _), made_Dice_OddRecord_j1 r6 x438 x439 x440 x441 x442 x443 x444 x445 x446 x447 x448 = some r ∧ Sl 66 [(3, pt b10), (4, pt b11)] a ∧ Wd ⟨w0, S0, blks [.box b2 (C75 d1 p3 k4) 75]⟩ Sv437 [.box b2 [sl p432 k433 x438, iv x439] 75, .box b10 (C35 ⟨⟨r6.Source.Network, x440, r6.Source.Location, r6.Source.Channel⟩, x441, x442, ⟨x443, x444⟩, x445, x446, x447, x448⟩ p435 k436) 35, .box b11 Z4 35, .row p435 x448.length k436 c434 3 1] [Sq p432 k433 x438, Sq none 0 ([] : List Int), RowA c434 x448] w) ?_ ?_
 ·refine cd s u rfl (fun u => ?_) fun u => ?_
  ·refine wp_region_lit (rn0 2 s rfl fun a s => ?_)
   refine ws (C35 ⟨⟨r6.Source.Network, (⟨#[]⟩ : ByteArray), r6.Source.Location, r6.Source.Channel⟩, r6.Start, r6.First, r6.Rate, r6.Error, r6.Run, r6.Seq, l13⟩ p14 k15) s d 3 rfl rfl rfl sizeOf9 fun a w s d => ?_
   refine nl ?_
   have d := d.addE (e := SlA (α := Int) none 0 0 []) nil_sl
   exact ⟨rv18.2.L, rv18.2.At, (⟨#[]⟩ : ByteArray), r6.Start, r6.First, r6.Rate.Num, r6.Rate.Den, r6.Error, r6.Run, r6.Seq, l13, p19, k20, c16, p14, k15, Sv22, u, wj s d [0, 3, 2, 1] [1, 0, 2]⟩
  refine sz0 2 s rfl fun a s => ?_
  refine wp_join (fun a w => ∃ (x633 : (List Int)) (x634 : Int) (x635 : Int) (x636 : Int) (x637 : Int) (x638 : Int) (x639 : Int) (x640 : Int) (x641 : Int) (x642 : (List Int)) (p627 k628 c629 p630 k631 Sv632 : _), made_Dice_OddRecord_j2 r6 x633 x634 x635 x636 x637 x638 x639 x640 x641 x642 = some r ∧ Sl 66 [(3, pt b10), (4, pt b11)] a ∧ Wd ⟨w0, S0, blks [.box b2 (C75 d1 p3 k4) 75]⟩ Sv632 [.box b2 [sl p627 k628 x633, iv x634] 75, .box b10 (C35 ⟨r6.Source, x635, x636, ⟨x637, x638⟩, x639, x640, x641, x642⟩ p630 k631) 35, .box b11 Z4 35, .row p630 x642.length k631 c629 3 1] [Sq p627 k628 x633, Sq none 0 ([] : List Int), RowA c629 x642] w) ?_ ?_
  ·refine cd s u rfl (fun u => ?_) fun u => ?_
   ·refine wp_region_lit (mv s rfl rfl fun a s => ?_)
    refine w_litSlice (α := Int) (vs := Z12) (cs := Z12) (xs := ([(-1), 0, 9007199254740992, 9007199254740993] : List Int)) s d El22 rfl rfl rfl rfl rfl rfl ⟨⟨_, rfl, rfl⟩, ⟨⟨_, rfl, rfl⟩, ⟨⟨_, rfl, rfl⟩, ⟨⟨_, rfl, rfl⟩, rfl⟩⟩⟩⟩ rfl trivial rfl fun b645 a w s d => ?_
    obtain ⟨rv647, h646, u⟩ := bt u
    obtain ⟨Sv651, d⟩ := w_share (α := Int) d 0 rfl 0 rfl
    refine cR s (made_Dice_Pick_ok h646 d.dom (d.ins [0] (by decide) rfl) (d.envAt 2 rfl) (d.envAt 0 rfl)) (do_call call47 rfl) rfl ?_
    rintro v655 Sv652 w a h653 ⟨p648, k649, rfl, h656, h650⟩ s
    have d := (d.callO [0] [1, 2, 3] (by decide) rfl h653 h656).addE (e := Sq p648 k649 rv647.2.L) h650
    refine sv s (y_fieldAddr (o' := 4) runUnderlying35 rfl sizeOf3 rfl rfl rfl) rfl fun a s => ?_
    refine ws (C35 ⟨r6.Source, rv647.1, r6.First, r6.Rate, r6.Error, r6.Run, r6.Seq, l13⟩ p14 k15) s d 3 rfl rfl rfl sizeOf3 fun a w s d => ?_
    refine nl ?_
    have d := d.addE (e := SlA (α := Int) none 0 0 []) nil_sl
    exact ⟨rv647.2.L, rv647.2.At, rv647.1, r6.First, r6.Rate.Num, r6.Rate.Den, r6.Error, r6.Run, r6.Seq, l13, p648, k649, c16, p14, k15, Sv652, u, wj s d [0, 3, 2, 1] [1, 0, 5]⟩
   refine sz0 2 s rfl fun a s => ?_
   refine wp_join (fun a w => ∃ (x811 : (List Int)) (x812 : Int) (x813 : Int) (x814 : Int) (x815 : Int) (x816 : Int) (x817 : Int) (x818 : Int) (x819 : (List Int)) (p805 k806 c807 p808 k809 Sv810 : _), made_Dice_OddRecord_j3 r6 x811 x812 x813 x814 x815 x816 x817 x818 x819 = some r ∧ Sl 66 [(3, pt b10), (4, pt b11)] a ∧ Wd ⟨w0, S0, blks [.box b2 (C75 d1 p3 k4) 75]⟩ Sv810 [.box b2 [sl p805 k806 x811, iv x812] 75, .box b10 (C35 ⟨r6.Source, r6.Start, x813, ⟨x814, x815⟩, x816, x817, x818, x819⟩ p808 k809) 35, .box b11 Z4 35, .row p808 x819.length k809 c807 3 1] [Sq p805 k806 x811, Sq none 0 ([] : List Int), RowA c807 x819] w) ?_ ?_
   ·refine cd s u rfl (fun u => ?_) fun u => ?_
    ·refine wp_region_lit (mv s rfl rfl fun a s => ?_)
     refine w_litSlice (α := Int) (vs := Z13) (cs := Z13) (xs := ([(-1), 16777213, 16777216] : List Int)) s d El22 rfl rfl rfl rfl rfl rfl ⟨⟨_, rfl, rfl⟩, ⟨⟨_, rfl, rfl⟩, ⟨⟨_, rfl, rfl⟩, rfl⟩⟩⟩ rfl trivial rfl fun b822 a w s d => ?_
     obtain ⟨rv824, h823, u⟩ := bt u
     obtain ⟨Sv828, d⟩ := w_share (α := Int) d 0 rfl 0 rfl
     refine cR s (made_Dice_Pick_ok h823 d.dom (d.ins [0] (by decide) rfl) (d.envAt 2 rfl) (d.envAt 0 rfl)) (do_call call47 rfl) rfl ?_
     rintro v832 Sv829 w a h830 ⟨p825, k826, rfl, h833, h827⟩ s
     have d := (d.callO [0] [1, 2, 3] (by decide) rfl h830 h833).addE (e := Sq p825 k826 rv824.2.L) h827
     refine sv s (y_fieldAddr (o' := 5) runUnderlying35 rfl sizeOf3 rfl rfl rfl) rfl fun a s => ?_
     refine ws (C35 ⟨r6.Source, r6.Start, rv824.1, r6.Rate, r6.Error, r6.Run, r6.Seq, l13⟩ p14 k15) s d 3 rfl rfl rfl sizeOf3 fun a w s d => ?_
     refine nl ?_
     have d := d.addE (e := SlA (α := Int) none 0 0 []) nil_sl
     exact ⟨rv824.2.L, rv824.2.At, rv824.1, r6.Rate.Num, r6.Rate.Den, r6.Error, r6.Run, r6.Seq, l13, p825, k826, c16, p14, k15, Sv829, u, wj s d [0, 3, 2, 1] [1, 0, 5]⟩
    refine sz0 2 s rfl fun a s => ?_
    refine wp_join (fun a w => ∃ (x960 : (List Int)) (x961 : Int) (x962 : Int) (x963 : Int) (x964 : Int) (x965 : Int) (x966 : Int) (x967 : (List Int)) (p954 k955 c956 p957 k958 Sv959 : _), made_Dice_OddRecord_j4 r6 x960 x961 x962 x963 x964 x965 x966 x967 = some r ∧ Sl 66 [(3, pt b10), (4, pt b11)] a ∧ Wd ⟨w0, S0, blks [.box b2 (C75 d1 p3 k4) 75]⟩ Sv959 [.box b2 [sl p954 k955 x960, iv x961] 75, .box b10 (C35 ⟨r6.Source, r6.Start, r6.First, ⟨x962, x963⟩, x964, x965, x966, x967⟩ p957 k958) 35, .box b11 Z4 35, .row p957 x967.length k958 c956 3 1] [Sq p954 k955 x960, Sq none 0 ([] : List Int), RowA c956 x967] w) ?_ ?_
    ·refine cd s u rfl (fun u => ?_) fun u => ?_
     ·refine wp_region_lit (mv s rfl rfl fun a s => ?_)
      refine w_litSlice (α := Int) (vs := [iv 0, iv 2, iv 4097]) (cs := [iv 0, iv 2, iv 4097]) (xs := ([0, 2, 4097] : List Int)) s d El22 rfl rfl rfl rfl rfl rfl ⟨⟨_, rfl, rfl⟩, ⟨⟨_, rfl, rfl⟩, ⟨⟨_, rfl, rfl⟩, rfl⟩⟩⟩ rfl trivial rfl fun b970 a w s d => ?_
      obtain ⟨rv972, h971, u⟩ := bt u
      obtain ⟨Sv976, d⟩ := w_share (α := Int) d 0 rfl 0 rfl
      refine cR s (made_Dice_Pick_ok h971 d.dom (d.ins [0] (by decide) rfl) (d.envAt 2 rfl) (d.envAt 0 rfl)) (do_call call47 rfl) rfl ?_
      rintro v980 Sv977 w a h978 ⟨p973, k974, rfl, h981, h975⟩ s
      have d := (d.callO [0] [1, 2, 3] (by decide) rfl h978 h981).addE (e := Sq p973 k974 rv972.2.L) h975
      refine sv s (y_build (vs := [(0, iv rv972.1), (1, iv 2)]) Bld33 rfl rfl) rfl fun a s => ?_
      refine sv s (y_fieldAddr (o' := 6) runUnderlying35 rfl sizeOf33 rfl rfl rfl) rfl fun a s => ?_
      refine ws (C35 ⟨r6.Source, r6.Start, r6.First, ⟨rv972.1, 2⟩, r6.Error, r6.Run, r6.Seq, l13⟩ p14 k15) s d 3 rfl rfl rfl sizeOf33 fun a w s d => ?_
      refine nl ?_
      have d := d.addE (e := SlA (α := Int) none 0 0 []) nil_sl
      exact ⟨rv972.2.L, rv972.2.At, rv972.1, 2, r6.Error, r6.Run, r6.Seq, l13, p973, k974, c16, p14, k15, Sv977, u, wj s d [0, 3, 2, 1] [1, 0, 5]⟩
     refine sz0 2 s rfl fun a s => ?_
     refine wp_join (fun a w => ∃ (x1082 : (List Int)) (x1083 : Int) (x1084 : Int) (x1085 : Int) (x1086 : Int) (x1087 : (List Int)) (p1076 k1077 c1078 p1079 k1080 Sv1081 : _), made_Dice_OddRecord_j5 r6 x1082 x1083 x1084 x1085 x1086 x1087 = some r ∧ Sl 66 [(3, pt b10), (4, pt b11)] a ∧ Wd ⟨w0, S0, blks [.box b2 (C75 d1 p3 k4) 75]⟩ Sv1081 [.box b2 [sl p1076 k1077 x1082, iv x1083] 75, .box b10 (C35 ⟨r6.Source, r6.Start, r6.First, r6.Rate, x1084, x1085, x1086, x1087⟩ p1079 k1080) 35, .box b11 Z4 35, .row p1079 x1087.length k1080 c1078 3 1] [Sq p1076 k1077 x1082, Sq none 0 ([] : List Int), RowA c1078 x1087] w) ?_ ?_
     ·refine cd s u rfl (fun u => ?_) fun u => ?_
      ·refine wp_region_lit (mv s rfl rfl fun a s => ?_)
       refine w_litSlice (α := Int) (vs := Z14) (cs := Z14) (xs := ([(-1), 1099511627776, 1099511627777] : List Int)) s d El22 rfl rfl rfl rfl rfl rfl ⟨⟨_, rfl, rfl⟩, ⟨⟨_, rfl, rfl⟩, ⟨⟨_, rfl, rfl⟩, rfl⟩⟩⟩ rfl trivial rfl fun b1090 a w s d => ?_
       obtain ⟨rv1092, h1091, u⟩ := bt u
       obtain ⟨Sv1096, d⟩ := w_share (α := Int) d 0 rfl 0 rfl
       refine cR s (made_Dice_Pick_ok h1091 d.dom (d.ins [0] (by decide) rfl) (d.envAt 2 rfl) (d.envAt 0 rfl)) (do_call call47 rfl) rfl ?_
       rintro v1100 Sv1097 w a h1098 ⟨p1093, k1094, rfl, h1101, h1095⟩ s
       have d := (d.callO [0] [1, 2, 3] (by decide) rfl h1098 h1101).addE (e := Sq p1093 k1094 rv1092.2.L) h1095
       refine sv s (y_fieldAddr (o' := 8) runUnderlying35 rfl sizeOf3 rfl rfl rfl) rfl fun a s => ?_
       refine ws (C35 ⟨r6.Source, r6.Start, r6.First, r6.Rate, rv1092.1, r6.Run, r6.Seq, l13⟩ p14 k15) s d 3 rfl rfl rfl sizeOf3 fun a w s d => ?_
       refine nl ?_
       have d := d.addE (e := SlA (α := Int) none 0 0 []) nil_sl
       exact ⟨rv1092.2.L, rv1092.2.At, rv1092.1, r6.Run, r6.Seq, l13, p1093, k1094, c16, p14, k15, Sv1097, u, wj s d [0, 3, 2, 1] [1, 0, 5]⟩
      refine sz0 2 s rfl fun a s => ?_
      refine wp_join (fun a w => ∃ (x1177 : (List Int)) (x1178 : Int) (x1179 : Int) (x1180 : Int) (x1181 : (List Int)) (p1171 k1172 c1173 p1174 k1175 Sv1176 : _), made_Dice_OddRecord_j6 r6 x1177 x1178 x1179 x1180 x1181 = some r ∧ Sl 66 [(3, pt b10), (4, pt b11)] a ∧ Wd ⟨w0, S0, blks [.box b2 (C75 d1 p3 k4) 75]⟩ Sv1176 [.box b2 [sl p1171 k1172 x1177, iv x1178] 75, .box b10 (C35 ⟨r6.Source, r6.Start, r6.First, r6.Rate, r6.Error, x1179, x1180, x1181⟩ p1174 k1175) 35, .box b11 Z4 35, .row p1174 x1181.length k1175 c1173 3 1] [Sq p1171 k1172 x1177, Sq none 0 ([] : List Int), RowA c1173 x1181] w) ?_ ?_
      ·refine cd s u rfl (fun u => ?_) fun u => ?_
       ·refine wp_region_lit (mv s rfl rfl fun a s => ?_)
        refine w_litSlice (α := Int) (vs := Z15) (cs := Z15) (xs := ([(-1), 65535, 65536] : List Int)) s d El22 rfl rfl rfl rfl rfl rfl ⟨⟨_, rfl, rfl⟩, ⟨⟨_, rfl, rfl⟩, ⟨⟨_, rfl, rfl⟩, rfl⟩⟩⟩ rfl trivial rfl fun b1184 a w s d => ?_
        obtain ⟨rv1186, h1185, u⟩ := bt u
        obtain ⟨Sv1190, d⟩ := w_share (α := Int) d 0 rfl 0 rfl
        refine cR s (made_Dice_Pick_ok h1185 d.dom (d.ins [0] (by decide) rfl) (d.envAt 2 rfl) (d.envAt 0 rfl)) (do_call call47 rfl) rfl ?_
        rintro v1194 Sv1191 w a h1192 ⟨p1187, k1188, rfl, h1195, h1189⟩ s
        have d := (d.callO [0] [1, 2, 3] (by decide) rfl h1192 h1195).addE (e := Sq p1187 k1188 rv1186.2.L) h1189
        refine sv s (y_fieldAddr (o' := 9) runUnderlying35 rfl sizeOf3 rfl rfl rfl) rfl fun a s => ?_
        refine ws (C35 ⟨r6.Source, r6.Start, r6.First, r6.Rate, r6.Error, rv1186.1, r6.Seq, l13⟩ p14 k15) s d 3 rfl rfl rfl sizeOf3 fun a w s d => ?_
        refine nl ?_
        have d := d.addE (e := SlA (α := Int) none 0 0 []) nil_sl
        exact ⟨rv1186.2.L, rv1186.2.At, rv1186.1, r6.Seq, l13, p1187, k1188, c16, p14, k15, Sv1191, u, wj s d [0, 3, 2, 1] [1, 0, 5]⟩
       refine sz0 2 s rfl fun a s => ?_
       refine wp_join (fun a w => ∃ (x1247 : (List Int)) (x1248 : Int) (x1249 : Int) (x1250 : (List Int)) (p1241 k1242 c1243 p1244 k1245 Sv1246 : _), made_Dice_OddRecord_j7 r6 x1247 x1248 x1249 x1250 = some r ∧ Sl 66 [(3, pt b10), (4, pt b11)] a ∧ Wd ⟨w0, S0, blks [.box b2 (C75 d1 p3 k4) 75]⟩ Sv1246 [.box b2 [sl p1241 k1242 x1247, iv x1248] 75, .box b10 (C35 ⟨r6.Source, r6.Start, r6.First, r6.Rate, r6.Error, r6.Run, x1249, x1250⟩ p1244 k1245) 35, .box b11 Z4 35, .row p1244 x1250.length k1245 c1243 3 1] [Sq p1241 k1242 x1247, Sq none 0 ([] : List Int), RowA c1243 x1250] w) ?_ ?_
       ·refine cd s u rfl (fun u => ?_) fun u => ?_
        ·refine wp_region_lit (mv s rfl rfl fun a s => ?_)
         refine w_litSlice (α := Int) (vs := Z16) (cs := Z16) (xs := ([(-1), 1073741824, 1073741825] : List Int)) s d El22 rfl rfl rfl rfl rfl rfl ⟨⟨_, rfl, rfl⟩, ⟨⟨_, rfl, rfl⟩, ⟨⟨_, rfl, rfl⟩, rfl⟩⟩⟩ rfl trivial rfl fun b1253 a w s d => ?_
         obtain ⟨rv1255, h1254, u⟩ := bt u
         obtain ⟨Sv1259, d⟩ := w_share (α := Int) d 0 rfl 0 rfl
         refine cR s (made_Dice_Pick_ok h1254 d.dom (d.ins [0] (by decide) rfl) (d.envAt 2 rfl) (d.envAt 0 rfl)) (do_call call47 rfl) rfl ?_
         rintro v1263 Sv1260 w a h1261 ⟨p1256, k1257, rfl, h1264, h1258⟩ s
         have d := (d.callO [0] [1, 2, 3] (by decide) rfl h1261 h1264).addE (e := Sq p1256 k1257 rv1255.2.L) h1258
         refine sv s (y_fieldAddr (o' := 10) runUnderlying35 rfl sizeOf3 rfl rfl rfl) rfl fun a s => ?_
         refine ws (C35 ⟨r6.Source, r6.Start, r6.First, r6.Rate, r6.Error, r6.Run, rv1255.1, l13⟩ p14 k15) s d 3 rfl rfl rfl sizeOf3 fun a w s d => ?_
         refine nl ?_
         have d := d.addE (e := SlA (α := Int) none 0 0 []) nil_sl
         exact ⟨rv1255.2.L, rv1255.2.At, rv1255.1, l13, p1256, k1257, c16, p14, k15, Sv1260, u, wj s d [0, 3, 2, 1] [1, 0, 5]⟩
        refine sz0 2 s rfl fun a s => ?_
        refine wp_join (fun a w => ∃ (x1293 : (List Int)) (x1294 : Int) (x1295 : (List Int)) (p1287 k1288 c1289 p1290 k1291 Sv1292 : _), made_Dice_OddRecord_j8 r6 x1293 x1294 x1295 = some r ∧ Sl 66 [(3, pt b10), (4, pt b11)] a ∧ Wd ⟨w0, S0, blks [.box b2 (C75 d1 p3 k4) 75]⟩ Sv1292 [.box b2 [sl p1287 k1288 x1293, iv x1294] 75, .box b10 (C35 ⟨r6.Source, r6.Start, r6.First, r6.Rate, r6.Error, r6.Run, r6.Seq, x1295⟩ p1290 k1291) 35, .box b11 Z4 35, .row p1290 x1295.length k1291 c1289 3 1] [Sq p1287 k1288 x1293, Sq none 0 ([] : List Int), RowA c1289 x1295] w) ?_ ?_
        ·refine cd s u rfl (fun u => ?_) fun u => ?_
         ·obtain ⟨rv1300, h1299, u⟩ := bt u
          obtain ⟨l1307, h1306, u⟩ := bt u
          refine wp_only (fun a w => ∃ Sv1311 c1310 k1302 k1309 p1301 p1308, Sl 66 [(3, pt b10), (4, pt b11)] a ∧ Wd ⟨w0, S0, blks [.box b2 (C75 d1 p3 k4) 75]⟩ Sv1311 [.box b2 (C75 rv1300.2 p1301 k1302) 75, .box b10 (C35 ⟨r6.Source, r6.Start, r6.First, r6.Rate, r6.Error, r6.Run, r6.Seq, l1307⟩ p1308 k1309) 35, .box b11 Z4 35, .row p1308 l1307.length k1309 c1310 3 1] [Sq p1301 k1302 rv1300.2.L, Sq none 0 ([] : List Int), RowA c1310 l1307] w) ?_ ?_
          ·refine h_c [2] [] d rfl rfl (by kernel_rfl) rfl fun hC d => ?_
           refine gn 2 [0, 2] [] s hC rfl rfl rfl fun a s => ?_
           refine h_all (rs := [1, 3]) (by kernel_rfl) rfl ?_
           refine AllH.cons rfl ?_ ?_
           ·refine sv s (y_loadB1 (d.ownAt 3 rfl) rfl isAgg22 rfl) rfl fun a s => ?_
            refine h_n [2] [] d rfl rfl fun hC => ?_
            refine ho 3 rfl ?_
            refine w_litSlice (α := Int) (vs := Z17) (cs := Z17) (xs := ([1073741823, 1073741824, (-1073741824)] : List Int)) s d El22 rfl rfl rfl rfl rfl rfl ⟨⟨_, rfl, rfl⟩, ⟨⟨_, rfl, rfl⟩, ⟨⟨_, rfl, rfl⟩, rfl⟩⟩⟩ rfl trivial rfl fun b1298 a w s d => ?_
            refine h_n [3] [] d rfl rfl fun hC => ?_
            refine ho 4 rfl ?_
            obtain ⟨Sv1312, d⟩ := w_share (α := Int) d 0 rfl 0 rfl
            refine cR s (made_Dice_Pick_ok h1299 d.dom (d.ins [0] (by decide) rfl) (d.envAt 2 rfl) (d.envAt 0 rfl)) (do_call call47 rfl) rfl ?_
            rintro v1316 Sv1313 w a h1314 ⟨p1301, k1302, rfl, h1317, h1303⟩ s
            have d := (d.callO [0] [1, 2, 3] (by decide) rfl h1314 h1317).addE (e := Sq p1301 k1302 rv1300.2.L) h1303
            refine h_n [2] [] d rfl rfl fun hC => ?_
            refine ho 5 rfl ?_
            refine w_litSlice (α := Int) (vs := [iv rv1300.1]) (cs := [iv rv1300.1]) (xs := ([rv1300.1] : List Int)) s d El22 rfl rfl rfl rfl rfl rfl ⟨⟨_, rfl, rfl⟩, rfl⟩ rfl trivial rfl fun b1305 a w s d => ?_
            refine h_n [3] [] d rfl rfl fun hC => ?_
            refine h_d [3, 0] [] [0] [] d rfl rfl rfl rfl fun hC => ?_
            refine ho 6 rfl ?_
            refine w_appendR (α := Int) s d El22 2 rfl rfl rfl 5 rfl 0 rfl 0 rfl h1306 rfl trivial ?_
            intro p1308 k1309 c1310 a w s d
            refine h_n [3, 0] [] d rfl rfl fun hC => ?_
            refine gv s 7 rfl rfl hC (fun w hC => y_fieldAddr (o' := 11) runUnderlying35 rfl sizeOf22 rfl rfl rfl) fun a s => ?_
            refine ho 8 rfl ?_
            refine ws (C35 ⟨r6.Source, r6.Start, r6.First, r6.Rate, r6.Error, r6.Run, r6.Seq, l1307⟩ p1308 k1309) s d 4 rfl rfl rfl sizeOf22 fun a w s d => ?_
            refine h_n [3, 0] [] d rfl rfl fun hC => ?_
            refine h_done (by kernel_rfl) ?_
            have d := d.addE (e := SlA (α := Int) none 0 0 []) nil_sl
            exact ⟨Sv1313, c1310, k1302, k1309, p1301, p1308, wj s d [1, 4, 3, 2] [3, 0, 1]⟩
           refine AllH.cons rfl ?_ ?_
           ·refine w_litSlice (α := Int) (vs := Z17) (cs := Z17) (xs := ([1073741823, 1073741824, (-1073741824)] : List Int)) s d El22 rfl rfl rfl rfl rfl rfl ⟨⟨_, rfl, rfl⟩, ⟨⟨_, rfl, rfl⟩, ⟨⟨_, rfl, rfl⟩, rfl⟩⟩⟩ rfl trivial rfl fun b1298 a w s d => ?_
            refine h_n [3] [] d rfl rfl fun hC => ?_
            refine h_all (rs := [1, 4]) (by kernel_rfl) rfl ?_
            refine AllH.cons rfl ?_ ?_
            ·refine sv s (y_loadB1 (d.ownAt 4 rfl) rfl isAgg22 rfl) rfl fun a s => ?_
             refine h_n [3] [] d rfl rfl fun hC => ?_
             refine ho 4 rfl ?_
             obtain ⟨Sv1318, d⟩ := w_share (α := Int) d 0 rfl 0 rfl
             refine cR s (made_Dice_Pick_ok h1299 d.dom (d.ins [0] (by decide) rfl) (d.envAt 2 rfl) (d.envAt 0 rfl)) (do_call call47 rfl) rfl ?_
             rintro v1322 Sv1319 w a h1320 ⟨p1301, k1302, rfl, h1323, h1303⟩ s
             have d := (d.callO [0] [1, 2, 3] (by decide) rfl h1320 h1323).addE (e := Sq p1301 k1302 rv1300.2.L) h1303
             refine h_n [2] [] d rfl rfl fun hC => ?_
             refine ho 5 rfl ?_
             refine w_litSlice (α := Int) (vs := [iv rv1300.1]) (cs := [iv rv1300.1]) (xs := ([rv1300.1] : List Int)) s d El22 rfl rfl rfl rfl rfl rfl ⟨⟨_, rfl, rfl⟩, rfl⟩ rfl trivial rfl fun b1305 a w s d => ?_
             refine h_n [3] [] d rfl rfl fun hC => ?_
             refine h_d [3, 0] [] [0] [] d rfl rfl rfl rfl fun hC => ?_
             refine ho 6 rfl ?_
             refine w_appendR (α := Int) s d El22 2 rfl rfl rfl 5 rfl 0 rfl 0 rfl h1306 rfl trivial ?_
             intro p1308 k1309 c1310 a w s d
             refine h_n [3, 0] [] d rfl rfl fun hC => ?_
             refine gv s 7 rfl rfl hC (fun w hC => y_fieldAddr (o' := 11) runUnderlying35 rfl sizeOf22 rfl rfl rfl) fun a s => ?_
             refine ho 8 rfl ?_
             refine ws (C35 ⟨r6.Source, r6.Start, r6.First, r6.Rate, r6.Error, r6.Run, r6.Seq, l1307⟩ p1308 k1309) s d 4 rfl rfl rfl sizeOf22 fun a w s d => ?_
             refine h_n [3, 0] [] d rfl rfl fun hC => ?_
             refine h_done (by kernel_rfl) ?_
             have d := d.addE (e := SlA (α := Int) none 0 0 []) nil_sl
             exact ⟨Sv1319, c1310, k1302, k1309, p1301, p1308, wj s d [1, 4, 3, 2] [3, 0, 1]⟩
            refine AllH.cons rfl ?_ ?_
            ·obtain ⟨Sv1324, d⟩ := w_share (α := Int) d 0 rfl 0 rfl
             refine cR s (made_Dice_Pick_ok h1299 d.dom (d.ins [0] (by decide) rfl) (d.envAt 2 rfl) (d.envAt 0 rfl)) (do_call call47 rfl) rfl ?_
             rintro v1328 Sv1325 w a h1326 ⟨p1301, k1302, rfl, h1329, h1303⟩ s
             have d := (d.callO [0] [1, 2, 3] (by decide) rfl h1326 h1329).addE (e := Sq p1301 k1302 rv1300.2.L) h1303
             refine h_n [2] [] d rfl rfl fun hC => ?_
             refine h_all (rs := [1, 5]) (by kernel_rfl) rfl ?_
             refine AllH.cons rfl ?_ ?_
             ·refine sv s (y_loadB1 (d.ownAt 3 rfl) rfl isAgg22 rfl) rfl fun a s => ?_
              refine h_n [2] [] d rfl rfl fun hC => ?_
              refine ho 5 rfl ?_
              refine w_litSlice (α := Int) (vs := [iv rv1300.1]) (cs := [iv rv1300.1]) (xs := ([rv1300.1] : List Int)) s d El22 rfl rfl rfl rfl rfl rfl ⟨⟨_, rfl, rfl⟩, rfl⟩ rfl trivial rfl fun b1305 a w s d => ?_
              refine h_n [3] [] d rfl rfl fun hC => ?_
              refine h_d [3, 0] [] [0] [] d rfl rfl rfl rfl fun hC => ?_
              refine ho 6 rfl ?_
              refine w_appendR (α := Int) s d El22 2 rfl rfl rfl 5 rfl 0 rfl 0 rfl h1306 rfl trivial ?_
              intro p1308 k1309 c1310 a w s d
              refine h_n [3, 0] [] d rfl rfl fun hC => ?_
              refine gv s 7 rfl rfl hC (fun w hC => y_fieldAddr (o' := 11) runUnderlying35 rfl sizeOf22 rfl rfl rfl) fun a s => ?_
              refine ho 8 rfl ?_
              refine ws (C35 ⟨r6.Source, r6.Start, r6.First, r6.Rate, r6.Error, r6.Run, r6.Seq, l1307⟩ p1308 k1309) s d 4 rfl rfl rfl sizeOf22 fun a w s d => ?_
              refine h_n [3, 0] [] d rfl rfl fun hC => ?_
              refine h_done (by kernel_rfl) ?_
              have d := d.addE (e := SlA (α := Int) none 0 0 []) nil_sl
              exact ⟨Sv1325, c1310, k1302, k1309, p1301, p1308, wj s d [1, 4, 3, 2] [3, 0, 1]⟩
             refine AllH.cons rfl ?_ ?_
             ·refine w_litSlice (α := Int) (vs := [iv rv1300.1]) (cs := [iv rv1300.1]) (xs := ([rv1300.1] : List Int)) s d El22 rfl rfl rfl rfl rfl rfl ⟨⟨_, rfl, rfl⟩, rfl⟩ rfl trivial rfl fun b1305 a w s d => ?_
              refine h_n [3] [] d rfl rfl fun hC => ?_
              refine h_d [3, 0] [] [0] [] d rfl rfl rfl rfl fun hC => ?_
              refine ho 1 rfl ?_
              refine sv s (y_loadB1 (d.ownAt 4 rfl) rfl isAgg22 rfl) rfl fun a s => ?_
              refine h_n [3, 0] [] d rfl rfl fun hC => ?_
              refine ho 6 rfl ?_
              refine w_appendR (α := Int) s d El22 2 rfl rfl rfl 5 rfl 0 rfl 0 rfl h1306 rfl trivial ?_
              intro p1308 k1309 c1310 a w s d
              refine h_n [3, 0] [] d rfl rfl fun hC => ?_
              refine gv s 7 rfl rfl hC (fun w hC => y_fieldAddr (o' := 11) runUnderlying35 rfl sizeOf22 rfl rfl rfl) fun a s => ?_
              refine ho 8 rfl ?_
              refine ws (C35 ⟨r6.Source, r6.Start, r6.First, r6.Rate, r6.Error, r6.Run, r6.Seq, l1307⟩ p1308 k1309) s d 4 rfl rfl rfl sizeOf22 fun a w s d => ?_
              refine h_n [3, 0] [] d rfl rfl fun hC => ?_
              refine h_done (by kernel_rfl) ?_
              have d := d.addE (e := SlA (α := Int) none 0 0 []) nil_sl
              exact ⟨Sv1325, c1310, k1302, k1309, p1301, p1308, wj s d [1, 4, 3, 2] [3, 0, 1]⟩
             exact AllH.nil
            exact AllH.nil
           exact AllH.nil
          rintro a w ⟨Sv1311, c1310, k1302, k1309, p1301, p1308, s, d⟩
          exact tn ⟨rv1300.2.L, rv1300.2.At, l1307, p1301, k1302, c1310, p1308, k1309, Sv1311, u, wj s d [0, 1, 2, 3] [0, 1, 2]⟩
         refine sz0 2 s rfl fun a s => ?_
         refine wp_join (fun a w => ∃ (x1353 : (List Int)) (c1349 p1350 k1351 Sv1352 : _), made_Dice_OddRecord_j9 r6 rv18 x1353 = some r ∧ Sl 66 [(3, pt b10), (4, pt b11)] a ∧ Wd ⟨w0, S0, blks [.box b2 (C75 d1 p3 k4) 75]⟩ Sv1352 [.box b2 (C75 rv18.2 p19 k20) 75, .box b10 (C35 ⟨r6.Source, r6.Start, r6.First, r6.Rate, r6.Error, r6.Run, r6.Seq, x1353⟩ p1350 k1351) 35, .box b11 Z4 35, .row p1350 x1353.length k1351 c1349 3 1] [Sq p19 k20 rv18.2.L, Sq none 0 ([] : List Int), RowA c1349 x1353] w) ?_ ?_
         ·refine cd s u rfl (fun u => ?_) fun u => ?_
          ·refine wp_region_lit (sv s (y_fieldAddr (o' := 11) runUnderlying35 rfl sizeOf22 rfl rfl rfl) rfl fun a s => ?_)
           refine ws (C35 ⟨r6.Source, r6.Start, r6.First, r6.Rate, r6.Error, r6.Run, r6.Seq, ([] : List Int)⟩ none 0) s d 3 rfl rfl rfl sizeOf22 fun a w s d => ?_
           refine nl ?_
           have d := (d.nilRow Int 3).addE (e := SlA (α := Int) none 0 0 []) nil_sl
           exact ⟨([] : List Int), [], none, 0, Sv22, u, wj s d [1, 4, 3, 0] [2, 0, 1]⟩
          refine sk ?_
          have d := d.addE (e := SlA (α := Int) none 0 0 []) nil_sl
          exact ⟨l13, c16, p14, k15, Sv22, u, wj s d [0, 3, 2, 1] [1, 0, 2]⟩
         rintro a w ⟨x1353, c1349, p1350, k1351, Sv1352, u, s, d⟩
         exact tn ⟨rv18.2.L, rv18.2.At, x1353, p19, k20, c1349, p1350, k1351, Sv1352, u, wj s d [0, 1, 2, 3] [0, 1, 2]⟩
        rintro a w ⟨x1293, x1294, x1295, p1287, k1288, c1289, p1290, k1291, Sv1292, u, s, d⟩
        exact tn ⟨x1293, x1294, r6.Seq, x1295, p1287, k1288, c1289, p1290, k1291, Sv1292, u, wj s d [0, 1, 2, 3] [0, 1, 2]⟩
       rintro a w ⟨x1247, x1248, x1249, x1250, p1241, k1242, c1243, p1244, k1245, Sv1246, u, s, d⟩
       exact tn ⟨x1247, x1248, r6.Run, x1249, x1250, p1241, k1242, c1243, p1244, k1245, Sv1246, u, wj s d [0, 1, 2, 3] [0, 1, 2]⟩
      rintro a w ⟨x1177, x1178, x1179, x1180, x1181, p1171, k1172, c1173, p1174, k1175, Sv1176, u, s, d⟩
      exact tn ⟨x1177, x1178, r6.Error, x1179, x1180, x1181, p1171, k1172, c1173, p1174, k1175, Sv1176, u, wj s d [0, 1, 2, 3] [0, 1, 2]⟩
     rintro a w ⟨x1082, x1083, x1084, x1085, x1086, x1087, p1076, k1077, c1078, p1079, k1080, Sv1081, u, s, d⟩
     exact tn ⟨x1082, x1083, r6.Rate.Num, r6.Rate.Den, x1084, x1085, x1086, x1087, p1076, k1077, c1078, p1079, k1080, Sv1081, u, wj s d [0, 1, 2, 3] [0, 1, 2]⟩
    rintro a w ⟨x960, x961, x962, x963, x964, x965, x966, x967, p954, k955, c956, p957, k958, Sv959, u, s, d⟩
    exact tn ⟨x960, x961, r6.First, x962, x963, x964, x965, x966, x967, p954, k955, c956, p957, k958, Sv959, u, wj s d [0, 1, 2, 3] [0, 1, 2]⟩
   rintro a w ⟨x811, x812, x813, x814, x815, x816, x817, x818, x819, p805, k806, c807, p808, k809, Sv810, u, s, d⟩
   exact tn ⟨x811, x812, r6.Start, x813, x814, x815, x816, x817, x818, x819, p805, k806, c807, p808, k809, Sv810, u, wj s d [0, 1, 2, 3] [0, 1, 2]⟩
  rintro a w ⟨x633, x634, x635, x636, x637, x638, x639, x640, x641, x642, p627, k628, c629, p630, k631, Sv632, u, s, d⟩
  exact tn ⟨x633, x634, r6.Source.Station, x635, x636, x637, x638, x639, x640, x641, x642, p627, k628, c629, p630, k631, Sv632, u, wj s d [0, 1, 2, 3] [0, 1, 2]⟩
 rintro a w ⟨x438, x439, x440, x441, x442, x443, x444, x445, x446, x447, x448, p432, k433, c434, p435, k436, Sv437, u, s, d⟩
 refine blk_normal (tn (sn 1 [1] s d rfl rfl fun a s => ?_))
 refine ws (C35 ⟨⟨r6.Source.Network, x440, r6.Source.Location, r6.Source.Channel⟩, x441, x442, ⟨x443, x444⟩, x445, x446, x447, x448⟩ p435 k436) s d 2 rfl rfl rfl sizeOf35 fun a w s d => ?_
 refine nl ?_
 obtain rfl := oi u
 exact wp_ret (ret1 s rfl (rv_cell d 2 rfl rfl isAgg35 sizeOf35 rfl) (d.ret ⟨p435, k436, c434, p432, k433, rfl, (d.outs [3, 0] (by decide) rfl), (d.envAt 2 rfl), (d.envAt 0 rfl)⟩))
theorem compose_Order_ok {w0 S0 p2 k3 l1 r} (u : compose_Order l1 = some r) (hS : Dm S0 w0) (h4 : (Sq p2 k3 l1).p S0 w0) : Ck Tryz.prog 34 #[sl p2 k3 l1] w0 S0 [] compose_Compose_rd r := by
 refine en 9 func34 rfl hS rfl rfl rfl fun a s d => ?_
 have d := d.addE h4
 refine sz0 2 s rfl fun a s => ?_
 refine wp_seq (sn0 1 s rfl fun a s => ?_)
 obtain ⟨rv6, h5, u⟩ := bt u
 refine cV s d (compose_Valid_ok h5 d.bdom (d.bE 0 rfl)) (do_call call41 rfl) rfl fun a w s d => ?_
 refine rz0 1 s rfl fun a s => ?_
 refine cd s u rfl (fun u => ?_) fun u => ?_
 ·refine sz0 2 s rfl fun a s => ?_
  obtain rfl := oi u
  have d := d.nilRow Record 35
  exact wp_ret (then_ret (ret2 s rfl (rv_tmp rfl) (rv_tmp rfl) (d.ret ⟨none, 0, [], rfl, (d.outs [0] (by decide) rfl), (d.envAt 0 rfl)⟩)))
 refine sk (sn0 1 s rfl fun a s => ?_)
 obtain ⟨rv15, h14, u⟩ := bt u
 refine cR s (compose_order_ok h14 d.dom (d.envAt 0 rfl)) (do_call call62 rfl) rfl ?_
 rintro v23 Sv20 w a h21 ⟨p16, k17, c19, rfl, h24, h18⟩ s
 have d := (d.callN h21 h24).addE (e := RowA c19 rv15) h18
 refine rz0 2 s rfl fun a s => ?_
 obtain rfl := oi u
 exact wp_ret (ret2 s rfl (rv_tmp rfl) (rv_tmp rfl) (d.ret ⟨p16, k17, c19, rfl, (d.outs [0] (by decide) rfl), (d.envAt 0 rfl)⟩))
theorem ref03_code_ok {w0 S0 s1 lo2 hi3 r} (u : ref03_code s1 lo2 hi3 = some r) (hS : Dm S0 w0) : Ck Tryz.prog 106 #[.string s1, iv lo2, iv hi3] w0 S0 [] made_Light_rd r := by
 refine en 47 func106 rfl hS rfl rfl rfl fun a s d => ?_
 refine sz0 1 s rfl fun a s => ?_
 refine wp_seq (sz0 1 s rfl fun a s => ?_)
 refine wp_block (wp_while (fun sv111 a w => ∃ Sv181, Sl 47 [(0, .string s1), (1, iv lo2), (2, iv hi3), (7, iv sv111)] a ∧ Wd ⟨w0, S0, []⟩ Sv181 [] [] w) 0 u ⟨S0, wj s d [] []⟩ ?_)
 repeat clear u
 rintro sv111 a w tv217 ⟨Sv181, s, d⟩ u hd216
 refine wp_seq (sz0 4 s rfl fun a s => ?_)
 refine cd s u rfl (fun u => ?_) fun u => ?_
 ·refine sk (wp_seq (wp_block (sn0 2 s rfl fun a s => ?_)))
  obtain ⟨c254, h253, u⟩ := bt u
  refine sv s (y_indexSM runUnderlying9 rfl rfl h253) rfl fun a s => ?_
  refine sv s (y_geq (rfl) rfl) rfl fun a s => ?_
  refine mv s rfl rfl fun a s => ?_
  obtain ⟨c258, hc258, u⟩ := bt u
  refine wpl_join 5 (fun a w => ∃ Sv259, Sl 47 [(0, .string s1), (1, iv lo2), (2, iv hi3), (7, iv sv111), (23, .bool c258)] a ∧ Wd ⟨w0, S0, []⟩ Sv259 [] [] w) ?_ ?_
  ·rcases Bool.eq_false_or_eq_true (decide (65 ≤ c254)) with h257 | h257
   ·have s := s.bT 18 rfl h257
    have u := ite_t hc258 h257
    refine rn0 2 s rfl fun a s => ?_
    obtain ⟨c261, h260, u⟩ := bt u
    refine st_val s (y_indexSM runUnderlying9 rfl rfl h260) ⟨_, rfl, rfl⟩ rfl rfl fun a s => ?_
    refine st_val s (y_leq (rfl) rfl) ⟨_, rfl, rfl⟩ rfl rfl fun a s => ?_
    refine sv s (y_pickT rfl rfl) rfl fun a s => ?_
    refine wpList_nil ?_
    obtain rfl := oi u
    exact tn ⟨Sv181, wj s d [] []⟩
   have s := s.bF 18 rfl h257
   have u := ite_f hc258 h257
   refine rn0 5 s rfl fun a s => ?_
   refine wpList_nil ?_
   obtain rfl := oi u
   exact tn ⟨Sv181, wj s d [] []⟩
  rintro a w ⟨Sv259, s, d⟩
  refine mv s rfl rfl fun a s => ?_
  obtain ⟨c272, hc272, u⟩ := bt u
  refine wpl_join 11 (fun a w => ∃ Sv273, Sl 47 [(0, .string s1), (1, iv lo2), (2, iv hi3), (7, iv sv111), (35, .bool c272)] a ∧ Wd ⟨w0, S0, []⟩ Sv273 [] [] w) ?_ ?_
  ·rcases Bool.eq_false_or_eq_true c258 with h271 | h271
   ·have s := s.bT 24 rfl h271
    have u := ite_t hc272 h271
    refine rn0 11 s rfl fun a s => ?_
    refine wpList_nil ?_
    obtain rfl := oi u
    exact tn ⟨Sv259, wj s d [] []⟩
   have s := s.bF 24 rfl h271
   have u := ite_f hc272 h271
   refine rn0 2 s rfl fun a s => ?_
   obtain ⟨c275, h274, u⟩ := bt u
   refine st_val s (y_indexSM runUnderlying9 rfl rfl h274) ⟨_, rfl, rfl⟩ rfl rfl fun a s => ?_
   refine st_val s (y_geq (rfl) rfl) ⟨_, rfl, rfl⟩ rfl rfl fun a s => ?_
   refine st_val s (y_move rfl) ⟨_, rfl, rfl⟩ rfl rfl fun a s => ?_
   obtain ⟨c279, hc279, u⟩ := bt u
   refine wpl_join 5 (fun a w => ∃ Sv280, Sl 47 [(0, .string s1), (1, iv lo2), (2, iv hi3), (7, iv sv111), (24, .bool false), (34, .bool c279)] a ∧ Wd ⟨w0, S0, []⟩ Sv280 [] [] w) ?_ ?_
   ·rcases Bool.eq_false_or_eq_true (decide (48 ≤ c275)) with h278 | h278
    ·have s := s.bT 29 rfl h278
     have u := ite_t hc279 h278
     refine rn0 2 s rfl fun a s => ?_
     obtain ⟨c282, h281, u⟩ := bt u
     refine st_val s (y_indexSM runUnderlying9 rfl rfl h281) ⟨_, rfl, rfl⟩ rfl rfl fun a s => ?_
     refine st_val s (y_leq (rfl) rfl) ⟨_, rfl, rfl⟩ rfl rfl fun a s => ?_
     refine st_val s (y_pickT rfl rfl) ⟨_, rfl, rfl⟩ rfl rfl fun a s => ?_
     refine wpList_nil ?_
     obtain rfl := oi u
     exact tn ⟨Sv259, wj s d [] []⟩
    have s := s.bF 29 rfl h278
    have u := ite_f hc279 h278
    refine rn0 5 s rfl fun a s => ?_
    refine wpList_nil ?_
    obtain rfl := oi u
    exact tn ⟨Sv259, wj s d [] []⟩
   rintro a w ⟨Sv280, s, d⟩
   refine sv s (y_pickF rfl rfl) rfl fun a s => ?_
   refine wpList_nil ?_
   obtain rfl := oi u
   exact tn ⟨Sv280, wj s d [] []⟩
  rintro a w ⟨Sv273, s, d⟩
  refine rz0 1 s rfl fun a s => ?_
  refine cd s u rfl (fun u => ?_) fun u => ?_
  ·refine sz0 1 s rfl fun a s => ?_
   obtain rfl := oi u
   have h285 := hd216 _ rfl
   subst h285
   exact wp_ret (blk_ret (then_ret (then_ret (blk_ret (then_ret (rt s rfl (d.ret rfl)))))))
  refine wp_skip (blk_normal (tn (wp_region_lit (rn0 2 s rfl fun a s => ?_))))
  obtain ⟨i287, h286, u⟩ := bt u
  refine sv s (y_assignI rfl h286) rfl fun a s => ?_
  exact nl ⟨_, io u, Sv273, wj s d [] []⟩
 obtain ⟨rv289, u, h290⟩ := map_t u
 have h290 := (hd216 _ h290.symm).symm
 subst h290
 refine wp_exit (then_exit (then_exit (blk_exit (tn (sn0 5 s rfl fun a s => ?_)))))
 refine rA 5 41 [] s d rfl rfl rfl rfl rfl fun a s => ?_
 refine rz0 1 s rfl fun a s => ?_
 obtain rfl := oi u
 exact q1 s rfl (d.ret rfl)
theorem ref03_Valid_ok {w0 S0 s1 r} (u : ref03_Valid s1 = some r) (hS : Dm S0 w0) : Ck Tryz.prog 76 #[V31 s1] w0 S0 [] made_Light_rd r := by
 refine en 26 func76 rfl hS rfl rfl rfl fun a s d => ?_
 refine sr (wb (C31 s1) s d rfl fun b2 a w s d => ?_)
 refine rz0 1 s rfl fun a s => ?_
 refine sn 2 [0] s d rfl rfl fun a s => ?_
 obtain ⟨rv4, h3, u⟩ := bt u
 refine cV s d (ref03_code_ok h3 d.bdom) (do_call call106 rfl) rfl fun a w s d => ?_
 refine mv s rfl rfl fun a s => ?_
 obtain ⟨c18, hc18, u⟩ := bt u
 refine wpl_join 4 (fun a w => ∃ Sv19, Sl 26 [(1, pt b2), (10, .bool c18)] a ∧ Wd ⟨w0, S0, []⟩ Sv19 [.box b2 (C31 s1) 31] [] w) ?_ ?_
 ·rcases Bool.eq_false_or_eq_true rv4 with h17 | h17
  ·have s := s.bT 6 rfl h17
   have u := ite_t hc18 h17
   refine rn 2 [0] s d rfl rfl fun a s => ?_
   obtain ⟨rv21, h20, u⟩ := bt u
   refine st_callR s (ref03_code_ok h20 d.bdom) (do_call call106 rfl) ⟨_, rfl, rfl⟩ rfl rfl ?_
   rintro v25 Sv22 w a h23 rfl s
   have d := d.callB h23
   refine sv s (y_pickT rfl rfl) rfl fun a s => ?_
   refine wpList_nil ?_
   obtain rfl := oi u
   exact tn ⟨S0, wj s d [0] []⟩
  have s := s.bF 6 rfl h17
  have u := ite_f hc18 h17
  refine rn0 4 s rfl fun a s => ?_
  refine wpList_nil ?_
  obtain rfl := oi u
  exact tn ⟨S0, wj s d [0] []⟩
 rintro a w ⟨Sv19, s, d⟩
 refine mv s rfl rfl fun a s => ?_
 obtain ⟨c45, hc45, u⟩ := bt u
 refine wpl_join 9 (fun a w => ∃ Sv46, Sl 26 [(1, pt b2), (20, .bool c45)] a ∧ Wd ⟨w0, S0, []⟩ Sv46 [.box b2 (C31 s1) 31] [] w) ?_ ?_
 ·rcases Bool.eq_false_or_eq_true c18 with h44 | h44
  ·have s := s.bT 11 rfl h44
   have u := ite_t hc45 h44
   refine rn 2 [0] s d rfl rfl fun a s => ?_
   refine st_val s (y_eqlS rfl rfl) ⟨_, rfl, rfl⟩ rfl rfl fun a s => ?_
   refine st_val s (y_move rfl) ⟨_, rfl, rfl⟩ rfl rfl fun a s => ?_
   obtain ⟨c55, hc55, u⟩ := bt u
   refine wpl_join 4 (fun a w => ∃ Sv56, Sl 26 [(1, pt b2), (11, .bool true), (19, .bool c55)] a ∧ Wd ⟨w0, S0, []⟩ Sv56 [.box b2 (C31 s1) 31] [] w) ?_ ?_
   ·rcases Bool.eq_false_or_eq_true (s1.Location.toList == (⟨#[]⟩ : ByteArray).toList) with h54 | h54
    ·have s := s.bT 15 rfl h54
     have u := ite_t hc55 h54
     refine rn0 4 s rfl fun a s => ?_
     refine wpList_nil ?_
     obtain rfl := oi u
     exact tn ⟨Sv19, wj s d [0] []⟩
    have s := s.bF 15 rfl h54
    have u := ite_f hc55 h54
    refine rn 2 [0] s d rfl rfl fun a s => ?_
    obtain ⟨rv58, h57, u⟩ := bt u
    refine st_callR s (ref03_code_ok h57 d.bdom) (do_call call106 rfl) ⟨_, rfl, rfl⟩ rfl rfl ?_
    rintro v62 Sv59 w a h60 rfl s
    have d := d.callB h60
    refine st_val s (y_pickF rfl rfl) ⟨_, rfl, rfl⟩ rfl rfl fun a s => ?_
    refine wpList_nil ?_
    obtain rfl := oi u
    exact tn ⟨Sv19, wj s d [0] []⟩
   rintro a w ⟨Sv56, s, d⟩
   refine sv s (y_pickT rfl rfl) rfl fun a s => ?_
   refine wpList_nil ?_
   obtain rfl := oi u
   exact tn ⟨Sv56, wj s d [0] []⟩
  have s := s.bF 11 rfl h44
  have u := ite_f hc45 h44
  refine rn0 9 s rfl fun a s => ?_
  refine wpList_nil ?_
  obtain rfl := oi u
  exact tn ⟨Sv19, wj s d [0] []⟩
 rintro a w ⟨Sv46, s, d⟩
 refine mv s rfl rfl fun a s => ?_
 obtain ⟨c72, hc72, u⟩ := bt u
 refine wpl_join 4 (fun a w => ∃ Sv73, Sl 26 [(25, .bool c72)] a ∧ Wd ⟨w0, S0, []⟩ Sv73 [] [] w) ?_ ?_
 ·rcases Bool.eq_false_or_eq_true c45 with h71 | h71
  ·have s := s.bT 21 rfl h71
   have u := ite_t hc72 h71
   refine rn 2 [0] s d rfl rfl fun a s => ?_
   obtain ⟨rv75, h74, u⟩ := bt u
   refine st_callR s (ref03_code_ok h74 d.bdom) (do_call call106 rfl) ⟨_, rfl, rfl⟩ rfl rfl ?_
   rintro v79 Sv76 w a h77 rfl s
   have d := d.callB h77
   refine sv s (y_pickT rfl rfl) rfl fun a s => ?_
   refine wpList_nil ?_
   obtain rfl := oi u
   exact tn ⟨Sv46, wj s d [] []⟩
  have s := s.bF 21 rfl h71
  have u := ite_f hc72 h71
  refine rn0 4 s rfl fun a s => ?_
  refine wpList_nil ?_
  obtain rfl := oi u
  exact tn ⟨Sv46, wj s d [] []⟩
 rintro a w ⟨Sv73, s, d⟩
 refine rz0 1 s rfl fun a s => ?_
 obtain rfl := oi u
 exact q1 s rfl (d.ret rfl)
theorem ref02_Valid_ok {w0 S0 r1 r} (u : ref02_Valid r1 = some r) (hS : Dm S0 w0) : Ck Tryz.prog 77 #[V33 r1] w0 S0 [] made_Light_rd r := by
 refine en 19 func77 rfl hS rfl rfl rfl fun a s d => ?_
 refine sr (wb (C33 r1) s d rfl fun b2 a w s d => ?_)
 refine rz0 1 s rfl fun a s => ?_
 refine sn 2 [0] s d rfl rfl fun a s => ?_
 obtain ⟨rv4, h3, u⟩ := bt u
 refine cV s d (ref01_In_ok h3 d.bdom) (do_call call55 rfl) rfl fun a w s d => ?_
 refine mv s rfl rfl fun a s => ?_
 obtain ⟨c18, hc18, u⟩ := bt u
 refine wpl_join 4 (fun a w => ∃ Sv19, Sl 19 [(1, pt b2), (10, .bool c18)] a ∧ Wd ⟨w0, S0, []⟩ Sv19 [.box b2 (C33 r1) 33] [] w) ?_ ?_
 ·rcases Bool.eq_false_or_eq_true rv4 with h17 | h17
  ·have s := s.bT 6 rfl h17
   have u := ite_t hc18 h17
   refine rn 2 [0] s d rfl rfl fun a s => ?_
   obtain ⟨rv21, h20, u⟩ := bt u
   refine st_callR s (ref01_In_ok h20 d.bdom) (do_call call55 rfl) ⟨_, rfl, rfl⟩ rfl rfl ?_
   rintro v25 Sv22 w a h23 rfl s
   have d := d.callB h23
   refine sv s (y_pickT rfl rfl) rfl fun a s => ?_
   refine wpList_nil ?_
   obtain rfl := oi u
   exact tn ⟨S0, wj s d [0] []⟩
  have s := s.bF 6 rfl h17
  have u := ite_f hc18 h17
  refine rn0 4 s rfl fun a s => ?_
  refine wpList_nil ?_
  obtain rfl := oi u
  exact tn ⟨S0, wj s d [0] []⟩
 rintro a w ⟨Sv19, s, d⟩
 refine mv s rfl rfl fun a s => ?_
 obtain ⟨c35, hc35, u⟩ := bt u
 refine wpl_join 7 (fun a w => ∃ Sv36, Sl 19 [(18, .bool c35)] a ∧ Wd ⟨w0, S0, []⟩ Sv36 [] [] w) ?_ ?_
 ·rcases Bool.eq_false_or_eq_true c18 with h34 | h34
  ·have s := s.bT 11 rfl h34
   have u := ite_t hc35 h34
   refine rn 4 [0, 0] s d rfl rfl fun a s => ?_
   obtain ⟨rv38, h37, u⟩ := bt u
   refine st_callR s (ref02_gcd_ok h37 d.bdom) (do_call call70 rfl) ⟨_, rfl, rfl⟩ rfl rfl ?_
   rintro v42 Sv39 w a h40 rfl s
   have d := d.callB h40
   refine rn0 2 s rfl fun a s => ?_
   refine wpList_nil ?_
   obtain rfl := oi u
   exact tn ⟨Sv19, wj s d [] []⟩
  have s := s.bF 11 rfl h34
  have u := ite_f hc35 h34
  refine rn0 7 s rfl fun a s => ?_
  refine wpList_nil ?_
  obtain rfl := oi u
  exact tn ⟨Sv19, wj s d [] []⟩
 rintro a w ⟨Sv36, s, d⟩
 refine rz0 1 s rfl fun a s => ?_
 obtain rfl := oi u
 exact q1 s rfl (d.ret rfl)
theorem ref05_Sample_ok {w0 S0 n1 r} (u : ref05_Sample n1 = some r) (hS : Dm S0 w0) : Ck Tryz.prog 107 #[iv n1] w0 S0 [] made_Light_rd r := by
 refine en 5 func107 rfl hS rfl rfl rfl fun a s d => ?_
 refine sz0 1 s rfl fun a s => ?_
 refine sn0 1 s rfl fun a s => ?_
 obtain ⟨rv3, h2, u⟩ := bt u
 refine cV s d (ref01_In_ok h2 d.bdom) (do_call call55 rfl) rfl fun a w s d => ?_
 refine rz0 1 s rfl fun a s => ?_
 obtain rfl := oi u
 exact q1 s rfl (d.ret rfl)
theorem ref05_InRange_ok {w0 S0 p2 k3 l1 r} (u : ref05_InRange l1 = some r) (hS : Dm S0 w0) (h4 : (Sq p2 k3 l1).p S0 w0) : Ck Tryz.prog 78 #[sl p2 k3 l1] w0 S0 [] made_Light_rd r := by
 refine en 16 func78 rfl hS rfl rfl rfl fun a s d => ?_
 have d := d.addE h4
 refine sz0 1 s rfl fun a s => ?_
 refine wp_seq (sz0 1 s rfl fun a s => ?_)
 refine wp_block (wp_while (fun sv82 a w => ∃ Sv132, Sl 16 [(0, sl p2 k3 l1), (3, iv sv82)] a ∧ Wd ⟨w0, S0, []⟩ Sv132 [] [Sq p2 k3 l1] w) 0 u ⟨S0, wj s d [] [0]⟩ ?_)
 repeat clear u
 rintro sv82 a w tv158 ⟨Sv132, s, d⟩ u hd157
 refine wp_seq (sz0 4 s rfl fun a s => ?_)
 refine cd s u rfl (fun u => ?_) fun u => ?_
 ·refine sk (wp_seq (wp_block (sn0 2 s rfl fun a s => ?_)))
  obtain ⟨x186, h184, u⟩ := bt u
  obtain ⟨b192, o193, q190, c191, h194, h187, h188, h189, h185⟩ := d.elemV 0 rfl h184
  have hsv195 := s
  have hwv196 := d
  subst h194
  have s := hsv195
  have d := hwv196
  obtain ⟨_, rfl, rfl⟩ := h185
  have d := d.addE h189
  refine sv s (y_indexAt runUnderlying22 sizeOf3 rfl rfl h187.1 h187.2 h188) rfl fun a s => ?_
  refine sv s (y_loadE1 (j := 0) (d.ceAt 0 rfl) rfl isAgg3 rfl) rfl fun a s => ?_
  obtain ⟨rv198, h197, u⟩ := bt u
  refine cV s d (ref05_Sample_ok h197 d.bdom) (do_call call107 rfl) rfl fun a w s d => ?_
  refine rz0 1 s rfl fun a s => ?_
  refine cd s u rfl (fun u => ?_) fun u => ?_
  ·refine sz0 1 s rfl fun a s => ?_
   obtain rfl := oi u
   have h206 := hd157 _ rfl
   subst h206
   exact wp_ret (blk_ret (then_ret (then_ret (blk_ret (then_ret (rt s rfl (d.ret rfl)))))))
  refine wp_skip (blk_normal (tn (wp_region_lit (rn0 2 s rfl fun a s => ?_))))
  obtain ⟨i208, h207, u⟩ := bt u
  refine sv s (y_assignI rfl h207) rfl fun a s => ?_
  exact nl ⟨_, io u, Sv132, wj s d [] [1]⟩
 obtain ⟨rv209, u, h210⟩ := map_t u
 have h210 := (hd157 _ h210.symm).symm
 subst h210
 refine wp_exit (then_exit (then_exit (blk_exit (tn (sz0 1 s rfl fun a s => ?_)))))
 obtain rfl := oi u
 exact q1 s rfl (d.ret rfl)
theorem ref02_Time_ok {w0 S0 start1 r2 k3 r} (u : ref02_Time start1 r2 k3 = some r) (hS : Dm S0 w0) : Ck Tryz.prog 79 #[iv start1, V33 r2, iv k3] w0 S0 [] rate_Time_rd r := by
 refine en 29 func79 rfl hS rfl rfl rfl fun a s d => ?_
 refine sr (wb (C33 r2) s d rfl fun b4 a w s d => ?_)
 refine rz0 2 s rfl fun a s => ?_
 refine wp_seq (sn 1 [0] s d rfl rfl fun a s => ?_)
 obtain ⟨rv6, h5, u⟩ := bt u
 refine cV s d (ref02_Valid_ok h5 d.bdom) (do_call call77 rfl) rfl fun a w s d => ?_
 refine rz0 1 s rfl fun a s => ?_
 refine cd s u rfl (fun u => ?_) fun u => ?_
 ·refine sz0 2 s rfl fun a s => ?_
  obtain rfl := oi u
  exact wp_ret (then_ret (ret2 s rfl (rv_tmp rfl) (rv_tmp rfl) (d.ret rfl)))
 refine sk (wp_seq (sn0 1 s rfl fun a s => ?_))
 obtain ⟨rv15, h14, u⟩ := bt u
 refine cV s d (ref01_In_ok h14 d.bdom) (do_call call55 rfl) rfl fun a w s d => ?_
 refine rn0 2 s rfl fun a s => ?_
 obtain ⟨c29, hc29, u⟩ := bt u
 refine wpl_join 4 (fun a w => ∃ Sv30, Sl 29 [(0, iv start1), (2, iv k3), (4, pt b4), (18, .bool c29)] a ∧ Wd ⟨w0, S0, []⟩ Sv30 [.box b4 (C33 r2) 33] [] w) ?_ ?_
 ·rcases Bool.eq_false_or_eq_true (!rv15) with h28 | h28
  ·have s := s.bT 14 rfl h28
   have u := ite_t hc29 h28
   refine rn0 4 s rfl fun a s => ?_
   refine wpList_nil ?_
   obtain rfl := oi u
   exact tn ⟨S0, wj s d [0] []⟩
  have s := s.bF 14 rfl h28
  have u := ite_f hc29 h28
  refine st_val s (y_move rfl) ⟨_, rfl, rfl⟩ rfl rfl fun a s => ?_
  obtain ⟨rv32, h31, u⟩ := bt u
  refine st_callR s (ref01_In_ok h31 d.bdom) (do_call call55 rfl) ⟨_, rfl, rfl⟩ rfl rfl ?_
  rintro v36 Sv33 w a h34 rfl s
  have d := d.callB h34
  refine rn0 2 s rfl fun a s => ?_
  refine wpList_nil ?_
  obtain rfl := oi u
  exact tn ⟨S0, wj s d [0] []⟩
 rintro a w ⟨Sv30, s, d⟩
 refine nl (cd s u rfl (fun u => ?_) fun u => ?_)
 ·refine sz0 2 s rfl fun a s => ?_
  obtain rfl := oi u
  exact wp_ret (then_ret (ret2 s rfl (rv_tmp rfl) (rv_tmp rfl) (d.ret rfl)))
 refine sk (sn 8 [0, 0] s d rfl rfl fun a s => ?_)
 obtain ⟨quo41, h40, u⟩ := bt u
 refine sv s (y_quoM rfl rfl h40) rfl fun a s => ?_
 refine sv s (y_add rfl rfl) rfl fun a s => ?_
 obtain ⟨x43, h42, u⟩ := bt u
 refine sv s (y_assignI rfl h42) rfl fun a s => ?_
 refine rz0 1 s rfl fun a s => ?_
 obtain rfl := oi u
 exact wp_ret (ret2 s rfl (rv_tmp rfl) (rv_tmp rfl) (d.ret rfl))
theorem ref14_Time_ok {w0 S0 p2 k3 r1 i5 r} (u : ref14_Time r1 i5 = some r) (hS : Dm S0 w0) (h4 : (Sq p2 k3 r1.Samples).p S0 w0) : Ck Tryz.prog 52 #[V35 r1 p2 k3, iv i5] w0 S0 [] slices_IndexFunc_Lapi_Record_api_Record_rd r := by
 refine en 20 func52 rfl hS rfl rfl rfl fun a s d => ?_
 have d := d.addE h4
 refine sr (wb (C35 r1 p2 k3) s d rfl fun b6 a w s d => ?_)
 refine rz0 1 s rfl fun a s => ?_
 refine sn 8 [0, 0, 0] s d rfl rfl fun a s => ?_
 obtain ⟨rv8, h7, u⟩ := bt u
 refine cV s d (ref02_Time_ok h7 d.bdom) (do_call call79 rfl) rfl fun a w s d => ?_
 refine rz0 5 s rfl fun a s => ?_
 refine sz0 2 s rfl fun a s => ?_
 obtain rfl := oi u
 exact q1 s rfl (d.ret rfl)
theorem ref14_Valid_ok {w0 S0 p2 k3 r1 r} (u : ref14_Valid r1 = some r) (hS : Dm S0 w0) (h4 : (Sq p2 k3 r1.Samples).p S0 w0) : Ck Tryz.prog 51 #[V35 r1 p2 k3] w0 S0 [] made_Light_rd r := by
 refine en 68 func51 rfl hS rfl rfl rfl fun a s d => ?_
 have d := d.addE h4
 refine sr (wb (C35 r1 p2 k3) s d rfl fun b5 a w s d => ?_)
 refine rz0 1 s rfl fun a s => ?_
 refine wp_seq (sn 2 [0] s d rfl rfl fun a s => ?_)
 obtain ⟨rv7, h6, u⟩ := bt u
 refine cV s d (ref03_Valid_ok h6 d.bdom) (do_call call76 rfl) rfl fun a w s d => ?_
 refine rn0 2 s rfl fun a s => ?_
 obtain ⟨c21, hc21, u⟩ := bt u
 refine wpl_join 5 (fun a w => ∃ Sv22, Sl 68 [(1, pt b5), (12, .bool c21)] a ∧ Wd ⟨w0, S0, []⟩ Sv22 [.box b5 (C35 r1 p2 k3) 35] [Sq p2 k3 r1.Samples] w) ?_ ?_
 ·rcases Bool.eq_false_or_eq_true (!rv7) with h20 | h20
  ·have s := s.bT 7 rfl h20
   have u := ite_t hc21 h20
   refine rn0 5 s rfl fun a s => ?_
   refine wpList_nil ?_
   obtain rfl := oi u
   exact tn ⟨S0, wj s d [0] [0]⟩
  have s := s.bF 7 rfl h20
  have u := ite_f hc21 h20
  refine rn 2 [0] s d rfl rfl fun a s => ?_
  obtain ⟨rv24, h23, u⟩ := bt u
  refine st_callR s (ref02_Valid_ok h23 d.bdom) (do_call call77 rfl) ⟨_, rfl, rfl⟩ rfl rfl ?_
  rintro v28 Sv25 w a h26 rfl s
  have d := d.callB h26
  refine rn0 2 s rfl fun a s => ?_
  refine wpList_nil ?_
  obtain rfl := oi u
  exact tn ⟨S0, wj s d [0] [0]⟩
 rintro a w ⟨Sv22, s, d⟩
 refine mv s rfl rfl fun a s => ?_
 obtain ⟨c38, hc38, u⟩ := bt u
 refine wpl_join 5 (fun a w => ∃ Sv39, Sl 68 [(1, pt b5), (18, .bool c38)] a ∧ Wd ⟨w0, S0, []⟩ Sv39 [.box b5 (C35 r1 p2 k3) 35] [Sq p2 k3 r1.Samples] w) ?_ ?_
 ·rcases Bool.eq_false_or_eq_true c21 with h37 | h37
  ·have s := s.bT 13 rfl h37
   have u := ite_t hc38 h37
   refine rn0 5 s rfl fun a s => ?_
   refine wpList_nil ?_
   obtain rfl := oi u
   exact tn ⟨Sv22, wj s d [0] [0]⟩
  have s := s.bF 13 rfl h37
  have u := ite_f hc38 h37
  refine rn 2 [0] s d rfl rfl fun a s => ?_
  obtain ⟨rv41, h40, u⟩ := bt u
  refine st_callR s (ref01_In_ok h40 d.bdom) (do_call call55 rfl) ⟨_, rfl, rfl⟩ rfl rfl ?_
  rintro v45 Sv42 w a h43 rfl s
  have d := d.callB h43
  refine rn0 2 s rfl fun a s => ?_
  refine wpList_nil ?_
  obtain rfl := oi u
  exact tn ⟨Sv22, wj s d [0] [0]⟩
 rintro a w ⟨Sv39, s, d⟩
 refine mv s rfl rfl fun a s => ?_
 obtain ⟨c55, hc55, u⟩ := bt u
 refine wpl_join 5 (fun a w => ∃ Sv56, Sl 68 [(1, pt b5), (24, .bool c55)] a ∧ Wd ⟨w0, S0, []⟩ Sv56 [.box b5 (C35 r1 p2 k3) 35] [Sq p2 k3 r1.Samples] w) ?_ ?_
 ·rcases Bool.eq_false_or_eq_true c38 with h54 | h54
  ·have s := s.bT 19 rfl h54
   have u := ite_t hc55 h54
   refine rn0 5 s rfl fun a s => ?_
   refine wpList_nil ?_
   obtain rfl := oi u
   exact tn ⟨Sv39, wj s d [0] [0]⟩
  have s := s.bF 19 rfl h54
  have u := ite_f hc55 h54
  refine rn 2 [0] s d rfl rfl fun a s => ?_
  obtain ⟨rv58, h57, u⟩ := bt u
  refine st_callR s (ref01_In_ok h57 d.bdom) (do_call call55 rfl) ⟨_, rfl, rfl⟩ rfl rfl ?_
  rintro v62 Sv59 w a h60 rfl s
  have d := d.callB h60
  refine rn0 2 s rfl fun a s => ?_
  refine wpList_nil ?_
  obtain rfl := oi u
  exact tn ⟨Sv39, wj s d [0] [0]⟩
 rintro a w ⟨Sv56, s, d⟩
 refine mv s rfl rfl fun a s => ?_
 obtain ⟨c72, hc72, u⟩ := bt u
 refine wpl_join 6 (fun a w => ∃ Sv73, Sl 68 [(1, pt b5), (31, .bool c72)] a ∧ Wd ⟨w0, S0, []⟩ Sv73 [.box b5 (C35 r1 p2 k3) 35] [Sq p2 k3 r1.Samples] w) ?_ ?_
 ·rcases Bool.eq_false_or_eq_true c55 with h71 | h71
  ·have s := s.bT 25 rfl h71
   have u := ite_t hc72 h71
   refine rn0 6 s rfl fun a s => ?_
   refine wpList_nil ?_
   obtain rfl := oi u
   exact tn ⟨Sv56, wj s d [0] [0]⟩
  have s := s.bF 25 rfl h71
  have u := ite_f hc72 h71
  refine rn 3 [0] s d rfl rfl fun a s => ?_
  obtain ⟨rv75, h74, u⟩ := bt u
  refine st_callR s (ref01_In_ok h74 d.bdom) (do_call call55 rfl) ⟨_, rfl, rfl⟩ rfl rfl ?_
  rintro v79 Sv76 w a h77 rfl s
  have d := d.callB h77
  refine rn0 2 s rfl fun a s => ?_
  refine wpList_nil ?_
  obtain rfl := oi u
  exact tn ⟨Sv56, wj s d [0] [0]⟩
 rintro a w ⟨Sv73, s, d⟩
 refine mv s rfl rfl fun a s => ?_
 refine rO 8 32 [0, 0] s d rfl rfl rfl rfl rfl fun a s => ?_
 refine mv s rfl rfl fun a s => ?_
 obtain ⟨c90, hc90, u⟩ := bt u
 refine wpl_join 5 (fun a w => ∃ Sv91, Sl 68 [(1, pt b5), (46, .bool c90)] a ∧ Wd ⟨w0, S0, []⟩ Sv91 [.box b5 (C35 r1 p2 k3) 35] [Sq p2 k3 r1.Samples] w) ?_ ?_
 ·rcases Bool.eq_false_or_eq_true (c72 || (decide (16777216 < (w64 (r1.First + (r1.Samples.length : Int)))))) with h89 | h89
  ·have s := s.bT 41 rfl h89
   have u := ite_t hc90 h89
   refine rn0 5 s rfl fun a s => ?_
   refine wpList_nil ?_
   obtain rfl := oi u
   exact tn ⟨Sv73, wj s d [0] [0]⟩
  have s := s.bF 41 rfl h89
  have u := ite_f hc90 h89
  refine rn 2 [0] s d rfl rfl fun a s => ?_
  obtain ⟨rv93, h92, u⟩ := bt u
  refine st_callR s (ref05_InRange_ok h92 d.bdom (d.bE 0 rfl)) (do_call call78 rfl) ⟨_, rfl, rfl⟩ rfl rfl ?_
  rintro v97 Sv94 w a h95 rfl s
  have d := d.callB h95
  refine rn0 2 s rfl fun a s => ?_
  refine wpList_nil ?_
  obtain rfl := oi u
  exact tn ⟨Sv73, wj s d [0] [0]⟩
 rintro a w ⟨Sv91, s, d⟩
 refine nl (cd s u rfl (fun u => ?_) fun u => ?_)
 ·refine sz0 1 s rfl fun a s => ?_
  obtain rfl := oi u
  exact wp_ret (then_ret (rt s rfl (d.ret rfl)))
 refine sk (sn 2 [0] s d rfl rfl fun a s => ?_)
 obtain ⟨rv102, h101, u⟩ := bt u
 refine cV s d (ref01_In_ok h101 d.bdom) (do_call call55 rfl) rfl fun a w s d => ?_
 refine mv s rfl rfl fun a s => ?_
 obtain ⟨c116, hc116, u⟩ := bt u
 refine wpl_join 4 (fun a w => ∃ Sv117, Sl 68 [(1, pt b5), (54, .bool c116)] a ∧ Wd ⟨w0, S0, []⟩ Sv117 [.box b5 (C35 r1 p2 k3) 35] [Sq p2 k3 r1.Samples] w) ?_ ?_
 ·rcases Bool.eq_false_or_eq_true rv102 with h115 | h115
  ·have s := s.bT 50 rfl h115
   have u := ite_t hc116 h115
   refine rn 2 [0] s d rfl rfl fun a s => ?_
   obtain ⟨rv119, h118, u⟩ := bt u
   refine st_callR s (ref01_In_ok h118 d.bdom) (do_call call55 rfl) ⟨_, rfl, rfl⟩ rfl rfl ?_
   rintro v123 Sv120 w a h121 rfl s
   have d := d.callB h121
   refine sv s (y_pickT rfl rfl) rfl fun a s => ?_
   refine wpList_nil ?_
   obtain rfl := oi u
   exact tn ⟨Sv91, wj s d [0] [0]⟩
  have s := s.bF 50 rfl h115
  have u := ite_f hc116 h115
  refine rn0 4 s rfl fun a s => ?_
  refine wpList_nil ?_
  obtain rfl := oi u
  exact tn ⟨Sv91, wj s d [0] [0]⟩
 rintro a w ⟨Sv117, s, d⟩
 refine mv s rfl rfl fun a s => ?_
 obtain ⟨c133, hc133, u⟩ := bt u
 refine wpl_join 4 (fun a w => ∃ Sv134, Sl 68 [(1, pt b5), (59, .bool c133)] a ∧ Wd ⟨w0, S0, []⟩ Sv134 [.box b5 (C35 r1 p2 k3) 35] [Sq p2 k3 r1.Samples] w) ?_ ?_
 ·rcases Bool.eq_false_or_eq_true c116 with h132 | h132
  ·have s := s.bT 55 rfl h132
   have u := ite_t hc133 h132
   refine rn 2 [0] s d rfl rfl fun a s => ?_
   obtain ⟨rv136, h135, u⟩ := bt u
   refine st_callR s (ref01_In_ok h135 d.bdom) (do_call call55 rfl) ⟨_, rfl, rfl⟩ rfl rfl ?_
   rintro v140 Sv137 w a h138 rfl s
   have d := d.callB h138
   refine sv s (y_pickT rfl rfl) rfl fun a s => ?_
   refine wpList_nil ?_
   obtain rfl := oi u
   exact tn ⟨Sv117, wj s d [0] [0]⟩
  have s := s.bF 55 rfl h132
  have u := ite_f hc133 h132
  refine rn0 4 s rfl fun a s => ?_
  refine wpList_nil ?_
  obtain rfl := oi u
  exact tn ⟨Sv117, wj s d [0] [0]⟩
 rintro a w ⟨Sv134, s, d⟩
 refine mv s rfl rfl fun a s => ?_
 obtain ⟨c150, hc150, u⟩ := bt u
 refine wpl_join 7 (fun a w => ∃ Sv151, Sl 68 [(67, .bool c150)] a ∧ Wd ⟨w0, S0, []⟩ Sv151 [] [] w) ?_ ?_
 ·rcases Bool.eq_false_or_eq_true c133 with h149 | h149
  ·have s := s.bT 60 rfl h149
   have u := ite_t hc150 h149
   refine rn 4 [0, 0] s d rfl rfl fun a s => ?_
   obtain ⟨rv153, h152, u⟩ := bt u
   refine st_callR s (ref14_Time_ok h152 d.bdom (d.bE 0 rfl)) (do_call call52 rfl) ⟨_, rfl, rfl⟩ rfl rfl ?_
   rintro v157 Sv154 w a h155 rfl s
   have d := d.callB h155
   refine rn0 2 s rfl fun a s => ?_
   refine wpList_nil ?_
   obtain rfl := oi u
   exact tn ⟨Sv134, wj s d [] []⟩
  have s := s.bF 60 rfl h149
  have u := ite_f hc150 h149
  refine rn0 7 s rfl fun a s => ?_
  refine wpList_nil ?_
  obtain rfl := oi u
  exact tn ⟨Sv134, wj s d [] []⟩
 rintro a w ⟨Sv151, s, d⟩
 refine rz0 1 s rfl fun a s => ?_
 obtain rfl := oi u
 exact q1 s rfl (d.ret rfl)
theorem ref15_fine_ok {w0 S0 p2 k3 l1 r} (u : ref15_fine l1 = some r) (hS : Dm S0 w0) (h4 : (Sq p2 k3 l1).p S0 w0) : Ck Tryz.prog 67 #[sl p2 k3 l1] w0 S0 [] made_Light_rd r := by
 refine en 28 func67 rfl hS rfl rfl rfl fun a s d => ?_
 have d := d.addE h4
 refine sz0 1 s rfl fun a s => ?_
 refine wp_seq (sz0 1 s rfl fun a s => ?_)
 refine wp_block (wp_while (fun sv157 a w => ∃ Sv257, Sl 28 [(0, sl p2 k3 l1), (3, iv sv157)] a ∧ Wd ⟨w0, S0, []⟩ Sv257 [] [Sq p2 k3 l1] w) 0 u ⟨S0, wj s d [] [0]⟩ ?_)
 repeat clear u
 rintro sv157 a w tv308 ⟨Sv257, s, d⟩ u hd307
 refine wp_seq (sz0 4 s rfl fun a s => ?_)
 refine cd s u rfl (fun u => ?_) fun u => ?_
 ·refine sk (wp_seq (wp_block (wp_seq ?_)))
  obtain ⟨x361, h359, u⟩ := bt u
  obtain ⟨b367, o368, q365, c366, h369, h362, h363, h364, h360⟩ := d.elemV 0 rfl h359
  have hsv370 := s
  have hwv371 := d
  subst h369
  have s := hsv370
  have d := hwv371
  obtain ⟨_, _, _, _, _, _, _, _, _, _, _, _, rfl, rfl, rfl, rfl, rfl, rfl, rfl, rfl, rfl, rfl, rfl, rfl, ⟨p372, n373, k374, rfl, h375⟩⟩ := h360
  obtain rfl := h375.1
  have d := (d.addE (e := SlA p372 _ k374 x361.Samples) h375).addE h364
  obtain ⟨rv377, h376, u⟩ := bt u
  obtain ⟨c402, hc402, u⟩ := bt u
  refine wp_only (fun a w => ∃ Sv403, Sl 28 [(0, sl (some ⟨b367, o368, none⟩) k3 l1), (3, iv sv157), (27, .bool c402)] a ∧ Wd ⟨w0, S0, []⟩ Sv403 [] [Sq (some ⟨b367, o368, none⟩) k3 l1] w) ?_ ?_
  ·rcases Bool.eq_false_or_eq_true (!rv377) with h404 | h404
   ·have h405 := ite_t hc402 h404
    refine h_c [] [0] d rfl rfl (by kernel_rfl) rfl fun hC d => ?_
    refine gn 2 [0, 1] [] s hC rfl rfl rfl fun a s => ?_
    refine gx s 2 rfl trivial rfl hC runUnderlying27 sizeOf35 rfl rfl h362 h363 fun a s => ?_
    refine gv s 3 rfl rfl hC (fun w hC => y_loadEA (j := 0) (hC.ceAt 0 rfl) rfl isAgg35 sizeOf35 rfl rfl) fun a s => ?_
    refine ho 4 rfl ?_
    refine cV s d (ref14_Valid_ok h376 d.bdom (d.bE 1 rfl)) (do_call call51 rfl) rfl fun a w s d => ?_
    refine h_n [] [0] d rfl rfl fun hC => ?_
    refine gn 2 [5, 6] [] s hC rfl rfl rfl fun a s => ?_
    have s := s.bT 16 rfl h404
    refine gn 10 [7, 8, 9, 10, 11, 12, 13, 14, 15, 16] [] s hC rfl rfl rfl fun a s => ?_
    refine gT s 17 rfl rfl hC rfl rfl h405 fun a s => ?_
    refine h_done (by kernel_rfl) ?_
    exact ⟨Sv257, wj s d [] [2]⟩
   have h411 := ite_f hc402 h404
   obtain ⟨x414, h412, h411⟩ := bind_t h411
   obtain ⟨q418, c419, h415, h416, h417, h413⟩ := d.elemK 2 rfl h412
   obtain ⟨_, _, _, _, _, _, _, _, _, _, _, _, rfl, rfl, rfl, rfl, rfl, rfl, rfl, rfl, rfl, rfl, rfl, rfl, ⟨p420, n421, k422, rfl, h423⟩⟩ := h413
   obtain rfl := h423.1
   have d := (d.addE (e := SlA p420 _ k422 x414.Samples) h423).addE h417
   obtain ⟨x426, h424, h411⟩ := bind_t h411
   obtain ⟨q430, c431, h427, h428, h429, h425⟩ := d.elemK 4 rfl h424
   obtain ⟨_, _, _, _, _, _, _, _, _, _, _, _, rfl, rfl, rfl, rfl, rfl, rfl, rfl, rfl, rfl, rfl, rfl, rfl, ⟨p432, n433, k434, rfl, h435⟩⟩ := h425
   obtain rfl := h435.1
   have d := (d.addE (e := SlA p432 _ k434 x426.Samples) h435).addE h429
   refine h_c [] [0, 2, 4] d rfl rfl (by kernel_rfl) rfl fun hC d => ?_
   refine gn 2 [0, 1] [] s hC rfl rfl rfl fun a s => ?_
   refine gx s 2 rfl trivial rfl hC runUnderlying27 sizeOf35 rfl rfl h362 h363 fun a s => ?_
   refine gv s 3 rfl rfl hC (fun w hC => y_loadEA (j := 0) (hC.ceAt 2 rfl) rfl isAgg35 sizeOf35 rfl rfl) fun a s => ?_
   refine ho 4 rfl ?_
   refine cV s d (ref14_Valid_ok h376 d.bdom (d.bE 5 rfl)) (do_call call51 rfl) rfl fun a w s d => ?_
   refine h_n [] [0, 2, 4] d rfl rfl fun hC => ?_
   refine gn 2 [5, 6] [] s hC rfl rfl rfl fun a s => ?_
   have s := s.bF 16 rfl h404
   refine gn 2 [7, 8] [] s hC rfl rfl rfl fun a s => ?_
   refine gx s 9 rfl ⟨_, rfl, rfl⟩ rfl hC runUnderlying27 sizeOf35 rfl rfl h415 h416 fun a s => ?_
   refine gt s 10 rfl ⟨_, rfl, rfl⟩ rfl hC (fun w hC => y_fieldAddr (o' := q418 + 0) runUnderlying35 rfl sizeOf31 rfl rfl rfl) fun a s => ?_
   refine gt s 11 rfl ⟨_, rfl, rfl⟩ rfl hC (fun w hC => y_loadEA (j := 0) (hC.ceAt 1 rfl) rfl isAgg31 sizeOf31 rfl rfl) fun a s => ?_
   refine gt s 12 rfl ⟨_, rfl, rfl⟩ rfl hC (fun w hC => y_move rfl) fun a s => ?_
   refine gx s 13 rfl ⟨_, rfl, rfl⟩ rfl hC runUnderlying27 sizeOf35 rfl rfl h427 h428 fun a s => ?_
   refine gt s 14 rfl ⟨_, rfl, rfl⟩ rfl hC (fun w hC => y_fieldAddr (o' := q430 + 0) runUnderlying35 rfl sizeOf31 rfl rfl rfl) fun a s => ?_
   refine gt s 15 rfl ⟨_, rfl, rfl⟩ rfl hC (fun w hC => y_loadEA (j := 0) (hC.ceAt 0 rfl) rfl isAgg31 sizeOf31 rfl rfl) fun a s => ?_
   refine gt s 16 rfl ⟨_, rfl, rfl⟩ rfl hC (fun w hC => y_neqA (by kernel_rfl) rfl rfl (eqv_struct runUnderlying31 (by kernel_rfl) (EqF.cons1 rfl isAgg9 rfl rfl (eqv_str runUnderlying9) (EqF.cons1 rfl isAgg9 rfl rfl (eqv_str runUnderlying9) (EqF.cons1 rfl isAgg9 rfl rfl (eqv_str runUnderlying9) (EqF.cons1 rfl isAgg9 rfl rfl (eqv_str runUnderlying9) EqF.nil)))))) fun a s => ?_
   refine gF s 17 rfl rfl hC rfl rfl h411 fun a s => ?_
   refine h_done (by kernel_rfl) ?_
   exact ⟨Sv257, wj s d [] [6]⟩
  rintro a w ⟨Sv403, s, d⟩
  refine tn (cd s u rfl (fun u => ?_) fun u => ?_)
  ·refine sz0 1 s rfl fun a s => ?_
   obtain rfl := oi u
   have h443 := hd307 _ rfl
   subst h443
   exact wp_ret (blk_ret (then_ret (then_ret (blk_ret (then_ret (rt s rfl (d.ret rfl)))))))
  refine wp_skip (blk_normal (tn (wp_region_lit (rn0 2 s rfl fun a s => ?_))))
  obtain ⟨i445, h444, u⟩ := bt u
  refine sv s (y_assignI rfl h444) rfl fun a s => ?_
  exact nl ⟨_, io u, Sv403, wj s d [] [0]⟩
 obtain ⟨rv446, u, h447⟩ := map_t u
 have h447 := (hd307 _ h447.symm).symm
 subst h447
 refine wp_exit (then_exit (then_exit (blk_exit (tn (sz0 1 s rfl fun a s => ?_)))))
 obtain rfl := oi u
 exact q1 s rfl (d.ret rfl)
theorem ref15_Valid_ok {w0 S0 p2 k3 l1 r} (u : ref15_Valid l1 = some r) (hS : Dm S0 w0) (h4 : (Sq p2 k3 l1).p S0 w0) : Ck Tryz.prog 42 #[sl p2 k3 l1] w0 S0 [] made_Light_rd r := by
 refine en 10 func42 rfl hS rfl rfl rfl fun a s d => ?_
 have d := d.addE h4
 refine sz0 1 s rfl fun a s => ?_
 refine sn0 4 s rfl fun a s => ?_
 obtain ⟨c13, hc13, u⟩ := bt u
 refine wpl_join 3 (fun a w => ∃ Sv14, Sl 10 [(9, .bool c13)] a ∧ Wd ⟨w0, S0, []⟩ Sv14 [] [] w) ?_ ?_
 ·rcases Bool.eq_false_or_eq_true (decide ((l1.length : Int) ≤ 256)) with h12 | h12
  ·have s := s.bT 6 rfl h12
   have u := ite_t hc13 h12
   refine st_val s (y_move rfl) ⟨_, rfl, rfl⟩ rfl rfl fun a s => ?_
   obtain ⟨rv16, h15, u⟩ := bt u
   refine st_callR s (ref15_fine_ok h15 d.bdom (d.bE 0 rfl)) (do_call call67 rfl) ⟨_, rfl, rfl⟩ rfl rfl ?_
   rintro v20 Sv17 w a h18 rfl s
   have d := d.callB h18
   refine sv s (y_pickT rfl rfl) rfl fun a s => ?_
   refine wpList_nil ?_
   obtain rfl := oi u
   exact tn ⟨S0, wj s d [] []⟩
  have s := s.bF 6 rfl h12
  have u := ite_f hc13 h12
  refine rn0 3 s rfl fun a s => ?_
  refine wpList_nil ?_
  obtain rfl := oi u
  exact tn ⟨S0, wj s d [] []⟩
 rintro a w ⟨Sv14, s, d⟩
 refine rz0 1 s rfl fun a s => ?_
 obtain rfl := oi u
 exact q1 s rfl (d.ret rfl)
theorem ref03_compare_ok {w0 S0 a1 b2 r} (u : ref03_compare a1 b2 = some r) (hS : Dm S0 w0) : Ck Tryz.prog 80 #[.string a1, .string b2] w0 S0 [] slices_IndexFunc_Lapi_Record_api_Record_rd r := by
 refine en 13 func80 rfl hS rfl rfl rfl fun a s d => ?_
 refine sz0 1 s rfl fun a s => ?_
 refine wp_seq (wp_block (sn0 2 s rfl fun a s => ?_))
 refine sv s (y_lssS rfl rfl) rfl fun a s => ?_
 refine rz0 1 s rfl fun a s => ?_
 refine cd s u rfl (fun u => ?_) fun u => ?_
 ·refine sz0 1 s rfl fun a s => ?_
  obtain rfl := oi u
  exact wp_ret (blk_ret (then_ret (rt s rfl (d.ret rfl))))
 refine sn0 2 s rfl fun a s => ?_
 refine sv s (y_gtrS rfl rfl) rfl fun a s => ?_
 refine rz0 1 s rfl fun a s => ?_
 refine cd s u rfl (fun u => ?_) fun u => ?_
 ·refine sz0 1 s rfl fun a s => ?_
  obtain rfl := oi u
  exact wp_ret (blk_ret (then_ret (rt s rfl (d.ret rfl))))
 refine wp_skip (blk_normal (tn (sz0 1 s rfl fun a s => ?_)))
 obtain rfl := oi u
 exact q1 s rfl (d.ret rfl)
theorem ref03_Compare_ok {w0 S0 a1 b2 r} (u : ref03_Compare a1 b2 = some r) (hS : Dm S0 w0) : Ck Tryz.prog 53 #[V31 a1, V31 b2] w0 S0 [] slices_IndexFunc_Lapi_Record_api_Record_rd r := by
 refine en 35 func53 rfl hS rfl rfl rfl fun a s d => ?_
 refine sr (wb (C31 a1) s d rfl fun b3 a w s d => ?_)
 refine wb (C31 b2) s d rfl fun b4 a w s d => ?_
 refine rz0 1 s rfl fun a s => ?_
 refine wp_seq (wp_seq ?_)
 obtain ⟨rv6, h5, u⟩ := bt u
 obtain ⟨rv8, h7, u⟩ := bt u
 obtain ⟨rv10, h9, u⟩ := bt u
 obtain ⟨rv12, h11, u⟩ := bt u
 refine wp_only (fun a w => ∃ Sv13, Sl 35 [(27, .agg #[iv rv6, iv rv8, iv rv10, iv rv12]), (28, iv 0)] a ∧ Wd ⟨w0, S0, []⟩ Sv13 [] [] w) ?_ ?_
 ·refine h_c [0, 1] [] d rfl rfl (by kernel_rfl) rfl fun hC d => ?_
  refine gn 17 [0, 1, 2, 3, 5, 6, 7, 8, 10, 11, 12, 13, 15, 16, 17, 18, 21] [1, 0, 1, 0, 1, 0, 1, 0] s hC rfl rfl rfl fun a s => ?_
  refine ho 4 rfl ?_
  refine cV s d (ref03_compare_ok h5 d.bdom) (do_call call80 rfl) rfl fun a w s d => ?_
  refine h_n [0, 1] [] d rfl rfl fun hC => ?_
  refine ho 9 rfl ?_
  refine cV s d (ref03_compare_ok h7 d.bdom) (do_call call80 rfl) rfl fun a w s d => ?_
  refine h_n [0, 1] [] d rfl rfl fun hC => ?_
  refine ho 14 rfl ?_
  refine cV s d (ref03_compare_ok h9 d.bdom) (do_call call80 rfl) rfl fun a w s d => ?_
  refine h_n [0, 1] [] d rfl rfl fun hC => ?_
  refine ho 19 rfl ?_
  refine cV s d (ref03_compare_ok h11 d.bdom) (do_call call80 rfl) rfl fun a w s d => ?_
  refine h_n [0, 1] [] d rfl rfl fun hC => ?_
  refine gv s 20 rfl rfl hC (fun w hC => y_build (vs := [(0, iv rv6), (1, iv rv8), (2, iv rv10), (3, iv rv12)]) Bld108 rfl rfl) fun a s => ?_
  refine h_done (by kernel_rfl) ?_
  exact ⟨S0, wj s d [] []⟩
 rintro a w ⟨Sv13, s, d⟩
 refine tn (wp_block (wp_while (fun sv51 a w => ∃ Sv61, Sl 35 [(27, .agg #[iv rv6, iv rv8, iv rv10, iv rv12]), (28, iv sv51)] a ∧ Wd ⟨w0, S0, []⟩ Sv61 [] [] w) 0 u ⟨Sv13, wj s d [] []⟩ ?_))
 repeat clear u
 rintro sv51 a w tv67 ⟨Sv61, s, d⟩ u hd66
 refine sz0 1 s rfl fun a s => ?_
 refine wp_seq (cd s u rfl (fun u => ?_) fun u => ?_)
 ·refine sk (wp_seq (wp_block (sr ?_)))
  obtain ⟨x76, h75, u⟩ := bt u
  refine sv s (y_idxA (α := Int) (xs := [rv6, rv8, rv10, rv12]) (cs := [iv rv6, iv rv8, iv rv10, iv rv12]) (es := [iv x76]) (v := iv x76) runUnderlying108 sizeOf3 (.inl ⟨isAgg3, rfl⟩) rfl rfl rfl (fun _ _ => ⟨⟨_, rfl, rfl⟩, ⟨⟨_, rfl, rfl⟩, ⟨⟨_, rfl, rfl⟩, ⟨⟨_, rfl, rfl⟩, rfl⟩⟩⟩⟩) h75 (fun _ _ _ he => by obtain ⟨_, rfl, rfl⟩ := he; rfl)) rfl fun a s => ?_
  refine rz0 1 s rfl fun a s => ?_
  refine sz0 2 s rfl fun a s => ?_
  refine cd s u rfl (fun u => ?_) fun u => ?_
  ·refine sz0 2 s rfl fun a s => ?_
   obtain rfl := oi u
   have h79 := hd66 _ rfl
   subst h79
   exact wp_ret (blk_ret (then_ret (then_ret (blk_ret (then_ret (rt s rfl (d.ret rfl)))))))
  refine wp_skip (blk_normal (tn (wp_region_lit (rz0 2 s rfl fun a s => ?_))))
  exact ⟨_, io u, Sv61, wj s d [] []⟩
 obtain ⟨rv80, u, h81⟩ := map_t u
 have h81 := (hd66 _ h81.symm).symm
 subst h81
 refine wp_exit (then_exit (then_exit (blk_exit (tn (sz0 1 s rfl fun a s => ?_)))))
 obtain rfl := oi u
 exact q1 s rfl (d.ret rfl)
theorem ref14_number_ok {w0 S0 a1 b2 r} (u : ref14_number a1 b2 = some r) (hS : Dm S0 w0) : Ck Tryz.prog 54 #[iv a1, iv b2] w0 S0 [] slices_IndexFunc_Lapi_Record_api_Record_rd r := by
 refine en 13 func54 rfl hS rfl rfl rfl fun a s d => ?_
 refine sz0 1 s rfl fun a s => ?_
 refine wp_seq (wp_block (sz0 4 s rfl fun a s => ?_))
 refine cd s u rfl (fun u => ?_) fun u => ?_
 ·refine sz0 1 s rfl fun a s => ?_
  obtain rfl := oi u
  exact wp_ret (blk_ret (then_ret (rt s rfl (d.ret rfl))))
 refine sz0 4 s rfl fun a s => ?_
 refine cd s u rfl (fun u => ?_) fun u => ?_
 ·refine sz0 1 s rfl fun a s => ?_
  obtain rfl := oi u
  exact wp_ret (blk_ret (then_ret (rt s rfl (d.ret rfl))))
 refine wp_skip (blk_normal (tn (sz0 1 s rfl fun a s => ?_)))
 obtain rfl := oi u
 exact q1 s rfl (d.ret rfl)
theorem ref14_Compare_ok {w0 S0 p2 k3 p6 k7 a1 b5 r} (u : ref14_Compare a1 b5 = some r) (hS : Dm S0 w0) (h4 : (Sq p2 k3 a1.Samples).p S0 w0) (h8 : (Sq p6 k7 b5.Samples).p S0 w0) : Ck Tryz.prog 21 #[V35 a1 p2 k3, V35 b5 p6 k7] w0 S0 [] slices_IndexFunc_Lapi_Record_api_Record_rd r := by
 refine en 102 func21 rfl hS rfl rfl rfl fun a s d => ?_
 have d := (d.addE h4).addE h8
 refine sr (wb (C35 a1 p2 k3) s d rfl fun b9 a w s d => ?_)
 refine wb (C35 b5 p6 k7) s d rfl fun b10 a w s d => ?_
 refine rz0 1 s rfl fun a s => ?_
 refine sz0 2 s rfl fun a s => ?_
 refine wp_seq (sn 1 [1] s d rfl rfl fun a s => ?_)
 obtain ⟨rv12, h11, u⟩ := bt u
 refine cV s d (ref14_Valid_ok h11 d.bdom (d.bE 1 rfl)) (do_call call51 rfl) rfl fun a w s d => ?_
 refine nl (wp_join (fun a w => ∃ (x27 : Int) (Sv26 : _), ref14_Compare_j1 a1 b5 x27 = some r ∧ Sl 102 [(2, pt b9), (3, pt b10), (5, iv x27), (6, iv 0)] a ∧ Wd ⟨w0, S0, []⟩ Sv26 [.box b9 (C35 a1 p2 k3) 35, .box b10 (C35 b5 p6 k7) 35] [Sq p2 k3 a1.Samples, Sq p6 k7 b5.Samples] w) ?_ ?_)
 ·refine cd s u rfl (fun u => ?_) fun u => ?_
  ·refine wp_region_lit (sv s (y_loadBA (d.ownAt 1 rfl) rfl isAgg35 sizeOf35 rfl rfl) rfl fun a s => ?_)
   obtain ⟨rv457, h456, u⟩ := bt u
   refine cV s d (ref14_Time_ok h456 d.bdom (d.bE 1 rfl)) (do_call call52 rfl) rfl fun a w s d => ?_
   refine rz0 1 s rfl fun a s => ?_
   exact ⟨rv457, S0, u, wj s d [1, 0] [1, 0]⟩
  exact sk ⟨0, S0, u, wj s d [1, 0] [1, 0]⟩
 rintro a w ⟨x27, Sv26, u, s, d⟩
 refine tn (wp_seq (sn 1 [1] s d rfl rfl fun a s => ?_))
 obtain ⟨rv29, h28, u⟩ := bt u
 refine cV s d (ref14_Valid_ok h28 d.bdom (d.bE 1 rfl)) (do_call call51 rfl) rfl fun a w s d => ?_
 refine nl (wp_join (fun a w => ∃ (y44 : Int) (Sv43 : _), ref14_Compare_j2 a1 b5 x27 y44 = some r ∧ Sl 102 [(2, pt b9), (3, pt b10), (5, iv x27), (6, iv y44)] a ∧ Wd ⟨w0, S0, []⟩ Sv43 [.box b9 (C35 a1 p2 k3) 35, .box b10 (C35 b5 p6 k7) 35] [Sq p2 k3 a1.Samples, Sq p6 k7 b5.Samples] w) ?_ ?_)
 ·refine cd s u rfl (fun u => ?_) fun u => ?_
  ·refine wp_region_lit (sv s (y_loadBA (d.ownAt 1 rfl) rfl isAgg35 sizeOf35 rfl rfl) rfl fun a s => ?_)
   obtain ⟨rv449, h448, u⟩ := bt u
   refine cV s d (ref14_Time_ok h448 d.bdom (d.bE 1 rfl)) (do_call call52 rfl) rfl fun a w s d => ?_
   refine rz0 1 s rfl fun a s => ?_
   exact ⟨rv449, Sv26, u, wj s d [0, 1] [0, 1]⟩
  exact sk ⟨0, Sv26, u, wj s d [0, 1] [0, 1]⟩
 rintro a w ⟨y44, Sv43, u, s, d⟩
 refine tn (wp_seq (wp_seq ?_))
 obtain ⟨rv46, h45, u⟩ := bt u
 obtain ⟨rv48, h47, u⟩ := bt u
 obtain ⟨rv50, h49, u⟩ := bt u
 obtain ⟨rv52, h51, u⟩ := bt u
 obtain ⟨rv54, h53, u⟩ := bt u
 obtain ⟨rv56, h55, u⟩ := bt u
 obtain ⟨rv58, h57, u⟩ := bt u
 obtain ⟨rv60, h59, u⟩ := bt u
 obtain ⟨rv62, h61, u⟩ := bt u
 obtain ⟨rv64, h63, u⟩ := bt u
 refine wp_only (fun a w => ∃ Sv65, Sl 102 [(2, pt b9), (3, pt b10), (73, .agg #[iv rv46, iv rv48, iv rv50, iv rv52, iv rv54, iv rv56, iv rv58, iv rv60, iv rv62, iv rv64]), (74, iv 0)] a ∧ Wd ⟨w0, S0, []⟩ Sv65 [.box b9 (C35 a1 p2 k3) 35, .box b10 (C35 b5 p6 k7) 35] [Sq p2 k3 a1.Samples, Sq p6 k7 b5.Samples] w) ?_ ?_
 ·refine h_c [0, 1] [] d rfl rfl (by kernel_rfl) rfl fun hC d => ?_
  refine gn 45 [0, 1, 2, 3, 5, 6, 8, 9, 10, 11, 13, 14, 15, 16, 18, 19, 20, 21, 22, 23, 25, 26, 27, 28, 29, 30, 32, 33, 34, 35, 37, 38, 39, 40, 42, 43, 44, 45, 47, 48, 49, 50, 51, 52, 55] [0, 1, 0, 1, 0, 1, 0, 1, 0, 1, 0, 1, 0, 1, 0, 1, 0, 1] s hC rfl rfl rfl fun a s => ?_
  refine ho 4 rfl ?_
  refine cV s d (ref03_Compare_ok h45 d.bdom) (do_call call53 rfl) rfl fun a w s d => ?_
  refine h_n [0, 1] [] d rfl rfl fun hC => ?_
  refine ho 7 rfl ?_
  refine cV s d (ref14_number_ok h47 d.bdom) (do_call call54 rfl) rfl fun a w s d => ?_
  refine h_n [0, 1] [] d rfl rfl fun hC => ?_
  refine ho 12 rfl ?_
  refine cV s d (ref14_number_ok h49 d.bdom) (do_call call54 rfl) rfl fun a w s d => ?_
  refine h_n [0, 1] [] d rfl rfl fun hC => ?_
  refine ho 17 rfl ?_
  refine cV s d (ref14_number_ok h51 d.bdom) (do_call call54 rfl) rfl fun a w s d => ?_
  refine h_n [0, 1] [] d rfl rfl fun hC => ?_
  refine ho 24 rfl ?_
  refine cV s d (ref14_number_ok h53 d.bdom) (do_call call54 rfl) rfl fun a w s d => ?_
  refine h_n [0, 1] [] d rfl rfl fun hC => ?_
  refine ho 31 rfl ?_
  refine cV s d (ref14_number_ok h55 d.bdom) (do_call call54 rfl) rfl fun a w s d => ?_
  refine h_n [0, 1] [] d rfl rfl fun hC => ?_
  refine ho 36 rfl ?_
  refine cV s d (ref14_number_ok h57 d.bdom) (do_call call54 rfl) rfl fun a w s d => ?_
  refine h_n [0, 1] [] d rfl rfl fun hC => ?_
  refine ho 41 rfl ?_
  refine cV s d (ref14_number_ok h59 d.bdom) (do_call call54 rfl) rfl fun a w s d => ?_
  refine h_n [0, 1] [] d rfl rfl fun hC => ?_
  refine ho 46 rfl ?_
  refine cV s d (ref14_number_ok h61 d.bdom) (do_call call54 rfl) rfl fun a w s d => ?_
  refine h_n [0, 1] [] d rfl rfl fun hC => ?_
  refine ho 53 rfl ?_
  refine cV s d (ref14_number_ok h63 d.bdom) (do_call call54 rfl) rfl fun a w s d => ?_
  refine h_n [0, 1] [] d rfl rfl fun hC => ?_
  refine gv s 54 rfl rfl hC (fun w hC => y_build (cells := [iv rv46, iv rv48, iv rv50, iv rv52, iv rv54, iv rv56, iv rv58, iv rv60, iv rv62, iv rv64]) (vs := [(0, iv rv46), (1, iv rv48), (2, iv rv50), (3, iv rv52), (4, iv rv54), (5, iv rv56), (6, iv rv58), (7, iv rv60), (8, iv rv62), (9, iv rv64)]) Bld86 rfl (by kernel_rfl)) fun a s => ?_
  refine h_done (by kernel_rfl) ?_
  exact ⟨Sv43, wj s d [0, 1] [0, 1]⟩
 rintro a w ⟨Sv65, s, d⟩
 refine tn (wp_block (wp_while (fun sv133 a w => ∃ Sv143, Sl 102 [(2, pt b9), (3, pt b10), (73, .agg #[iv rv46, iv rv48, iv rv50, iv rv52, iv rv54, iv rv56, iv rv58, iv rv60, iv rv62, iv rv64]), (74, iv sv133)] a ∧ Wd ⟨w0, S0, []⟩ Sv143 [.box b9 (C35 a1 p2 k3) 35, .box b10 (C35 b5 p6 k7) 35] [Sq p2 k3 a1.Samples, Sq p6 k7 b5.Samples] w) 0 u ⟨Sv65, wj s d [0, 1] [0, 1]⟩ ?_))
 repeat clear u
 rintro sv133 a w tv149 ⟨Sv143, s, d⟩ u hd148
 refine sz0 1 s rfl fun a s => ?_
 refine wp_seq (cd s u rfl (fun u => ?_) fun u => ?_)
 ·refine sk (wp_seq (wp_block (sr ?_)))
  obtain ⟨x158, h157, u⟩ := bt u
  refine sv s (y_idxA (α := Int) (xs := [rv46, rv48, rv50, rv52, rv54, rv56, rv58, rv60, rv62, rv64]) (cs := [iv rv46, iv rv48, iv rv50, iv rv52, iv rv54, iv rv56, iv rv58, iv rv60, iv rv62, iv rv64]) (es := [iv x158]) (v := iv x158) runUnderlying86 sizeOf3 (.inl ⟨isAgg3, rfl⟩) rfl rfl rfl (fun _ _ => ⟨⟨_, rfl, rfl⟩, ⟨⟨_, rfl, rfl⟩, ⟨⟨_, rfl, rfl⟩, ⟨⟨_, rfl, rfl⟩, ⟨⟨_, rfl, rfl⟩, ⟨⟨_, rfl, rfl⟩, ⟨⟨_, rfl, rfl⟩, ⟨⟨_, rfl, rfl⟩, ⟨⟨_, rfl, rfl⟩, ⟨⟨_, rfl, rfl⟩, rfl⟩⟩⟩⟩⟩⟩⟩⟩⟩⟩) h157 (fun _ _ _ he => by obtain ⟨_, rfl, rfl⟩ := he; rfl)) rfl fun a s => ?_
  refine rz0 1 s rfl fun a s => ?_
  refine sz0 2 s rfl fun a s => ?_
  refine cd s u rfl (fun u => ?_) fun u => ?_
  ·refine sz0 2 s rfl fun a s => ?_
   obtain rfl := oi u
   have h161 := hd148 _ rfl
   subst h161
   exact wp_ret (blk_ret (then_ret (then_ret (blk_ret (then_ret (rt s rfl (d.ret rfl)))))))
  refine wp_skip (blk_normal (tn (wp_region_lit (rz0 2 s rfl fun a s => ?_))))
  exact ⟨_, io u, Sv143, wj s d [0, 1] [0, 1]⟩
 obtain ⟨rv445, u, h446⟩ := map_t u
 have h446 := (hd148 _ h446.symm).symm
 subst h446
 refine wp_exit (then_exit (then_exit (blk_exit (tn (wp_seq (sz0 1 s rfl fun a s => ?_))))))
 refine wp_block (wp_while (fun sv266 a w => ∃ Sv334, Sl 102 [(2, pt b9), (3, pt b10), (9, iv sv266)] a ∧ Wd ⟨w0, S0, []⟩ Sv334 [.box b9 (C35 a1 p2 k3) 35, .box b10 (C35 b5 p6 k7) 35] [Sq p2 k3 a1.Samples, Sq p6 k7 b5.Samples] w) 0 u ⟨Sv143, wj s d [0, 1] [0, 1]⟩ ?_)
 repeat clear u
 rintro sv266 a w tv369 ⟨Sv334, s, d⟩ u hd368
 refine wp_seq (sz 5 [0] s d rfl rfl fun a s => ?_)
 refine cd s u rfl (fun u => ?_) fun u => ?_
 ·refine sk (wp_seq (wp_block (wp_seq ?_)))
  obtain ⟨x406, h404, u⟩ := bt u
  obtain ⟨b412, o413, q410, c411, h414, h407, h408, h409, h405⟩ := d.elemV 0 rfl h404
  have hsv415 := s
  have hwv416 := d
  subst h414
  have s := hsv415
  have d := hwv416
  obtain ⟨_, rfl, rfl⟩ := h405
  have d := d.addE h409
  obtain ⟨x419, h417, u⟩ := bt u
  obtain ⟨b425, o426, q423, c424, h427, h420, h421, h422, h418⟩ := d.elemV 2 rfl h417
  have hsv428 := s
  have hwv429 := d
  subst h427
  have s := hsv428
  have d := hwv429
  obtain ⟨_, rfl, rfl⟩ := h418
  have d := d.addE h422
  obtain ⟨rv431, h430, u⟩ := bt u
  refine wp_only (fun a w => ∃ Sv432, Sl 102 [(2, pt b9), (3, pt b10), (9, iv sv266), (10, iv rv431)] a ∧ Wd ⟨w0, S0, []⟩ Sv432 [.box b9 (C35 a1 (some ⟨b412, o413, none⟩) k3) 35, .box b10 (C35 b5 (some ⟨b425, o426, none⟩) k7) 35] [Sq (some ⟨b412, o413, none⟩) k3 a1.Samples, Sq (some ⟨b425, o426, none⟩) k7 b5.Samples] w) ?_ ?_
  ·refine h_c [0, 1] [0, 1] d rfl rfl (by kernel_rfl) rfl fun hC d => ?_
   refine gn 3 [0, 1, 2] [0] s hC rfl rfl rfl fun a s => ?_
   refine gx s 3 rfl trivial rfl hC runUnderlying22 sizeOf3 rfl rfl h407 h408 fun a s => ?_
   refine gv s 4 rfl rfl hC (fun w hC => y_loadE1 (j := 0) (hC.ceAt 1 rfl) rfl isAgg3 rfl) fun a s => ?_
   refine gn 3 [5, 6, 7] [1] s hC rfl rfl rfl fun a s => ?_
   refine gx s 8 rfl trivial rfl hC runUnderlying22 sizeOf3 rfl rfl h420 h421 fun a s => ?_
   refine gv s 9 rfl rfl hC (fun w hC => y_loadE1 (j := 0) (hC.ceAt 0 rfl) rfl isAgg3 rfl) fun a s => ?_
   refine ho 10 rfl ?_
   refine cV s d (ref14_number_ok h430 d.bdom) (do_call call54 rfl) rfl fun a w s d => ?_
   refine h_n [0, 1] [0, 1] d rfl rfl fun hC => ?_
   refine gv s 11 rfl rfl hC (fun w hC => y_assign rfl) fun a s => ?_
   refine h_done (by kernel_rfl) ?_
   exact ⟨Sv334, wj s d [0, 1] [2, 3]⟩
  rintro a w ⟨Sv432, s, d⟩
  refine tn (sz0 2 s rfl fun a s => ?_)
  refine cd s u rfl (fun u => ?_) fun u => ?_
  ·refine sz0 2 s rfl fun a s => ?_
   obtain rfl := oi u
   have h440 := hd368 _ rfl
   subst h440
   exact wp_ret (blk_ret (then_ret (then_ret (blk_ret (then_ret (rt s rfl (d.ret rfl)))))))
  refine wp_skip (blk_normal (tn (wp_region_lit (rn0 2 s rfl fun a s => ?_))))
  obtain ⟨i442, h441, u⟩ := bt u
  refine sv s (y_assignI rfl h441) rfl fun a s => ?_
  exact nl ⟨_, io u, Sv432, wj s d [0, 1] [0, 1]⟩
 obtain ⟨rv443, u, h444⟩ := map_t u
 have h444 := (hd368 _ h444.symm).symm
 subst h444
 refine wp_exit (then_exit (then_exit (blk_exit (tn (sz0 1 s rfl fun a s => ?_)))))
 obtain rfl := oi u
 exact q1 s rfl (d.ret rfl)
theorem ref15_order_ok {w0 S0 p2 k3 l1 r} (u : ref15_order l1 = some r) (hS : Dm S0 w0) (h4 : (Sq p2 k3 l1).p S0 w0) : Ck Tryz.prog 66 #[sl p2 k3 l1] w0 S0 [] law15_two_rd r := by
 refine en 69 func66 rfl hS rfl rfl rfl fun a s d => ?_
 have d := d.addE h4
 refine sz0 1 s rfl fun a s => ?_
 refine sz0 1 s rfl fun a s => ?_
 refine wp_seq (sz0 1 s rfl fun a s => ?_)
 obtain ⟨e773, h1414, u⟩ := bt u
 refine wp_join (fun a w => ∃ c774 p775 k776 Sv777, Sl 69 [(3, sl p775 k776 e773)] a ∧ Wd ⟨w0, S0, []⟩ Sv777 [.row p775 e773.length k776 c774 35 12] [RowA c774 e773] w) ?_ ?_
 ·refine wp_block ?_
  have d := d.nilRow Record 35
  refine wp_while (fun sv5 a w => ∃ c514 p515 k516 Sv517, Sl 69 [(0, sl p2 k3 l1), (3, sl p515 k516 sv5.1), (4, iv sv5.2)] a ∧ Wd ⟨w0, S0, []⟩ Sv517 [.row p515 sv5.1.length k516 c514 35 12] [Sq p2 k3 l1, RowA c514 sv5.1] w) (([] : List Record), 0) h1414 ⟨[], none, 0, S0, wj s d [0] [1, 0]⟩ ?_
  clear h1414
  repeat clear u
  rintro sv5 a w tv771 ⟨c514, p515, k516, Sv517, s, d⟩ u hd770
  refine wp_seq (sz0 4 s rfl fun a s => ?_)
  refine cd s u rfl (fun u => ?_) fun u => ?_
  ·refine sk (wp_seq (wp_join (fun a w => ∃ (out1028 : (List Record)) (c1024 p1025 k1026 Sv1027 : _), ref15_order_j1 sv5 out1028 = some tv771 ∧ Sl 69 [(0, sl p2 k3 l1), (3, sl p1025 k1026 out1028), (4, iv sv5.2)] a ∧ Wd ⟨w0, S0, []⟩ Sv1027 [.row p1025 out1028.length k1026 c1024 35 12] [Sq p2 k3 l1, RowA c1024 out1028] w) ?_ ?_))
   ·refine wp_block (sn0 2 s rfl fun a s => ?_)
    obtain ⟨k1032, h1031, u⟩ := bt u
    refine sv s (y_assignI rfl h1031) rfl fun a s => ?_
    refine nl (wp_seq ?_)
    obtain ⟨e1162, h1412, u⟩ := bt u
    refine wp_join (fun a w => ∃ Sv1163, Sl 69 [(0, sl p2 k3 l1), (3, sl p515 k516 sv5.1), (4, iv sv5.2), (5, iv e1162)] a ∧ Wd ⟨w0, S0, []⟩ Sv1163 [.row p515 sv5.1.length k516 c514 35 12] [Sq p2 k3 l1, RowA c514 sv5.1] w) ?_ ?_
    ·refine wp_block (wp_while (fun sv1033 a w => ∃ Sv1117, Sl 69 [(0, sl p2 k3 l1), (3, sl p515 k516 sv5.1), (4, iv sv5.2), (5, iv sv1033)] a ∧ Wd ⟨w0, S0, []⟩ Sv1117 [.row p515 sv5.1.length k516 c514 35 12] [Sq p2 k3 l1, RowA c514 sv5.1] w) k1032 h1412 ⟨Sv517, wj s d [0] [0, 1]⟩ ?_)
     clear h1412
     repeat clear u
     rintro sv1033 a w tv1160 ⟨Sv1117, s, d⟩ u hd1159
     refine wp_seq (wp_seq ?_)
     obtain ⟨c1200, hc1200, u⟩ := bt u
     refine wp_only (fun a w => ∃ Sv1201, Sl 69 [(0, sl p2 k3 l1), (3, sl p515 k516 sv5.1), (4, iv sv5.2), (5, iv sv1033), (28, .bool c1200)] a ∧ Wd ⟨w0, S0, []⟩ Sv1201 [.row p515 sv5.1.length k516 c514 35 12] [Sq p2 k3 l1, RowA c514 sv5.1] w) ?_ ?_
     ·rcases Bool.eq_false_or_eq_true (decide (0 < sv1033)) with h1202 | h1202
      ·have h1203 := ite_t hc1200 h1202
       obtain ⟨x1206, h1204, h1203⟩ := bind_t h1203
       obtain ⟨b1213, q1210, c1211, h1214, h1207, h1208, h1212, h1205⟩ := d.elemRV (α := Record) 0 rfl 1 rfl h1204
       have hsv1215 := s
       have hwv1216 := d
       subst h1214
       have s := hsv1215
       have d := hwv1216
       obtain ⟨_, _, _, _, _, _, _, _, _, _, _, _, rfl, rfl, rfl, rfl, rfl, rfl, rfl, rfl, rfl, rfl, rfl, rfl, ⟨p1217, n1218, k1219, rfl, h1220⟩⟩ := h1205
       obtain rfl := h1220.1
       have d := d.addE (e := SlA p1217 _ k1219 x1206.Samples) h1220
       obtain ⟨x1223, h1221, h1203⟩ := bind_t h1203
       obtain ⟨b1229, o1230, q1227, c1228, h1231, h1224, h1225, h1226, h1222⟩ := d.elemV 1 rfl h1221
       have hsv1232 := s
       have hwv1233 := d
       subst h1231
       have s := hsv1232
       have d := hwv1233
       obtain ⟨_, _, _, _, _, _, _, _, _, _, _, _, rfl, rfl, rfl, rfl, rfl, rfl, rfl, rfl, rfl, rfl, rfl, rfl, ⟨p1234, n1235, k1236, rfl, h1237⟩⟩ := h1222
       obtain rfl := h1237.1
       have d := (d.addE (e := SlA p1234 _ k1236 x1223.Samples) h1237).addE h1226
       obtain ⟨rv1239, h1238, h1203⟩ := bind_t h1203
       refine h_c [0] [0] d rfl rfl (by kernel_rfl) rfl fun hC d => ?_
       refine gn 3 [0, 1, 2] [] s hC rfl rfl rfl fun a s => ?_
       have s := s.bT 16 rfl h1202
       refine gn 3 [3, 4, 5] [] s hC rfl rfl rfl fun a s => ?_
       refine gx s 6 rfl ⟨_, rfl, rfl⟩ rfl hC runUnderlying27 sizeOf35 rfl rfl h1207 h1208 fun a s => ?_
       refine gt s 7 rfl ⟨_, rfl, rfl⟩ rfl hC (fun w hC => y_loadQA (j := 0) (hC.ownAt 0 rfl) rfl isAgg35 sizeOf35 h1212 rfl rfl) fun a s => ?_
       refine gn 2 [8, 9] [] s hC rfl rfl rfl fun a s => ?_
       refine gx s 10 rfl ⟨_, rfl, rfl⟩ rfl hC runUnderlying27 sizeOf35 rfl rfl h1224 h1225 fun a s => ?_
       refine gt s 11 rfl ⟨_, rfl, rfl⟩ rfl hC (fun w hC => y_loadEA (j := 0) (hC.ceAt 0 rfl) rfl isAgg35 sizeOf35 rfl rfl) fun a s => ?_
       refine ho 12 rfl ?_
       refine st_callR s (ref14_Compare_ok h1238 d.bdom (d.bE 2 rfl) (d.bE 1 rfl)) (do_call call21 rfl) ⟨_, rfl, rfl⟩ rfl rfl ?_
       rintro v1243 Sv1240 w a h1241 rfl s
       have d := d.callB h1241
       refine h_n [0] [0] d rfl rfl fun hC => ?_
       refine gt s 13 rfl ⟨_, rfl, rfl⟩ rfl hC (fun w hC => y_gtr rfl rfl) fun a s => ?_
       refine gT s 14 rfl rfl hC rfl rfl h1203 fun a s => ?_
       refine h_done (by kernel_rfl) ?_
       exact ⟨Sv1117, wj s d [0] [3, 4]⟩
      have h1245 := ite_f hc1200 h1202
      refine h_c [0] [] d rfl rfl (by kernel_rfl) rfl fun hC d => ?_
      refine gn 3 [0, 1, 2] [] s hC rfl rfl rfl fun a s => ?_
      have s := s.bF 16 rfl h1202
      refine gn 11 [3, 4, 5, 6, 7, 8, 9, 10, 11, 12, 13] [] s hC rfl rfl rfl fun a s => ?_
      refine gF s 14 rfl rfl hC rfl rfl h1245 fun a s => ?_
      refine h_done (by kernel_rfl) ?_
      exact ⟨Sv1117, wj s d [0] [0, 1]⟩
     rintro a w ⟨Sv1201, s, d⟩
     refine tn (cd s u rfl (fun u => ?_) fun u => ?_)
     ·refine sk (wp_block (wp_region_lit (rn0 2 s rfl fun a s => ?_)))
      obtain ⟨k1251, h1250, u⟩ := bt u
      refine sv s (y_assignI rfl h1250) rfl fun a s => ?_
      refine wpList_nil ?_
      exact blk_normal (tn ⟨_, io u, Sv1201, wj s d [0] [0, 1]⟩)
     refine wp_exit (then_exit (then_exit (blk_exit ?_)))
     obtain rfl := oi u
     have h1252 := hd1159 _ rfl
     subst h1252
     exact tn ⟨Sv1201, wj s d [0] [0, 1]⟩
    rintro a w ⟨Sv1163, s, d⟩
    refine tn (wp_seq (wp_seq ?_))
    obtain ⟨c1289, hc1289, u⟩ := bt u
    refine wp_only (fun a w => ∃ Sv1290, Sl 69 [(0, sl p2 k3 l1), (3, sl p515 k516 sv5.1), (4, iv sv5.2), (5, iv e1162), (45, .bool c1289)] a ∧ Wd ⟨w0, S0, []⟩ Sv1290 [.row p515 sv5.1.length k516 c514 35 12] [Sq p2 k3 l1, RowA c514 sv5.1] w) ?_ ?_
    ·rcases Bool.eq_false_or_eq_true (decide (0 < e1162)) with h1291 | h1291
     ·have h1292 := ite_t hc1289 h1291
      obtain ⟨x1295, h1293, h1292⟩ := bind_t h1292
      obtain ⟨b1302, q1299, c1300, h1303, h1296, h1297, h1301, h1294⟩ := d.elemRV (α := Record) 0 rfl 1 rfl h1293
      have hsv1304 := s
      have hwv1305 := d
      subst h1303
      have s := hsv1304
      have d := hwv1305
      obtain ⟨_, _, _, _, _, _, _, _, _, _, _, _, rfl, rfl, rfl, rfl, rfl, rfl, rfl, rfl, rfl, rfl, rfl, rfl, ⟨p1306, n1307, k1308, rfl, h1309⟩⟩ := h1294
      obtain rfl := h1309.1
      have d := d.addE (e := SlA p1306 _ k1308 x1295.Samples) h1309
      obtain ⟨x1312, h1310, h1292⟩ := bind_t h1292
      obtain ⟨b1318, o1319, q1316, c1317, h1320, h1313, h1314, h1315, h1311⟩ := d.elemV 1 rfl h1310
      have hsv1321 := s
      have hwv1322 := d
      subst h1320
      have s := hsv1321
      have d := hwv1322
      obtain ⟨_, _, _, _, _, _, _, _, _, _, _, _, rfl, rfl, rfl, rfl, rfl, rfl, rfl, rfl, rfl, rfl, rfl, rfl, ⟨p1323, n1324, k1325, rfl, h1326⟩⟩ := h1311
      obtain rfl := h1326.1
      have d := (d.addE (e := SlA p1323 _ k1325 x1312.Samples) h1326).addE h1315
      obtain ⟨rv1328, h1327, h1292⟩ := bind_t h1292
      refine h_c [0] [0] d rfl rfl (by kernel_rfl) rfl fun hC d => ?_
      refine gn 3 [0, 1, 2] [] s hC rfl rfl rfl fun a s => ?_
      have s := s.bT 33 rfl h1291
      refine gn 3 [3, 4, 5] [] s hC rfl rfl rfl fun a s => ?_
      refine gx s 6 rfl ⟨_, rfl, rfl⟩ rfl hC runUnderlying27 sizeOf35 rfl rfl h1296 h1297 fun a s => ?_
      refine gt s 7 rfl ⟨_, rfl, rfl⟩ rfl hC (fun w hC => y_loadQA (j := 0) (hC.ownAt 0 rfl) rfl isAgg35 sizeOf35 h1301 rfl rfl) fun a s => ?_
      refine gn 2 [8, 9] [] s hC rfl rfl rfl fun a s => ?_
      refine gx s 10 rfl ⟨_, rfl, rfl⟩ rfl hC runUnderlying27 sizeOf35 rfl rfl h1313 h1314 fun a s => ?_
      refine gt s 11 rfl ⟨_, rfl, rfl⟩ rfl hC (fun w hC => y_loadEA (j := 0) (hC.ceAt 0 rfl) rfl isAgg35 sizeOf35 rfl rfl) fun a s => ?_
      refine ho 12 rfl ?_
      refine st_callR s (ref14_Compare_ok h1327 d.bdom (d.bE 2 rfl) (d.bE 1 rfl)) (do_call call21 rfl) ⟨_, rfl, rfl⟩ rfl rfl ?_
      rintro v1332 Sv1329 w a h1330 rfl s
      have d := d.callB h1330
      refine h_n [0] [0] d rfl rfl fun hC => ?_
      refine gt s 13 rfl ⟨_, rfl, rfl⟩ rfl hC (fun w hC => y_eql rfl rfl) fun a s => ?_
      refine gT s 14 rfl rfl hC rfl rfl h1292 fun a s => ?_
      refine h_done (by kernel_rfl) ?_
      exact ⟨Sv1163, wj s d [0] [3, 4]⟩
     have h1334 := ite_f hc1289 h1291
     refine h_c [0] [] d rfl rfl (by kernel_rfl) rfl fun hC d => ?_
     refine gn 3 [0, 1, 2] [] s hC rfl rfl rfl fun a s => ?_
     have s := s.bF 33 rfl h1291
     refine gn 11 [3, 4, 5, 6, 7, 8, 9, 10, 11, 12, 13] [] s hC rfl rfl rfl fun a s => ?_
     refine gF s 14 rfl rfl hC rfl rfl h1334 fun a s => ?_
     refine h_done (by kernel_rfl) ?_
     exact ⟨Sv1163, wj s d [0] [0, 1]⟩
    rintro a w ⟨Sv1290, s, d⟩
    refine tn (cd s u rfl (fun u => ?_) fun u => ?_)
    ·exact wp_exit (then_exit (blk_exit (tn ⟨sv5.1, c514, p515, k516, Sv1290, u, wj s d [0] [0, 1]⟩)))
    refine sk (sn0 3 s rfl fun a s => ?_)
    obtain ⟨x1339, h1337, u⟩ := bt u
    obtain ⟨b1345, o1346, q1343, c1344, h1347, h1340, h1341, h1342, h1338⟩ := d.elemV 0 rfl h1337
    have hsv1348 := s
    have hwv1349 := d
    subst h1347
    have s := hsv1348
    have d := hwv1349
    obtain ⟨_, _, _, _, _, _, _, _, _, _, _, _, rfl, rfl, rfl, rfl, rfl, rfl, rfl, rfl, rfl, rfl, rfl, rfl, ⟨p1350, n1351, k1352, rfl, h1353⟩⟩ := h1338
    obtain rfl := h1353.1
    have d := (d.addE (e := SlA p1350 _ k1352 x1339.Samples) h1353).addE h1342
    refine sv s (y_indexAt runUnderlying27 sizeOf35 rfl rfl h1340.1 h1340.2 h1341) rfl fun a s => ?_
    refine sv s (y_loadEA (j := 0) (d.ceAt 0 rfl) rfl isAgg35 sizeOf35 rfl rfl) rfl fun a s => ?_
    refine w_litSlice (α := Record) (vs := [V35 x1339 p1350 k1352]) (cs := (C35 x1339 p1350 k1352)) (xs := ([x1339] : List Record)) s d El27 rfl rfl rfl rfl rfl rfl ⟨⟨_, _, _, _, _, _, _, _, _, _, _, _, rfl, rfl, rfl, rfl, rfl, rfl, rfl, rfl, rfl, rfl, rfl, rfl, ⟨_, _, _, rfl, d.envAt 1 rfl⟩⟩, rfl⟩ rfl trivial rfl fun b1355 a w s d => ?_
    obtain ⟨l1357, h1356, u⟩ := bt u
    refine w_appendR (α := Record) s d El27 1 rfl rfl rfl 4 rfl 0 rfl 0 rfl h1356 rfl trivial ?_
    intro p1358 k1359 c1360 a w s d
    refine rz0 1 s rfl fun a s => ?_
    refine wp_seq ?_
    obtain ⟨l1365, h1361, u⟩ := bt u
    obtain ⟨p1363, k1364, h1362⟩ := row_sub (α := Record) d 1 rfl h1361
    obtain ⟨l1370, h1366, u⟩ := bt u
    obtain ⟨p1368, k1369, h1367⟩ := row_sub (α := Record) d 1 rfl h1366
    obtain ⟨l1371, h1372, u⟩ := bt u
    refine wp_only (fun a w => ∃ Sv1375 c1373, Sl 69 [(0, sl (some ⟨b1345, o1346, none⟩) k3 l1), (3, sl p1358 k1359 l1371), (4, iv sv5.2), (5, iv e1162)] a ∧ Wd ⟨w0, S0, []⟩ Sv1375 [.row p1358 l1371.length k1359 c1373 35 12] [Sq (some ⟨b1345, o1346, none⟩) k3 l1, RowA c1373 l1371] w) ?_ ?_
    ·refine h_c [0] [2] d rfl rfl (by kernel_rfl) rfl fun hC d => ?_
     refine gn 3 [0, 1, 2] [] s hC rfl rfl rfl fun a s => ?_
     refine gv s 3 rfl rfl hC (fun w hC => y_slc runUnderlying27 sizeOf35 rfl ⟨_, rfl⟩ (by exact rfl) h1362) fun a s => ?_
     refine gn 2 [4, 5] [] s hC rfl rfl rfl fun a s => ?_
     refine gv s 6 rfl rfl hC (fun w hC => y_slc runUnderlying27 sizeOf35 rfl ⟨_, rfl⟩ (by exact rfl) h1367) fun a s => ?_
     refine ho 7 rfl ?_
     obtain ⟨ds_, h1378⟩ := src_vw (d.ownAt 1 rfl) (d.envAt 0 rfl) h1366 h1367
     refine w_copyC (α := Record) s d 1 rfl 0 rfl runUnderlying27 runUnderlying27 sizeOf35 (by decide) h1361 h1362 rfl rfl rfl h1378.1 h1378.2.1 h1378.2.2 rfl trivial ?_
     intro c1373 a w s d
     rw [Option.some.inj h1372] at d
     have h1374 := (copy_lenS h1361 h1372)
     try have s := s.fl 3 rfl h1374
     try have s := s.fl 53 rfl h1374
     try have s := s.fl 57 rfl h1374
     refine h_n [0] [3] d rfl rfl fun hC => ?_
     refine h_done (by kernel_rfl) ?_
     exact ⟨Sv1290, c1373, wj s d [1] [5, 0]⟩
    rintro a w ⟨Sv1375, c1373, s, d⟩
    refine tn (wp_region_lit (rn0 4 s rfl fun a s => ?_))
    obtain ⟨x1381, h1379, u⟩ := bt u
    obtain ⟨q1385, c1386, h1382, h1383, h1384, h1380⟩ := d.elemK 0 rfl h1379
    obtain ⟨_, _, _, _, _, _, _, _, _, _, _, _, rfl, rfl, rfl, rfl, rfl, rfl, rfl, rfl, rfl, rfl, rfl, rfl, ⟨p1387, n1388, k1389, rfl, h1390⟩⟩ := h1380
    obtain rfl := h1390.1
    have d := (d.addE (e := SlA p1387 _ k1389 x1381.Samples) h1390).addE h1384
    refine sv s (y_indexAt runUnderlying27 sizeOf35 rfl rfl h1382.1 h1382.2 h1383) rfl fun a s => ?_
    refine sv s (y_loadEA (j := 0) (d.ceAt 0 rfl) rfl isAgg35 sizeOf35 rfl rfl) rfl fun a s => ?_
    obtain ⟨x1393, h1391, u⟩ := bt u
    obtain ⟨b1400, q1397, c1398, h1401, h1394, h1395, h1399, h1392⟩ := d.elemRV (α := Record) 0 rfl 3 rfl h1391
    have hsv1402 := s
    have hwv1403 := d
    subst h1401
    have s := hsv1402
    have d := hwv1403
    obtain ⟨_, _, _, _, _, _, _, _, _, _, _, _, rfl, rfl, rfl, rfl, rfl, rfl, rfl, rfl, rfl, rfl, rfl, rfl, ⟨p1404, n1405, k1406, rfl, h1407⟩⟩ := h1392
    obtain rfl := h1407.1
    have d := d.addE (e := SlA p1404 _ k1406 x1393.Samples) h1407
    refine sv s (y_indexAt runUnderlying27 sizeOf35 rfl rfl h1394.1 h1394.2 h1395) rfl fun a s => ?_
    obtain ⟨l1409, h1408, u⟩ := bt u
    refine w_storeF (α := Record) s d 0 rfl 4 rfl h1395 rfl rfl sizeOf35 rfl h1408 ⟨_, _, _, _, _, _, _, _, _, _, _, _, rfl, rfl, rfl, rfl, rfl, rfl, rfl, rfl, rfl, rfl, rfl, rfl, ⟨_, _, _, rfl, d.envAt 2 rfl⟩⟩ trivial ?_
    intro c1410 a w s d
    have h1411 := setM_len h1408
    try have s := s.fl 3 rfl h1411
    try have s := s.fl 61 rfl h1411
    refine wpList_nil ?_
    exact blk_normal (tn ⟨l1409, c1410, (ad b1400), k1359, Sv1375, u, wj s d [0] [4, 0]⟩)
   rintro a w ⟨out1028, c1024, p1025, k1026, Sv1027, u, s, d⟩
   refine tn (wp_region_lit (rn0 2 s rfl fun a s => ?_))
   obtain ⟨i1030, h1029, u⟩ := bt u
   refine sv s (y_assignI rfl h1029) rfl fun a s => ?_
   exact nl ⟨_, io u, c1024, p1025, k1026, Sv1027, wj s d [0] [0, 1]⟩
  refine wp_exit (then_exit (then_exit (blk_exit ?_)))
  obtain rfl := oi u
  have h1413 := hd770 _ rfl
  subst h1413
  exact tn ⟨c514, p515, k516, Sv517, wj s d [0] [1]⟩
 rintro a w ⟨c774, p775, k776, Sv777, s, d⟩
 refine tn (sz0 2 s rfl fun a s => ?_)
 obtain rfl := oi u
 exact q1 s rfl (d.ret ⟨p775, k776, c774, rfl, (d.outs [0] (by decide) rfl), (d.envAt 0 rfl)⟩)
theorem ref15_Order_ok {w0 S0 p2 k3 l1 r} (u : ref15_Order l1 = some r) (hS : Dm S0 w0) (h4 : (Sq p2 k3 l1).p S0 w0) : Ck Tryz.prog 38 #[sl p2 k3 l1] w0 S0 [] compose_Compose_rd r := by
 refine en 9 func38 rfl hS rfl rfl rfl fun a s d => ?_
 have d := d.addE h4
 refine sz0 2 s rfl fun a s => ?_
 refine wp_seq (sn0 1 s rfl fun a s => ?_)
 obtain ⟨rv6, h5, u⟩ := bt u
 refine cV s d (ref15_Valid_ok h5 d.bdom (d.bE 0 rfl)) (do_call call42 rfl) rfl fun a w s d => ?_
 refine rz0 1 s rfl fun a s => ?_
 refine cd s u rfl (fun u => ?_) fun u => ?_
 ·refine sz0 2 s rfl fun a s => ?_
  obtain rfl := oi u
  have d := d.nilRow Record 35
  exact wp_ret (then_ret (ret2 s rfl (rv_tmp rfl) (rv_tmp rfl) (d.ret ⟨none, 0, [], rfl, (d.outs [0] (by decide) rfl), (d.envAt 0 rfl)⟩)))
 refine sk (sn0 1 s rfl fun a s => ?_)
 obtain ⟨rv15, h14, u⟩ := bt u
 refine cR s (ref15_order_ok h14 d.dom (d.envAt 0 rfl)) (do_call call66 rfl) rfl ?_
 rintro v23 Sv20 w a h21 ⟨p16, k17, c19, rfl, h24, h18⟩ s
 have d := (d.callN h21 h24).addE (e := RowA c19 rv15) h18
 refine rz0 2 s rfl fun a s => ?_
 obtain rfl := oi u
 exact wp_ret (ret2 s rfl (rv_tmp rfl) (rv_tmp rfl) (d.ret ⟨p16, k17, c19, rfl, (d.outs [0] (by decide) rfl), (d.envAt 0 rfl)⟩))
theorem ref14_Better_ok {w0 S0 p2 k3 p6 k7 a1 b5 r} (u : ref14_Better a1 b5 = some r) (hS : Dm S0 w0) (h4 : (Sq p2 k3 a1.Samples).p S0 w0) (h8 : (Sq p6 k7 b5.Samples).p S0 w0) : Ck Tryz.prog 29 #[V35 a1 p2 k3, V35 b5 p6 k7] w0 S0 [] made_Light_rd r := by
 refine en 35 func29 rfl hS rfl rfl rfl fun a s d => ?_
 have d := (d.addE h4).addE h8
 refine sr (wb (C35 a1 p2 k3) s d rfl fun b9 a w s d => ?_)
 refine wb (C35 b5 p6 k7) s d rfl fun b10 a w s d => ?_
 refine rz0 1 s rfl fun a s => ?_
 refine wp_seq (wp_seq ?_)
 obtain ⟨rv12, h11, u⟩ := bt u
 obtain ⟨rv14, h13, u⟩ := bt u
 obtain ⟨rv16, h15, u⟩ := bt u
 refine wp_only (fun a w => ∃ Sv17, Sl 35 [(2, pt b9), (3, pt b10), (22, .agg #[iv rv12, iv rv14, iv rv16]), (23, iv 0)] a ∧ Wd ⟨w0, S0, []⟩ Sv17 [.box b9 (C35 a1 p2 k3) 35, .box b10 (C35 b5 p6 k7) 35] [Sq p2 k3 a1.Samples, Sq p6 k7 b5.Samples] w) ?_ ?_
 ·refine h_c [0, 1] [] d rfl rfl (by kernel_rfl) rfl fun hC d => ?_
  refine gn 13 [0, 1, 2, 3, 5, 6, 7, 8, 10, 11, 12, 13, 16] [1, 0, 0, 1, 0, 1] s hC rfl rfl rfl fun a s => ?_
  refine ho 4 rfl ?_
  refine cV s d (ref14_number_ok h11 d.bdom) (do_call call54 rfl) rfl fun a w s d => ?_
  refine h_n [0, 1] [] d rfl rfl fun hC => ?_
  refine ho 9 rfl ?_
  refine cV s d (ref14_number_ok h13 d.bdom) (do_call call54 rfl) rfl fun a w s d => ?_
  refine h_n [0, 1] [] d rfl rfl fun hC => ?_
  refine ho 14 rfl ?_
  refine cV s d (ref14_number_ok h15 d.bdom) (do_call call54 rfl) rfl fun a w s d => ?_
  refine h_n [0, 1] [] d rfl rfl fun hC => ?_
  refine gv s 15 rfl rfl hC (fun w hC => y_build (vs := [(0, iv rv12), (1, iv rv14), (2, iv rv16)]) Bld89 rfl rfl) fun a s => ?_
  refine h_done (by kernel_rfl) ?_
  exact ⟨S0, wj s d [1, 0] [1, 0]⟩
 rintro a w ⟨Sv17, s, d⟩
 refine tn (wp_block (wp_while (fun sv50 a w => ∃ Sv60, Sl 35 [(2, pt b9), (3, pt b10), (22, .agg #[iv rv12, iv rv14, iv rv16]), (23, iv sv50)] a ∧ Wd ⟨w0, S0, []⟩ Sv60 [.box b9 (C35 a1 p2 k3) 35, .box b10 (C35 b5 p6 k7) 35] [Sq p2 k3 a1.Samples, Sq p6 k7 b5.Samples] w) 0 u ⟨Sv17, wj s d [0, 1] [0, 1]⟩ ?_))
 repeat clear u
 rintro sv50 a w tv66 ⟨Sv60, s, d⟩ u hd65
 refine sz0 1 s rfl fun a s => ?_
 refine wp_seq (cd s u rfl (fun u => ?_) fun u => ?_)
 ·refine sk (wp_seq (wp_block (sr ?_)))
  obtain ⟨x75, h74, u⟩ := bt u
  refine sv s (y_idxA (α := Int) (xs := [rv12, rv14, rv16]) (cs := [iv rv12, iv rv14, iv rv16]) (es := [iv x75]) (v := iv x75) runUnderlying89 sizeOf3 (.inl ⟨isAgg3, rfl⟩) rfl rfl rfl (fun _ _ => ⟨⟨_, rfl, rfl⟩, ⟨⟨_, rfl, rfl⟩, ⟨⟨_, rfl, rfl⟩, rfl⟩⟩⟩) h74 (fun _ _ _ he => by obtain ⟨_, rfl, rfl⟩ := he; rfl)) rfl fun a s => ?_
  refine rz0 1 s rfl fun a s => ?_
  refine sz0 2 s rfl fun a s => ?_
  refine cd s u rfl (fun u => ?_) fun u => ?_
  ·refine sz0 3 s rfl fun a s => ?_
   obtain rfl := oi u
   have h78 := hd65 _ rfl
   subst h78
   exact wp_ret (blk_ret (then_ret (then_ret (blk_ret (then_ret (rt s rfl (d.ret rfl)))))))
  refine wp_skip (blk_normal (tn (wp_region_lit (rz0 2 s rfl fun a s => ?_))))
  exact ⟨_, io u, Sv60, wj s d [0, 1] [0, 1]⟩
 obtain ⟨rv86, u, h87⟩ := map_t u
 have h87 := (hd65 _ h87.symm).symm
 subst h87
 refine wp_exit (then_exit (then_exit (blk_exit (tn (sn 2 [0, 1] s d rfl rfl fun a s => ?_)))))
 obtain ⟨rv80, h79, u⟩ := bt u
 refine cV s d (ref14_Compare_ok h79 d.bdom (d.bE 0 rfl) (d.bE 1 rfl)) (do_call call21 rfl) rfl fun a w s d => ?_
 refine rz0 2 s rfl fun a s => ?_
 obtain rfl := oi u
 exact q1 s rfl (d.ret rfl)
abbrev ref14_Span_rd (w0 : World) (X : List Nat) (r : (Span × Int)) : Rd := fun S w v => v = .tuple #[V45 r.1, iv r.2]
theorem ref14_Span_ok {w0 S0 p2 k3 r1 r} (u : ref14_Span r1 = some r) (hS : Dm S0 w0) (h4 : (Sq p2 k3 r1.Samples).p S0 w0) : Ck Tryz.prog 22 #[V35 r1 p2 k3] w0 S0 [] ref14_Span_rd r := by
 refine en 16 func22 rfl hS rfl rfl rfl fun a s d => ?_
 have d := d.addE h4
 refine sr (wb (C35 r1 p2 k3) s d rfl fun b5 a w s d => ?_)
 refine wa [iv 0, iv 0] s d zeroValue45 fun b6 a w s d => ?_
 refine rz0 1 s rfl fun a s => ?_
 refine wp_seq (sn 1 [1] s d rfl rfl fun a s => ?_)
 obtain ⟨rv8, h7, u⟩ := bt u
 refine cV s d (ref14_Valid_ok h7 d.bdom (d.bE 0 rfl)) (do_call call51 rfl) rfl fun a w s d => ?_
 refine rz0 1 s rfl fun a s => ?_
 refine cd s u rfl (fun u => ?_) fun u => ?_
 ·refine sr (sv s (y_build (vs := []) Bld45 rfl rfl) rfl fun a s => ?_)
  refine ws [iv 0, iv 0] s d 0 rfl rfl rfl sizeOf45 fun a w s d => ?_
  refine rz0 1 s rfl fun a s => ?_
  obtain rfl := oi u
  exact wp_ret (then_ret (ret2 s rfl (rv_cell d 0 rfl rfl isAgg45 sizeOf45 rfl) (rv_tmp rfl) (d.ret rfl)))
 refine sk (wp_seq ?_)
 obtain ⟨rv17, h16, u⟩ := bt u
 obtain ⟨rv19, h18, u⟩ := bt u
 refine wp_only (fun a w => ∃ Sv20, Sl 16 [(2, pt b6), (3, iv 0)] a ∧ Wd ⟨w0, S0, []⟩ Sv20 [.box b6 [iv rv17, iv rv19] 45] [] w) ?_ ?_
 ·refine h_c [1] [] d rfl rfl (by kernel_rfl) rfl fun hC d => ?_
  refine gn 5 [0, 2, 3, 4, 5] [0, 0, 0] s hC rfl rfl rfl fun a s => ?_
  refine ho 1 rfl ?_
  refine cV s d (ref14_Time_ok h16 d.bdom (d.bE 0 rfl)) (do_call call52 rfl) rfl fun a w s d => ?_
  refine h_n [1] [] d rfl rfl fun hC => ?_
  refine ho 6 rfl ?_
  refine cV s d (ref14_Time_ok h18 d.bdom (d.bE 0 rfl)) (do_call call52 rfl) rfl fun a w s d => ?_
  refine h_n [1] [] d rfl rfl fun hC => ?_
  refine gv s 7 rfl rfl hC (fun w hC => y_build (vs := [(0, iv rv17), (1, iv rv19)]) Bld45 rfl rfl) fun a s => ?_
  refine ho 8 rfl ?_
  refine ws [iv rv17, iv rv19] s d 0 rfl rfl rfl sizeOf45 fun a w s d => ?_
  refine h_n [1] [] d rfl rfl fun hC => ?_
  refine gv s 9 rfl rfl hC (fun w hC => y_assign rfl) fun a s => ?_
  refine h_done (by kernel_rfl) ?_
  exact ⟨S0, wj s d [0] []⟩
 rintro a w ⟨Sv20, s, d⟩
 refine tn ?_
 obtain rfl := oi u
 exact wp_ret (ret2 s rfl (rv_cell d 0 rfl rfl isAgg45 sizeOf45 rfl) (rv_tmp rfl) (d.ret rfl))
theorem ref08_Normal_ok {w0 S0 p2 k3 l1 r} (u : ref08_Normal l1 = some r) (hS : Dm S0 w0) (h4 : (Sq p2 k3 l1).p S0 w0) : Ck Tryz.prog 58 #[sl p2 k3 l1] w0 S0 [] slices_Clone_Lapi_Span_api_Span_rd r := by
 refine en 117 func58 rfl hS rfl rfl rfl fun a s d => ?_
 have d := d.addE h4
 refine sz0 1 s rfl fun a s => ?_
 refine sz0 1 s rfl fun a s => ?_
 refine wp_seq (sz0 1 s rfl fun a s => ?_)
 obtain ⟨e539, h1541, u⟩ := bt u
 refine wp_join (fun a w => ∃ c540 p541 k542 Sv543, Sl 117 [(3, sl p541 k542 e539)] a ∧ Wd ⟨w0, S0, []⟩ Sv543 [.row p541 e539.length k542 c540 45 2] [RowA c540 e539] w) ?_ ?_
 ·refine wp_block ?_
  have d := d.nilRow Span 45
  refine wp_while (fun sv5 a w => ∃ c358 p359 k360 Sv361, Sl 117 [(0, sl p2 k3 l1), (3, sl p359 k360 sv5.1), (4, iv sv5.2)] a ∧ Wd ⟨w0, S0, []⟩ Sv361 [.row p359 sv5.1.length k360 c358 45 2] [Sq p2 k3 l1, RowA c358 sv5.1] w) (([] : List Span), 0) h1541 ⟨[], none, 0, S0, wj s d [0] [1, 0]⟩ ?_
  clear h1541
  repeat clear u
  rintro sv5 a w tv537 ⟨c358, p359, k360, Sv361, s, d⟩ u hd536
  refine wp_seq (sz0 4 s rfl fun a s => ?_)
  refine cd s u rfl (fun u => ?_) fun u => ?_
  ·refine sk (wp_seq (wp_join (fun a w => ∃ (sorted716 : (List Span)) (c712 p713 k714 Sv715 : _), ref08_Normal_j1 sv5 sorted716 = some tv537 ∧ Sl 117 [(0, sl p2 k3 l1), (3, sl p713 k714 sorted716), (4, iv sv5.2)] a ∧ Wd ⟨w0, S0, []⟩ Sv715 [.row p713 sorted716.length k714 c712 45 2] [Sq p2 k3 l1, RowA c712 sorted716] w) ?_ ?_))
   ·refine wp_block (wp_seq (wp_seq ?_))
    obtain ⟨x721, h719, u⟩ := bt u
    obtain ⟨b727, o728, q725, c726, h729, h722, h723, h724, h720⟩ := d.elemV 0 rfl h719
    have hsv730 := s
    have hwv731 := d
    subst h729
    have s := hsv730
    have d := hwv731
    obtain ⟨_, _, rfl, rfl, rfl⟩ := h720
    have d := d.addE h724
    obtain ⟨x734, h732, u⟩ := bt u
    obtain ⟨q738, c739, h735, h736, h737, h733⟩ := d.elemK 1 rfl h732
    obtain ⟨_, _, rfl, rfl, rfl⟩ := h733
    have d := d.addE h737
    refine wp_only (fun a w => ∃ Sv740, Sl 117 [(0, sl (some ⟨b727, o728, none⟩) k3 l1), (3, sl p359 k360 sv5.1), (4, iv sv5.2), (25, .bool (decide (x734.To ≤ x721.From)))] a ∧ Wd ⟨w0, S0, []⟩ Sv740 [.row p359 sv5.1.length k360 c358 45 2] [Sq (some ⟨b727, o728, none⟩) k3 l1, RowA c358 sv5.1] w) ?_ ?_
    ·refine h_c [0] [0, 1] d rfl rfl (by kernel_rfl) rfl fun hC d => ?_
     refine gn 2 [0, 1] [] s hC rfl rfl rfl fun a s => ?_
     refine gx s 2 rfl trivial rfl hC runUnderlying52 sizeOf45 rfl rfl h722 h723 fun a s => ?_
     refine gv s 3 rfl rfl hC (fun w hC => y_fieldAddr (o' := q725 + 0) runUnderlying45 rfl sizeOf3 rfl rfl rfl) fun a s => ?_
     refine gv s 4 rfl rfl hC (fun w hC => y_loadE1 (j := 0) (hC.ceAt 1 rfl) rfl isAgg3 rfl) fun a s => ?_
     refine gn 2 [5, 6] [] s hC rfl rfl rfl fun a s => ?_
     refine gx s 7 rfl trivial rfl hC runUnderlying52 sizeOf45 rfl rfl h735 h736 fun a s => ?_
     refine gv s 8 rfl rfl hC (fun w hC => y_fieldAddr (o' := q738 + 1) runUnderlying45 rfl sizeOf3 rfl rfl rfl) fun a s => ?_
     refine gv s 9 rfl rfl hC (fun w hC => y_loadE1 (j := 1) (hC.ceAt 0 rfl) rfl isAgg3 rfl) fun a s => ?_
     refine gv s 10 rfl rfl hC (fun w hC => y_geq rfl rfl) fun a s => ?_
     refine h_done (by kernel_rfl) ?_
     exact ⟨Sv361, wj s d [0] [2, 3]⟩
    rintro a w ⟨Sv740, s, d⟩
    refine tn (cd s u rfl (fun u => ?_) fun u => ?_)
    ·exact wp_exit (then_exit (blk_exit (tn ⟨sv5.1, c358, p359, k360, Sv740, u, wj s d [0] [0, 1]⟩)))
    refine sk (sn0 2 s rfl fun a s => ?_)
    obtain ⟨k744, h743, u⟩ := bt u
    refine sv s (y_assignI rfl h743) rfl fun a s => ?_
    refine nl (wp_seq ?_)
    obtain ⟨e829, h943, u⟩ := bt u
    refine wp_join (fun a w => ∃ Sv830, Sl 117 [(0, sl (some ⟨b727, o728, none⟩) k3 l1), (3, sl p359 k360 sv5.1), (4, iv sv5.2), (5, iv e829)] a ∧ Wd ⟨w0, S0, []⟩ Sv830 [.row p359 sv5.1.length k360 c358 45 2] [Sq (some ⟨b727, o728, none⟩) k3 l1, RowA c358 sv5.1] w) ?_ ?_
    ·refine wp_block (wp_while (fun sv745 a w => ∃ Sv799, Sl 117 [(0, sl (some ⟨b727, o728, none⟩) k3 l1), (3, sl p359 k360 sv5.1), (4, iv sv5.2), (5, iv sv745)] a ∧ Wd ⟨w0, S0, []⟩ Sv799 [.row p359 sv5.1.length k360 c358 45 2] [Sq (some ⟨b727, o728, none⟩) k3 l1, RowA c358 sv5.1] w) k744 h943 ⟨Sv740, wj s d [0] [0, 1]⟩ ?_)
     clear h943
     repeat clear u
     rintro sv745 a w tv827 ⟨Sv799, s, d⟩ u hd826
     refine wp_seq (wp_seq ?_)
     obtain ⟨c852, hc852, u⟩ := bt u
     refine wp_only (fun a w => ∃ Sv853, Sl 117 [(0, sl (some ⟨b727, o728, none⟩) k3 l1), (3, sl p359 k360 sv5.1), (4, iv sv5.2), (5, iv sv745), (43, .bool c852)] a ∧ Wd ⟨w0, S0, []⟩ Sv853 [.row p359 sv5.1.length k360 c358 45 2] [Sq (some ⟨b727, o728, none⟩) k3 l1, RowA c358 sv5.1] w) ?_ ?_
     ·rcases Bool.eq_false_or_eq_true (decide (0 < sv745)) with h854 | h854
      ·have h855 := ite_t hc852 h854
       obtain ⟨x858, h856, h855⟩ := bind_t h855
       obtain ⟨b865, q862, c863, h866, h859, h860, h864, h857⟩ := d.elemRV (α := Span) 0 rfl 1 rfl h856
       have hsv867 := s
       have hwv868 := d
       subst h866
       have s := hsv867
       have d := hwv868
       obtain ⟨_, _, rfl, rfl, rfl⟩ := h857
       obtain ⟨x871, h869, h855⟩ := bind_t h855
       obtain ⟨q875, c876, h872, h873, h874, h870⟩ := d.elemK 0 rfl h869
       obtain ⟨_, _, rfl, rfl, rfl⟩ := h870
       have d := d.addE h874
       refine h_c [0] [0] d rfl rfl (by kernel_rfl) rfl fun hC d => ?_
       refine gn 3 [0, 1, 2] [] s hC rfl rfl rfl fun a s => ?_
       have s := s.bT 30 rfl h854
       refine gn 3 [3, 4, 5] [] s hC rfl rfl rfl fun a s => ?_
       refine gx s 6 rfl ⟨_, rfl, rfl⟩ rfl hC runUnderlying52 sizeOf45 rfl rfl h859 h860 fun a s => ?_
       refine gt s 7 rfl ⟨_, rfl, rfl⟩ rfl hC (fun w hC => y_fieldAddr (o' := q862 + 0) runUnderlying45 rfl sizeOf3 rfl rfl rfl) fun a s => ?_
       refine gt s 8 rfl ⟨_, rfl, rfl⟩ rfl hC (fun w hC => y_loadQ1 (j := 0) (hC.ownAt 0 rfl) rfl isAgg3 h864 rfl) fun a s => ?_
       refine gn 2 [9, 10] [] s hC rfl rfl rfl fun a s => ?_
       refine gx s 11 rfl ⟨_, rfl, rfl⟩ rfl hC runUnderlying52 sizeOf45 rfl rfl h872 h873 fun a s => ?_
       refine gt s 12 rfl ⟨_, rfl, rfl⟩ rfl hC (fun w hC => y_fieldAddr (o' := q875 + 0) runUnderlying45 rfl sizeOf3 rfl rfl rfl) fun a s => ?_
       refine gt s 13 rfl ⟨_, rfl, rfl⟩ rfl hC (fun w hC => y_loadE1 (j := 0) (hC.ceAt 0 rfl) rfl isAgg3 rfl) fun a s => ?_
       refine gt s 14 rfl ⟨_, rfl, rfl⟩ rfl hC (fun w hC => y_gtr rfl rfl) fun a s => ?_
       refine gT s 15 rfl rfl hC rfl rfl h855 fun a s => ?_
       refine h_done (by kernel_rfl) ?_
       exact ⟨Sv799, wj s d [0] [1, 2]⟩
      have h877 := ite_f hc852 h854
      refine h_c [0] [] d rfl rfl (by kernel_rfl) rfl fun hC d => ?_
      refine gn 3 [0, 1, 2] [] s hC rfl rfl rfl fun a s => ?_
      have s := s.bF 30 rfl h854
      refine gn 12 [3, 4, 5, 6, 7, 8, 9, 10, 11, 12, 13, 14] [] s hC rfl rfl rfl fun a s => ?_
      refine gF s 15 rfl rfl hC rfl rfl h877 fun a s => ?_
      refine h_done (by kernel_rfl) ?_
      exact ⟨Sv799, wj s d [0] [0, 1]⟩
     rintro a w ⟨Sv853, s, d⟩
     refine tn (cd s u rfl (fun u => ?_) fun u => ?_)
     ·refine sk (wp_block (wp_region_lit (rn0 2 s rfl fun a s => ?_)))
      obtain ⟨k883, h882, u⟩ := bt u
      refine sv s (y_assignI rfl h882) rfl fun a s => ?_
      refine wpList_nil ?_
      exact blk_normal (tn ⟨_, io u, Sv853, wj s d [0] [0, 1]⟩)
     refine wp_exit (then_exit (then_exit (blk_exit ?_)))
     obtain rfl := oi u
     have h884 := hd826 _ rfl
     subst h884
     exact tn ⟨Sv853, wj s d [0] [0, 1]⟩
    rintro a w ⟨Sv830, s, d⟩
    refine tn (sn0 3 s rfl fun a s => ?_)
    obtain ⟨x887, h885, u⟩ := bt u
    obtain ⟨q891, c892, h888, h889, h890, h886⟩ := d.elemK 0 rfl h885
    obtain ⟨_, _, rfl, rfl, rfl⟩ := h886
    have d := d.addE h890
    refine sv s (y_indexAt runUnderlying52 sizeOf45 rfl rfl h888.1 h888.2 h889) rfl fun a s => ?_
    refine sv s (y_loadEA (j := 0) (d.ceAt 0 rfl) rfl isAgg45 sizeOf45 rfl rfl) rfl fun a s => ?_
    refine w_litSlice (α := Span) (vs := [V45 x887]) (cs := (C45 x887)) (xs := ([x887] : List Span)) s d El52 rfl rfl rfl rfl rfl rfl ⟨⟨_, _, rfl, rfl, rfl⟩, rfl⟩ rfl trivial rfl fun b894 a w s d => ?_
    obtain ⟨l896, h895, u⟩ := bt u
    refine w_appendR (α := Span) s d El52 1 rfl rfl rfl 3 rfl 0 rfl 0 rfl h895 rfl trivial ?_
    intro p897 k898 c899 a w s d
    refine rz0 1 s rfl fun a s => ?_
    refine wp_seq ?_
    obtain ⟨l904, h900, u⟩ := bt u
    obtain ⟨p902, k903, h901⟩ := row_sub (α := Span) d 1 rfl h900
    obtain ⟨l909, h905, u⟩ := bt u
    obtain ⟨p907, k908, h906⟩ := row_sub (α := Span) d 1 rfl h905
    obtain ⟨l910, h911, u⟩ := bt u
    refine wp_only (fun a w => ∃ Sv914 c912, Sl 117 [(0, sl (some ⟨b727, o728, none⟩) k3 l1), (3, sl p897 k898 l910), (4, iv sv5.2), (5, iv e829)] a ∧ Wd ⟨w0, S0, []⟩ Sv914 [.row p897 l910.length k898 c912 45 2] [Sq (some ⟨b727, o728, none⟩) k3 l1, RowA c912 l910] w) ?_ ?_
    ·refine h_c [0] [2] d rfl rfl (by kernel_rfl) rfl fun hC d => ?_
     refine gn 3 [0, 1, 2] [] s hC rfl rfl rfl fun a s => ?_
     refine gv s 3 rfl rfl hC (fun w hC => y_slc runUnderlying52 sizeOf45 rfl ⟨_, rfl⟩ (by exact rfl) h901) fun a s => ?_
     refine gn 2 [4, 5] [] s hC rfl rfl rfl fun a s => ?_
     refine gv s 6 rfl rfl hC (fun w hC => y_slc runUnderlying52 sizeOf45 rfl ⟨_, rfl⟩ (by exact rfl) h906) fun a s => ?_
     refine ho 7 rfl ?_
     obtain ⟨ds_, h917⟩ := src_vw (d.ownAt 1 rfl) (d.envAt 0 rfl) h905 h906
     refine w_copyC (α := Span) s d 1 rfl 0 rfl runUnderlying52 runUnderlying52 sizeOf45 (by decide) h900 h901 rfl rfl rfl h917.1 h917.2.1 h917.2.2 rfl trivial ?_
     intro c912 a w s d
     rw [Option.some.inj h911] at d
     have h913 := (copy_lenS h900 h911)
     try have s := s.fl 3 rfl h913
     try have s := s.fl 53 rfl h913
     try have s := s.fl 57 rfl h913
     refine h_n [0] [3] d rfl rfl fun hC => ?_
     refine h_done (by kernel_rfl) ?_
     exact ⟨Sv830, c912, wj s d [1] [4, 0]⟩
    rintro a w ⟨Sv914, c912, s, d⟩
    refine tn (wp_region_lit (rn0 4 s rfl fun a s => ?_))
    obtain ⟨x920, h918, u⟩ := bt u
    obtain ⟨q924, c925, h921, h922, h923, h919⟩ := d.elemK 0 rfl h918
    obtain ⟨_, _, rfl, rfl, rfl⟩ := h919
    have d := d.addE h923
    refine sv s (y_indexAt runUnderlying52 sizeOf45 rfl rfl h921.1 h921.2 h922) rfl fun a s => ?_
    refine sv s (y_loadEA (j := 0) (d.ceAt 0 rfl) rfl isAgg45 sizeOf45 rfl rfl) rfl fun a s => ?_
    obtain ⟨x928, h926, u⟩ := bt u
    obtain ⟨b935, q932, c933, h936, h929, h930, h934, h927⟩ := d.elemRV (α := Span) 0 rfl 2 rfl h926
    have hsv937 := s
    have hwv938 := d
    subst h936
    have s := hsv937
    have d := hwv938
    obtain ⟨_, _, rfl, rfl, rfl⟩ := h927
    refine sv s (y_indexAt runUnderlying52 sizeOf45 rfl rfl h929.1 h929.2 h930) rfl fun a s => ?_
    obtain ⟨l940, h939, u⟩ := bt u
    refine w_storeF (α := Span) s d 0 rfl 2 rfl h930 rfl rfl sizeOf45 rfl h939 ⟨_, _, rfl, rfl, rfl⟩ trivial ?_
    intro c941 a w s d
    have h942 := setM_len h939
    try have s := s.fl 3 rfl h942
    try have s := s.fl 61 rfl h942
    refine wpList_nil ?_
    exact blk_normal (tn ⟨l940, c941, (ad b935), k898, Sv914, u, wj s d [0] [2, 0]⟩)
   rintro a w ⟨sorted716, c712, p713, k714, Sv715, u, s, d⟩
   refine tn (wp_region_lit (rn0 2 s rfl fun a s => ?_))
   obtain ⟨i718, h717, u⟩ := bt u
   refine sv s (y_assignI rfl h717) rfl fun a s => ?_
   exact nl ⟨_, io u, c712, p713, k714, Sv715, wj s d [0] [0, 1]⟩
  refine wp_exit (then_exit (then_exit (blk_exit ?_)))
  obtain rfl := oi u
  have h944 := hd536 _ rfl
  subst h944
  exact tn ⟨c358, p359, k360, Sv361, wj s d [0] [1]⟩
 rintro a w ⟨c540, p541, k542, Sv543, s, d⟩
 refine tn (sz0 1 s rfl fun a s => ?_)
 refine wp_seq (sz0 1 s rfl fun a s => ?_)
 obtain ⟨e1248, h1540, u⟩ := bt u
 refine wp_join (fun a w => ∃ c1249 p1250 k1251 Sv1252, Sl 117 [(6, sl p1250 k1251 e1248)] a ∧ Wd ⟨w0, S0, []⟩ Sv1252 [.row p1250 e1248.length k1251 c1249 45 2] [RowA c1249 e1248] w) ?_ ?_
 ·refine wp_block ?_
  have d := d.nilRow Span 45
  refine wp_while (fun sv945 a w => ∃ c1142 p1143 k1144 Sv1145, Sl 117 [(3, sl p541 k542 e539), (6, sl p1143 k1144 sv945.1), (7, iv sv945.2)] a ∧ Wd ⟨w0, S0, []⟩ Sv1145 [.row p541 e539.length k542 c540 45 2, .row p1143 sv945.1.length k1144 c1142 45 2] [RowA c540 e539, RowA c1142 sv945.1] w) (([] : List Span), 0) h1540 ⟨[], none, 0, Sv543, wj s d [1, 0] [1, 0]⟩ ?_
  clear h1540
  repeat clear u
  rintro sv945 a w tv1246 ⟨c1142, p1143, k1144, Sv1145, s, d⟩ u hd1245
  refine wp_seq (sz0 4 s rfl fun a s => ?_)
  refine cd s u rfl (fun u => ?_) fun u => ?_
  ·refine sk (wp_seq (wp_block (sn0 2 s rfl fun a s => ?_)))
   obtain ⟨n1352, h1351, u⟩ := bt u
   refine sv s (y_assignI rfl h1351) rfl fun a s => ?_
   refine nl (wp_seq ?_)
   obtain ⟨c1379, hc1379, u⟩ := bt u
   refine wp_only (fun a w => ∃ Sv1380, Sl 117 [(3, sl p541 k542 e539), (6, sl p1143 k1144 sv945.1), (7, iv sv945.2), (8, iv n1352), (91, .bool c1379)] a ∧ Wd ⟨w0, S0, []⟩ Sv1380 [.row p541 e539.length k542 c540 45 2, .row p1143 sv945.1.length k1144 c1142 45 2] [RowA c540 e539, RowA c1142 sv945.1] w) ?_ ?_
   ·rcases Bool.eq_false_or_eq_true (decide (0 < n1352)) with h1381 | h1381
    ·have h1382 := ite_t hc1379 h1381
     obtain ⟨x1385, h1383, h1382⟩ := bind_t h1382
     obtain ⟨b1392, q1389, c1390, h1393, h1386, h1387, h1391, h1384⟩ := d.elemRV (α := Span) 0 rfl 0 rfl h1383
     have hsv1394 := s
     have hwv1395 := d
     subst h1393
     have s := hsv1394
     have d := hwv1395
     obtain ⟨_, _, rfl, rfl, rfl⟩ := h1384
     obtain ⟨x1398, h1396, h1382⟩ := bind_t h1382
     obtain ⟨b1405, q1402, c1403, h1406, h1399, h1400, h1404, h1397⟩ := d.elemRV (α := Span) 1 rfl 1 rfl h1396
     have hsv1407 := s
     have hwv1408 := d
     subst h1406
     have s := hsv1407
     have d := hwv1408
     obtain ⟨_, _, rfl, rfl, rfl⟩ := h1397
     refine h_c [0, 1] [] d rfl rfl (by kernel_rfl) rfl fun hC d => ?_
     refine gn 3 [0, 1, 2] [] s hC rfl rfl rfl fun a s => ?_
     have s := s.bT 78 rfl h1381
     refine gn 2 [3, 4] [] s hC rfl rfl rfl fun a s => ?_
     refine gx s 5 rfl ⟨_, rfl, rfl⟩ rfl hC runUnderlying52 sizeOf45 rfl rfl h1386 h1387 fun a s => ?_
     refine gt s 6 rfl ⟨_, rfl, rfl⟩ rfl hC (fun w hC => y_fieldAddr (o' := q1389 + 0) runUnderlying45 rfl sizeOf3 rfl rfl rfl) fun a s => ?_
     refine gt s 7 rfl ⟨_, rfl, rfl⟩ rfl hC (fun w hC => y_loadQ1 (j := 0) (hC.ownAt 0 rfl) rfl isAgg3 h1391 rfl) fun a s => ?_
     refine gn 3 [8, 9, 10] [] s hC rfl rfl rfl fun a s => ?_
     refine gx s 11 rfl ⟨_, rfl, rfl⟩ rfl hC runUnderlying52 sizeOf45 rfl rfl h1399 h1400 fun a s => ?_
     refine gt s 12 rfl ⟨_, rfl, rfl⟩ rfl hC (fun w hC => y_fieldAddr (o' := q1402 + 1) runUnderlying45 rfl sizeOf3 rfl rfl rfl) fun a s => ?_
     refine gt s 13 rfl ⟨_, rfl, rfl⟩ rfl hC (fun w hC => y_loadQ1 (j := 1) (hC.ownAt 1 rfl) rfl isAgg3 h1404 rfl) fun a s => ?_
     refine gt s 14 rfl ⟨_, rfl, rfl⟩ rfl hC (fun w hC => y_leq rfl rfl) fun a s => ?_
     refine gT s 15 rfl rfl hC rfl rfl h1382 fun a s => ?_
     refine h_done (by kernel_rfl) ?_
     exact ⟨Sv1145, wj s d [0, 1] [0, 1]⟩
    have h1409 := ite_f hc1379 h1381
    refine h_c [0, 1] [] d rfl rfl (by kernel_rfl) rfl fun hC d => ?_
    refine gn 3 [0, 1, 2] [] s hC rfl rfl rfl fun a s => ?_
    have s := s.bF 78 rfl h1381
    refine gn 12 [3, 4, 5, 6, 7, 8, 9, 10, 11, 12, 13, 14] [] s hC rfl rfl rfl fun a s => ?_
    refine gF s 15 rfl rfl hC rfl rfl h1409 fun a s => ?_
    refine h_done (by kernel_rfl) ?_
    exact ⟨Sv1145, wj s d [0, 1] [0, 1]⟩
   rintro a w ⟨Sv1380, s, d⟩
   refine tn (wp_join (fun a w => ∃ (out1475 : (List Span)) (c1471 p1472 k1473 Sv1474 : _), ref08_Normal_j4 sv945 out1475 = some tv1246 ∧ Sl 117 [(3, sl p541 k542 e539), (6, sl p1472 k1473 out1475), (7, iv sv945.2)] a ∧ Wd ⟨w0, S0, []⟩ Sv1474 [.row p541 e539.length k542 c540 45 2, .row p1472 out1475.length k1473 c1471 45 2] [RowA c540 e539, RowA c1471 out1475] w) ?_ ?_)
   ·refine cd s u rfl (fun u => ?_) fun u => ?_
    ·obtain ⟨x1481, h1479, u⟩ := bt u
     obtain ⟨b1488, q1485, c1486, h1489, h1482, h1483, h1487, h1480⟩ := d.elemRV (α := Span) 1 rfl 1 rfl h1479
     have hsv1490 := s
     have hwv1491 := d
     subst h1489
     have s := hsv1490
     have d := hwv1491
     obtain ⟨_, _, rfl, rfl, rfl⟩ := h1480
     obtain ⟨x1494, h1492, u⟩ := bt u
     obtain ⟨b1501, q1498, c1499, h1502, h1495, h1496, h1500, h1493⟩ := d.elemRV (α := Span) 0 rfl 0 rfl h1492
     have hsv1503 := s
     have hwv1504 := d
     subst h1502
     have s := hsv1503
     have d := hwv1504
     obtain ⟨_, _, rfl, rfl, rfl⟩ := h1493
     obtain ⟨x1507, h1505, u⟩ := bt u
     obtain ⟨q1511, c1512, h1508, h1509, h1513, h1506⟩ := d.elemRK (α := Span) 1 rfl 1 rfl h1505
     obtain ⟨_, _, rfl, rfl, rfl⟩ := h1506
     obtain ⟨l1515, h1514, u⟩ := bt u
     refine wp_only (fun a w => ∃ Sv1518 c1516, Sl 117 [(3, sl (ad b1501) k542 e539), (6, sl (ad b1488) k1144 l1515), (7, iv sv945.2)] a ∧ Wd ⟨w0, S0, []⟩ Sv1518 [.row (ad b1501) e539.length k542 c540 45 2, .row (ad b1488) l1515.length k1144 c1516 45 2] [RowA c540 e539, RowA c1516 l1515] w) ?_ ?_
     ·refine h_c [0] [] d rfl rfl (by kernel_rfl) rfl fun hC d => ?_
      refine gn 6 [0, 1, 2, 3, 4, 5] [] s hC rfl rfl rfl fun a s => ?_
      refine gx s 6 rfl trivial rfl hC runUnderlying52 sizeOf45 rfl rfl h1482 h1483 fun a s => ?_
      refine gn 3 [7, 9, 10] [] s hC rfl rfl rfl fun a s => ?_
      refine gx s 11 rfl trivial rfl hC runUnderlying52 sizeOf45 rfl rfl h1495 h1496 fun a s => ?_
      refine gv s 12 rfl rfl hC (fun w hC => y_fieldAddr (o' := q1498 + 1) runUnderlying45 rfl sizeOf3 rfl rfl rfl) fun a s => ?_
      refine gv s 13 rfl rfl hC (fun w hC => y_loadQ1 (j := 1) (hC.ownAt 0 rfl) rfl isAgg3 h1500 rfl) fun a s => ?_
      refine ho 8 rfl ?_
      refine sv s (y_loadQ1 (j := 1) (d.ownAt 1 rfl) rfl isAgg3 h1487 rfl) rfl fun a s => ?_
      refine h_n [0] [] d rfl rfl fun hC => ?_
      refine gv s 14 rfl rfl hC (fun w hC => y_max rfl rfl) fun a s => ?_
      refine gx s 15 rfl trivial rfl hC runUnderlying52 sizeOf45 rfl rfl h1508 h1509 fun a s => ?_
      refine gv s 16 rfl rfl hC (fun w hC => y_fieldAddr (o' := q1511 + 1) runUnderlying45 rfl sizeOf3 rfl rfl rfl) fun a s => ?_
      refine ho 17 rfl ?_
      refine w_storeR (α := Span) (f := 1) (m := 1) s d 1 rfl 1 rfl h1509 rfl rfl sizeOf3 rfl rfl rfl h1514 (fun es he => by rw [h1513] at he; subst he; exact ⟨_, _, rfl, rfl, rfl⟩) trivial ?_
      intro c1516 a w s d
      have h1517 := setM_len h1514
      try have s := s.fl 6 rfl h1517
      try have s := s.fl 92 rfl h1517
      try have s := s.fl 95 rfl h1517
      refine h_n [0] [] d rfl rfl fun hC => ?_
      refine h_done (by kernel_rfl) ?_
      exact ⟨Sv1380, c1516, wj s d [0, 1] [1, 0]⟩
     rintro a w ⟨Sv1518, c1516, s, d⟩
     exact tn ⟨l1515, c1516, (ad b1488), k1144, Sv1518, u, wj s d [0, 1] [0, 1]⟩
    refine wp_region_lit (rn0 3 s rfl fun a s => ?_)
    obtain ⟨x1521, h1519, u⟩ := bt u
    obtain ⟨b1528, q1525, c1526, h1529, h1522, h1523, h1527, h1520⟩ := d.elemRV (α := Span) 0 rfl 0 rfl h1519
    have hsv1530 := s
    have hwv1531 := d
    subst h1529
    have s := hsv1530
    have d := hwv1531
    obtain ⟨_, _, rfl, rfl, rfl⟩ := h1520
    refine sv s (y_indexAt runUnderlying52 sizeOf45 rfl rfl h1522.1 h1522.2 h1523) rfl fun a s => ?_
    refine sv s (y_loadQA (j := 0) (d.ownAt 0 rfl) rfl isAgg45 sizeOf45 h1527 rfl rfl) rfl fun a s => ?_
    refine w_litSlice (α := Span) (vs := [V45 x1521]) (cs := (C45 x1521)) (xs := ([x1521] : List Span)) s d El52 rfl rfl rfl rfl rfl rfl ⟨⟨_, _, rfl, rfl, rfl⟩, rfl⟩ rfl trivial rfl fun b1533 a w s d => ?_
    obtain ⟨l1535, h1534, u⟩ := bt u
    refine w_appendR (α := Span) s d El52 2 rfl rfl rfl 2 rfl 0 rfl 0 rfl h1534 rfl trivial ?_
    intro p1536 k1537 c1538 a w s d
    refine rz0 1 s rfl fun a s => ?_
    exact ⟨l1535, c1538, p1536, k1537, Sv1380, u, wj s d [1, 2] [2, 0]⟩
   rintro a w ⟨out1475, c1471, p1472, k1473, Sv1474, u, s, d⟩
   refine blk_normal (tn (wp_region_lit (rn0 2 s rfl fun a s => ?_)))
   obtain ⟨i1477, h1476, u⟩ := bt u
   refine sv s (y_assignI rfl h1476) rfl fun a s => ?_
   exact nl ⟨_, io u, c1471, p1472, k1473, Sv1474, wj s d [0, 1] [0, 1]⟩
  refine wp_exit (then_exit (then_exit (blk_exit ?_)))
  obtain rfl := oi u
  have h1539 := hd1245 _ rfl
  subst h1539
  exact tn ⟨c1142, p1143, k1144, Sv1145, wj s d [1] [1]⟩
 rintro a w ⟨c1249, p1250, k1251, Sv1252, s, d⟩
 refine tn (sz0 2 s rfl fun a s => ?_)
 obtain rfl := oi u
 exact q1 s rfl (d.ret ⟨p1250, k1251, c1249, rfl, (d.outs [0] (by decide) rfl), (d.envAt 0 rfl)⟩)
theorem ref08_Union_ok {w0 S0 p2 k3 p6 k7 a1 b5 r} (u : ref08_Union a1 b5 = some r) (hS : Dm S0 w0) (h4 : (Sq p2 k3 a1).p S0 w0) (h8 : (Sq p6 k7 b5).p S0 w0) : Ck Tryz.prog 27 #[sl p2 k3 a1, sl p6 k7 b5] w0 S0 [] slices_Clone_Lapi_Span_api_Span_rd r := by
 refine en 10 func27 rfl hS rfl rfl rfl fun a s d => ?_
 have d := (d.addE h4).addE h8
 refine sz0 1 s rfl fun a s => ?_
 refine sn0 1 s rfl fun a s => ?_
 obtain ⟨l10, h9, u⟩ := bt u
 have d := d.nilRow Span 45
 refine w_appendE (α := Span) s d El52 0 rfl rfl rfl 0 rfl 2 rfl h9 rfl trivial ?_
 intro p11 k12 c13 a w s d
 refine mv s rfl rfl fun a s => ?_
 obtain ⟨l15, h14, u⟩ := bt u
 refine w_appendE (α := Span) s d El52 0 rfl rfl rfl 0 rfl 2 rfl h14 rfl trivial ?_
 intro p16 k17 c18 a w s d
 obtain ⟨rv20, h19, u⟩ := bt u
 obtain ⟨Sv25, d⟩ := w_share (α := Span) d 0 rfl 0 rfl
 refine cR s (ref08_Normal_ok h19 d.dom (d.envAt 0 rfl)) (do_call call58 rfl) rfl ?_
 rintro v29 Sv26 w a h27 ⟨p21, k22, c24, rfl, h30, h23⟩ s
 have d := (d.callN h27 h30).addE (e := RowA c24 rv20) h23
 refine rz0 1 s rfl fun a s => ?_
 obtain rfl := oi u
 exact q1 s rfl (d.ret ⟨p21, k22, c24, rfl, (d.outs [0] (by decide) rfl), (d.envAt 0 rfl)⟩)
theorem ref08_Meet_ok {w0 S0 p2 k3 p6 k7 a1 b5 r} (u : ref08_Meet a1 b5 = some r) (hS : Dm S0 w0) (h4 : (Sq p2 k3 a1).p S0 w0) (h8 : (Sq p6 k7 b5).p S0 w0) : Ck Tryz.prog 57 #[sl p2 k3 a1, sl p6 k7 b5] w0 S0 [] slices_Clone_Lapi_Span_api_Span_rd r := by
 refine en 61 func57 rfl hS rfl rfl rfl fun a s d => ?_
 have d := (d.addE h4).addE h8
 refine sz0 1 s rfl fun a s => ?_
 refine sn0 1 s rfl fun a s => ?_
 obtain ⟨rv10, h9, u⟩ := bt u
 refine cR s (ref08_Normal_ok h9 d.dom (d.envAt 1 rfl)) (do_call call58 rfl) rfl ?_
 rintro v18 Sv15 w a h16 ⟨p11, k12, c14, rfl, h19, h13⟩ s
 have d := (d.callN h16 h19).addE (e := RowA c14 rv10) h13
 refine mv s rfl rfl fun a s => ?_
 obtain ⟨rv21, h20, u⟩ := bt u
 refine cR s (ref08_Normal_ok h20 d.dom (d.envAt 1 rfl)) (do_call call58 rfl) rfl ?_
 rintro v29 Sv26 w a h27 ⟨p22, k23, c25, rfl, h30, h24⟩ s
 have d := (d.callN h27 h30).addE (e := RowA c25 rv21) h24
 refine rz0 2 s rfl fun a s => ?_
 refine sz0 1 s rfl fun a s => ?_
 refine wp_seq (sz0 1 s rfl fun a s => ?_)
 obtain ⟨e661, h1221, u⟩ := bt u
 refine wp_join (fun a w => ∃ c662 p663 k664 Sv665, Sl 61 [(7, sl p663 k664 e661)] a ∧ Wd ⟨w0, S0, []⟩ Sv665 [.row p663 e661.length k664 c662 45 2] [RowA c662 e661] w) ?_ ?_
 ·refine wp_block ?_
  have d := d.nilRow Span 45
  refine wp_while (fun sv31 a w => ∃ c448 p449 k450 Sv451, Sl 61 [(5, sl p11 k12 rv10), (6, sl p22 k23 rv21), (7, sl p449 k450 sv31.1), (8, iv sv31.2)] a ∧ Wd ⟨w0, S0, []⟩ Sv451 [.row p11 rv10.length k12 c14 45 2, .row p22 rv21.length k23 c25 45 2, .row p449 sv31.1.length k450 c448 45 2] [RowA c14 rv10, RowA c25 rv21, RowA c448 sv31.1] w) (([] : List Span), 0) h1221 ⟨[], none, 0, Sv26, wj s d [2, 1, 0] [2, 1, 0]⟩ ?_
  clear h1221
  repeat clear u
  rintro sv31 a w tv659 ⟨c448, p449, k450, Sv451, s, d⟩ u hd658
  refine wp_seq (sz0 4 s rfl fun a s => ?_)
  refine cd s u rfl (fun u => ?_) fun u => ?_
  ·refine sk (wp_seq (wp_block (sz0 1 s rfl fun a s => ?_)))
   obtain ⟨e1069, h1207, u⟩ := bt u
   refine wp_join (fun a w => ∃ c1070 p1071 k1072 Sv1073, Sl 61 [(5, sl p11 k12 rv10), (6, sl p22 k23 rv21), (7, sl p1071 k1072 e1069), (8, iv sv31.2)] a ∧ Wd ⟨w0, S0, []⟩ Sv1073 [.row p11 rv10.length k12 c14 45 2, .row p22 rv21.length k23 c25 45 2, .row p1071 e1069.length k1072 c1070 45 2] [RowA c14 rv10, RowA c25 rv21, RowA c1070 e1069] w) ?_ ?_
   ·refine wp_block (wp_while (fun sv871 a w => ∃ c1000 p1001 k1002 Sv1003, Sl 61 [(5, sl p11 k12 rv10), (6, sl p22 k23 rv21), (7, sl p1001 k1002 sv871.1), (8, iv sv31.2), (9, iv sv871.2)] a ∧ Wd ⟨w0, S0, []⟩ Sv1003 [.row p11 rv10.length k12 c14 45 2, .row p22 rv21.length k23 c25 45 2, .row p1001 sv871.1.length k1002 c1000 45 2] [RowA c14 rv10, RowA c25 rv21, RowA c1000 sv871.1] w) (sv31.1, 0) h1207 ⟨c448, p449, k450, Sv451, wj s d [0, 1, 2] [0, 1, 2]⟩ ?_)
    clear h1207
    repeat clear u
    rintro sv871 a w tv1067 ⟨c1000, p1001, k1002, Sv1003, s, d⟩ u hd1066
    refine wp_seq (sz0 4 s rfl fun a s => ?_)
    refine cd s u rfl (fun u => ?_) fun u => ?_
    ·refine sk (wp_seq (wp_block (wp_seq ?_)))
     obtain ⟨x1137, h1135, u⟩ := bt u
     obtain ⟨b1144, q1141, c1142, h1145, h1138, h1139, h1143, h1136⟩ := d.elemRV (α := Span) 0 rfl 0 rfl h1135
     have hsv1146 := s
     have hwv1147 := d
     subst h1145
     have s := hsv1146
     have d := hwv1147
     obtain ⟨_, _, rfl, rfl, rfl⟩ := h1136
     obtain ⟨x1150, h1148, u⟩ := bt u
     obtain ⟨b1157, q1154, c1155, h1158, h1151, h1152, h1156, h1149⟩ := d.elemRV (α := Span) 1 rfl 1 rfl h1148
     have hsv1159 := s
     have hwv1160 := d
     subst h1158
     have s := hsv1159
     have d := hwv1160
     obtain ⟨_, _, rfl, rfl, rfl⟩ := h1149
     obtain ⟨x1163, h1161, u⟩ := bt u
     obtain ⟨q1167, c1168, h1164, h1165, h1169, h1162⟩ := d.elemRK (α := Span) 0 rfl 0 rfl h1161
     obtain ⟨_, _, rfl, rfl, rfl⟩ := h1162
     obtain ⟨x1172, h1170, u⟩ := bt u
     obtain ⟨q1176, c1177, h1173, h1174, h1178, h1171⟩ := d.elemRK (α := Span) 1 rfl 1 rfl h1170
     obtain ⟨_, _, rfl, rfl, rfl⟩ := h1171
     refine wp_only (fun a w => ∃ Sv1180 b1179, Sl 61 [(5, sl (ad b1144) k12 rv10), (6, sl (ad b1157) k23 rv21), (7, sl p1001 k1002 sv871.1), (8, iv sv31.2), (9, iv sv871.2), (10, pt b1179)] a ∧ Wd ⟨w0, S0, []⟩ Sv1180 [.box b1179 [iv (max x1137.From x1150.From), iv (min x1163.To x1172.To)] 45, .row (ad b1144) rv10.length k12 c14 45 2, .row (ad b1157) rv21.length k23 c25 45 2, .row p1001 sv871.1.length k1002 c1000 45 2] [RowA c14 rv10, RowA c25 rv21, RowA c1000 sv871.1] w) ?_ ?_
     ·refine h_c [0, 1, 2] [] d rfl rfl (by kernel_rfl) rfl fun hC d => ?_
      refine gn 2 [0, 1] [] s hC rfl rfl rfl fun a s => ?_
      refine gx s 2 rfl trivial rfl hC runUnderlying52 sizeOf45 rfl rfl h1138 h1139 fun a s => ?_
      refine gv s 3 rfl rfl hC (fun w hC => y_fieldAddr (o' := q1141 + 0) runUnderlying45 rfl sizeOf3 rfl rfl rfl) fun a s => ?_
      refine gv s 4 rfl rfl hC (fun w hC => y_loadQ1 (j := 0) (hC.ownAt 0 rfl) rfl isAgg3 h1143 rfl) fun a s => ?_
      refine gn 2 [5, 6] [] s hC rfl rfl rfl fun a s => ?_
      refine gx s 7 rfl trivial rfl hC runUnderlying52 sizeOf45 rfl rfl h1151 h1152 fun a s => ?_
      refine gv s 8 rfl rfl hC (fun w hC => y_fieldAddr (o' := q1154 + 0) runUnderlying45 rfl sizeOf3 rfl rfl rfl) fun a s => ?_
      refine gv s 9 rfl rfl hC (fun w hC => y_loadQ1 (j := 0) (hC.ownAt 1 rfl) rfl isAgg3 h1156 rfl) fun a s => ?_
      refine gn 3 [10, 11, 12] [] s hC rfl rfl rfl fun a s => ?_
      refine gx s 13 rfl trivial rfl hC runUnderlying52 sizeOf45 rfl rfl h1164 h1165 fun a s => ?_
      refine gv s 14 rfl rfl hC (fun w hC => y_fieldAddr (o' := q1167 + 1) runUnderlying45 rfl sizeOf3 rfl rfl rfl) fun a s => ?_
      refine gv s 15 rfl rfl hC (fun w hC => y_loadQ1 (j := 1) (hC.ownAt 0 rfl) rfl isAgg3 h1169 rfl) fun a s => ?_
      refine gn 2 [16, 17] [] s hC rfl rfl rfl fun a s => ?_
      refine gx s 18 rfl trivial rfl hC runUnderlying52 sizeOf45 rfl rfl h1173 h1174 fun a s => ?_
      refine gv s 19 rfl rfl hC (fun w hC => y_fieldAddr (o' := q1176 + 1) runUnderlying45 rfl sizeOf3 rfl rfl rfl) fun a s => ?_
      refine gv s 20 rfl rfl hC (fun w hC => y_loadQ1 (j := 1) (hC.ownAt 1 rfl) rfl isAgg3 h1178 rfl) fun a s => ?_
      refine gv s 21 rfl rfl hC (fun w hC => y_min rfl rfl) fun a s => ?_
      refine gv s 22 rfl rfl hC (fun w hC => y_build (vs := [(0, iv (max x1137.From x1150.From)), (1, iv (min x1163.To x1172.To))]) Bld45 rfl rfl) fun a s => ?_
      refine ho 23 rfl ?_
      refine wa [iv 0, iv 0] s d zeroValue45 fun b1179 a w s d => ?_
      refine h_n [1, 2, 3] [] d rfl rfl fun hC => ?_
      refine ho 24 rfl ?_
      refine ws [iv (max x1137.From x1150.From), iv (min x1163.To x1172.To)] s d 0 rfl rfl rfl sizeOf45 fun a w s d => ?_
      refine h_n [1, 2, 3] [] d rfl rfl fun hC => ?_
      refine h_done (by kernel_rfl) ?_
      exact ⟨Sv1003, b1179, wj s d [0, 1, 2, 3] [0, 1, 2]⟩
     rintro a w ⟨Sv1180, b1179, s, d⟩
     refine tn (sz 5 [0, 0] s d rfl rfl fun a s => ?_)
     refine wp_join (fun a w => ∃ (out1193 : (List Span)) (c1189 p1190 k1191 Sv1192 : _), ref08_Meet_j1 sv871 out1193 = some tv1067 ∧ Sl 61 [(5, sl (ad b1144) k12 rv10), (6, sl (ad b1157) k23 rv21), (7, sl p1190 k1191 out1193), (8, iv sv31.2), (9, iv sv871.2)] a ∧ Wd ⟨w0, S0, []⟩ Sv1192 [.row (ad b1144) rv10.length k12 c14 45 2, .row (ad b1157) rv21.length k23 c25 45 2, .row p1190 out1193.length k1191 c1189 45 2] [RowA c14 rv10, RowA c25 rv21, RowA c1189 out1193] w) ?_ ?_
     ·refine cd s u rfl (fun u => ?_) fun u => ?_
      ·refine wp_region_lit (rn 2 [0] s d rfl rfl fun a s => ?_)
       refine w_litSlice (α := Span) (vs := [.agg #[iv (max x1137.From x1150.From), iv (min x1163.To x1172.To)]]) (cs := [iv (max x1137.From x1150.From), iv (min x1163.To x1172.To)]) (xs := ([(⟨(max x1137.From x1150.From), (min x1163.To x1172.To)⟩ : Span)] : List Span)) s d El52 rfl rfl rfl rfl rfl rfl ⟨⟨_, _, rfl, rfl, rfl⟩, rfl⟩ rfl trivial rfl fun b1198 a w s d => ?_
       obtain ⟨l1200, h1199, u⟩ := bt u
       refine w_appendR (α := Span) s d El52 4 rfl rfl rfl 3 rfl 0 rfl 0 rfl h1199 rfl trivial ?_
       intro p1201 k1202 c1203 a w s d
       refine rz0 1 s rfl fun a s => ?_
       exact ⟨l1200, c1203, p1201, k1202, Sv1180, u, wj s d [2, 3, 4] [2, 3, 0]⟩
      exact sk ⟨sv871.1, c1000, p1001, k1002, Sv1180, u, wj s d [1, 2, 3] [0, 1, 2]⟩
     rintro a w ⟨out1193, c1189, p1190, k1191, Sv1192, u, s, d⟩
     refine blk_normal (tn (wp_region_lit (rn0 2 s rfl fun a s => ?_)))
     obtain ⟨k1195, h1194, u⟩ := bt u
     refine sv s (y_assignI rfl h1194) rfl fun a s => ?_
     exact nl ⟨_, io u, c1189, p1190, k1191, Sv1192, wj s d [0, 1, 2] [0, 1, 2]⟩
    refine wp_exit (then_exit (then_exit (blk_exit ?_)))
    obtain rfl := oi u
    have h1204 := hd1066 _ rfl
    subst h1204
    exact tn ⟨c1000, p1001, k1002, Sv1003, wj s d [0, 1, 2] [0, 1, 2]⟩
   rintro a w ⟨c1070, p1071, k1072, Sv1073, s, d⟩
   refine blk_normal (tn (wp_region_lit (rn0 2 s rfl fun a s => ?_)))
   obtain ⟨i1206, h1205, u⟩ := bt u
   refine sv s (y_assignI rfl h1205) rfl fun a s => ?_
   exact nl ⟨_, io u, c1070, p1071, k1072, Sv1073, wj s d [0, 1, 2] [0, 1, 2]⟩
  refine wp_exit (then_exit (then_exit (blk_exit ?_)))
  obtain rfl := oi u
  have h1208 := hd658 _ rfl
  subst h1208
  exact tn ⟨c448, p449, k450, Sv451, wj s d [2] [2]⟩
 rintro a w ⟨c662, p663, k664, Sv665, s, d⟩
 refine tn (sn0 1 s rfl fun a s => ?_)
 obtain ⟨rv1210, h1209, u⟩ := bt u
 obtain ⟨Sv1215, d⟩ := w_share (α := Span) d 0 rfl 0 rfl
 refine cR s (ref08_Normal_ok h1209 d.dom (d.envAt 0 rfl)) (do_call call58 rfl) rfl ?_
 rintro v1219 Sv1216 w a h1217 ⟨p1211, k1212, c1214, rfl, h1220, h1213⟩ s
 have d := (d.callN h1217 h1220).addE (e := RowA c1214 rv1210) h1213
 refine rz0 1 s rfl fun a s => ?_
 obtain rfl := oi u
 exact q1 s rfl (d.ret ⟨p1211, k1212, c1214, rfl, (d.outs [0] (by decide) rfl), (d.envAt 0 rfl)⟩)
theorem ref08_Cut_ok {w0 S0 p2 k3 l1 from5 to6 r} (u : ref08_Cut l1 from5 to6 = some r) (hS : Dm S0 w0) (h4 : (Sq p2 k3 l1).p S0 w0) : Ck Tryz.prog 25 #[sl p2 k3 l1, iv from5, iv to6] w0 S0 [] slices_Clone_Lapi_Span_api_Span_rd r := by
 refine en 13 func25 rfl hS rfl rfl rfl fun a s d => ?_
 have d := d.addE h4
 refine sz0 1 s rfl fun a s => ?_
 refine sn0 3 s rfl fun a s => ?_
 refine sv s (y_build (vs := [(0, iv from5), (1, iv to6)]) Bld45 rfl rfl) rfl fun a s => ?_
 refine w_litSlice (α := Span) (vs := [.agg #[iv from5, iv to6]]) (cs := [iv from5, iv to6]) (xs := ([(⟨from5, to6⟩ : Span)] : List Span)) s d El52 rfl rfl rfl rfl rfl rfl ⟨⟨_, _, rfl, rfl, rfl⟩, rfl⟩ rfl trivial rfl fun b8 a w s d => ?_
 obtain ⟨rv10, h9, u⟩ := bt u
 obtain ⟨Sv15, d⟩ := w_share (α := Span) d 0 rfl 0 rfl
 refine cR s (ref08_Meet_ok h9 d.dom (d.envAt 2 rfl) (d.envAt 0 rfl)) (do_call call57 rfl) rfl ?_
 rintro v19 Sv16 w a h17 ⟨p11, k12, c14, rfl, h20, h13⟩ s
 have d := (d.callN h17 h20).addE (e := RowA c14 rv10) h13
 refine rz0 1 s rfl fun a s => ?_
 obtain rfl := oi u
 exact q1 s rfl (d.ret ⟨p11, k12, c14, rfl, (d.outs [0] (by decide) rfl), (d.envAt 0 rfl)⟩)
theorem ref14_Sub_ok {w0 S0 p2 k3 r1 from5 to6 r} (u : ref14_Sub r1 from5 to6 = some r) (hS : Dm S0 w0) (h4 : (Sq p2 k3 r1.Samples).p S0 w0) : Ck Tryz.prog 28 #[V35 r1 p2 k3, iv from5, iv to6] w0 S0 [] record_Sub_rd r := by
 refine en 42 func28 rfl hS rfl rfl rfl fun a s d => ?_
 have d := d.addE h4
 refine sr (wb (C35 r1 p2 k3) s d rfl fun b7 a w s d => ?_)
 refine wa Z4 s d zeroValue35 fun b8 a w s d => ?_
 refine rz0 1 s rfl fun a s => ?_
 refine wp_seq (sn 1 [1] s d rfl rfl fun a s => ?_)
 obtain ⟨rv10, h9, u⟩ := bt u
 refine cV s d (ref14_Valid_ok h9 d.bdom (d.bE 0 rfl)) (do_call call51 rfl) rfl fun a w s d => ?_
 refine rz0 1 s rfl fun a s => ?_
 refine cd s u rfl (fun u => ?_) fun u => ?_
 ·refine sr (sv s (y_build (vs := []) Bld35 rfl rfl) rfl fun a s => ?_)
  refine ws Z4 s d 0 rfl rfl rfl sizeOf35 fun a w s d => ?_
  refine rz0 1 s rfl fun a s => ?_
  obtain rfl := oi u
  have d := d.nilRow Int 3
  exact wp_ret (then_ret (ret2 s rfl (rv_cell d 1 rfl rfl isAgg35 sizeOf35 rfl) (rv_tmp rfl) (d.ret ⟨none, 0, [], rfl, (d.outs [0] (by decide) rfl), (d.envAt 0 rfl)⟩)))
 refine sk (wp_seq (sn0 3 s rfl fun a s => ?_))
 refine rO 4 15 [] s d rfl rfl rfl rfl rfl fun a s => ?_
 refine mv s rfl rfl fun a s => ?_
 refine rO 6 20 [1] s d rfl rfl rfl rfl rfl fun a s => ?_
 refine nl (cd s u rfl (fun u => ?_) fun u => ?_)
 ·refine sr (sv s (y_build (vs := []) Bld35 rfl rfl) rfl fun a s => ?_)
  refine ws Z4 s d 0 rfl rfl rfl sizeOf35 fun a w s d => ?_
  refine rz0 1 s rfl fun a s => ?_
  obtain rfl := oi u
  have d := d.nilRow Int 3
  exact wp_ret (then_ret (ret2 s rfl (rv_cell d 1 rfl rfl isAgg35 sizeOf35 rfl) (rv_tmp rfl) (d.ret ⟨none, 0, [], rfl, (d.outs [0] (by decide) rfl), (d.envAt 0 rfl)⟩)))
 refine sk (sn 1 [1] s d rfl rfl fun a s => ?_)
 refine wa Z4 s d zeroValue35 fun b22 a w s d => ?_
 refine ws (C35 r1 p2 k3) s d 0 rfl rfl rfl sizeOf35 fun a w s d => ?_
 refine nl (sn 5 [2] s d rfl rfl fun a s => ?_)
 refine ws (C35 ⟨r1.Source, r1.Start, (w64 (r1.First + from5)), r1.Rate, r1.Error, r1.Run, r1.Seq, r1.Samples⟩ p2 k3) s d 0 rfl rfl rfl sizeOf3 fun a w s d => ?_
 refine nl (sn 4 [2] s d rfl rfl fun a s => ?_)
 obtain ⟨l28, h23, u⟩ := bt u
 obtain ⟨p26, k27, h24, h25⟩ := sub_env (d.envAt 0 rfl) h23
 have d := d.addE h24
 refine sv s (y_slc runUnderlying22 sizeOf3 rfl ⟨_, rfl⟩ ⟨_, rfl⟩ h25) rfl fun a s => ?_
 obtain ⟨l30, h29, u⟩ := bt u
 have d := d.nilRow Int 3
 refine w_appendE (α := Int) s d El22 0 rfl rfl rfl 0 rfl 1 rfl h29 rfl trivial ?_
 intro p31 k32 c33 a w s d
 refine sv s (y_fieldAddr (o' := 11) runUnderlying35 rfl sizeOf22 rfl rfl rfl) rfl fun a s => ?_
 refine ws (C35 ⟨r1.Source, r1.Start, (w64 (r1.First + from5)), r1.Rate, r1.Error, r1.Run, r1.Seq, l30⟩ p31 k32) s d 1 rfl rfl rfl sizeOf22 fun a w s d => ?_
 refine nl (sn 1 [1] s d rfl rfl fun a s => ?_)
 refine ws (C35 ⟨r1.Source, r1.Start, (w64 (r1.First + from5)), r1.Rate, r1.Error, r1.Run, r1.Seq, l30⟩ p31 k32) s d 2 rfl rfl rfl sizeOf35 fun a w s d => ?_
 refine rz0 1 s rfl fun a s => ?_
 obtain rfl := oi u
 exact wp_ret (ret2 s rfl (rv_cell d 2 rfl rfl isAgg35 sizeOf35 rfl) (rv_tmp rfl) (d.ret ⟨p31, k32, c33, rfl, (d.outs [0] (by decide) rfl), (d.envAt 0 rfl)⟩))
theorem ref15_Compose_ok {w0 S0 p2 k3 l1 r} (u : ref15_Compose l1 = some r) (hS : Dm S0 w0) (h4 : (Sq p2 k3 l1).p S0 w0) : Ck Tryz.prog 39 #[sl p2 k3 l1] w0 S0 [] compose_Compose_rd r := by
 refine en 119 func39 rfl hS rfl rfl rfl fun a s d => ?_
 have d := d.addE h4
 refine sz0 2 s rfl fun a s => ?_
 refine wp_seq (sn0 1 s rfl fun a s => ?_)
 obtain ⟨rv6, h5, u⟩ := bt u
 refine cV s d (ref15_Valid_ok h5 d.bdom (d.bE 0 rfl)) (do_call call42 rfl) rfl fun a w s d => ?_
 refine rz0 1 s rfl fun a s => ?_
 refine cd s u rfl (fun u => ?_) fun u => ?_
 ·refine sz0 2 s rfl fun a s => ?_
  obtain rfl := oi u
  have d := d.nilRow Record 35
  exact wp_ret (then_ret (ret2 s rfl (rv_tmp rfl) (rv_tmp rfl) (d.ret ⟨none, 0, [], rfl, (d.outs [0] (by decide) rfl), (d.envAt 0 rfl)⟩)))
 refine sk (sn0 1 s rfl fun a s => ?_)
 obtain ⟨rv15, h14, u⟩ := bt u
 refine cR s (ref15_order_ok h14 d.dom (d.envAt 0 rfl)) (do_call call66 rfl) rfl ?_
 rintro v23 Sv20 w a h21 ⟨p16, k17, c19, rfl, h24, h18⟩ s
 have d := (d.callN h21 h24).addE (e := RowA c19 rv15) h18
 refine rz0 1 s rfl fun a s => ?_
 refine sz0 1 s rfl fun a s => ?_
 refine wp_seq (sz0 1 s rfl fun a s => ?_)
 obtain ⟨e1897, h3655, u⟩ := bt u
 refine wp_join (fun a w => ∃ c1898 p1899 k1900 Sv1901, Sl 119 [(5, sl p1899 k1900 e1897)] a ∧ Wd ⟨w0, S0, []⟩ Sv1901 [.row p1899 e1897.length k1900 c1898 35 12] [RowA c1898 e1897] w) ?_ ?_
 ·refine wp_block ?_
  have d := d.nilRow Record 35
  refine wp_while (fun sv25 a w => ∃ c1270 p1271 k1272 Sv1273, Sl 119 [(4, sl p16 k17 rv15), (5, sl p1271 k1272 sv25.1), (6, iv sv25.2)] a ∧ Wd ⟨w0, S0, []⟩ Sv1273 [.row p16 rv15.length k17 c19 35 12, .row p1271 sv25.1.length k1272 c1270 35 12] [RowA c19 rv15, RowA c1270 sv25.1] w) (([] : List Record), 0) h3655 ⟨[], none, 0, Sv20, wj s d [1, 0] [1, 0]⟩ ?_
  clear h3655
  repeat clear u
  rintro sv25 a w tv1895 ⟨c1270, p1271, k1272, Sv1273, s, d⟩ u hd1894
  refine wp_seq (sz0 4 s rfl fun a s => ?_)
  refine cd s u rfl (fun u => ?_) fun u => ?_
  ·refine sk (wp_seq (wp_block (sz0 1 s rfl fun a s => ?_)))
   refine wp_seq (sz0 1 s rfl fun a s => ?_)
   obtain ⟨e2766, h3641, u⟩ := bt u
   refine wp_join (fun a w => ∃ c2767 p2768 k2769 Sv2770, Sl 119 [(4, sl p16 k17 rv15), (5, sl p1271 k1272 sv25.1), (6, iv sv25.2), (7, sl p2768 k2769 e2766)] a ∧ Wd ⟨w0, S0, []⟩ Sv2770 [.row p16 rv15.length k17 c19 35 12, .row p1271 sv25.1.length k1272 c1270 35 12, .row p2768 e2766.length k2769 c2767 45 2] [RowA c19 rv15, RowA c1270 sv25.1, RowA c2767 e2766] w) ?_ ?_
   ·refine wp_block ?_
    have d := d.nilRow Span 45
    refine wp_while (fun sv2521 a w => ∃ c2681 p2682 k2683 Sv2684, Sl 119 [(4, sl p16 k17 rv15), (5, sl p1271 k1272 sv25.1), (6, iv sv25.2), (7, sl p2682 k2683 sv2521.1), (8, iv sv2521.2)] a ∧ Wd ⟨w0, S0, []⟩ Sv2684 [.row p16 rv15.length k17 c19 35 12, .row p1271 sv25.1.length k1272 c1270 35 12, .row p2682 sv2521.1.length k2683 c2681 45 2] [RowA c19 rv15, RowA c1270 sv25.1, RowA c2681 sv2521.1] w) (([] : List Span), 0) h3641 ⟨[], none, 0, Sv1273, wj s d [1, 2, 0] [1, 2, 0]⟩ ?_
    clear h3641
    repeat clear u
    rintro sv2521 a w tv2764 ⟨c2681, p2682, k2683, Sv2684, s, d⟩ u hd2763
    refine wp_seq (sz0 4 s rfl fun a s => ?_)
    refine cd s u rfl (fun u => ?_) fun u => ?_
    ·refine sk (wp_seq (wp_block (wp_seq ?_)))
     obtain ⟨x2850, h2848, u⟩ := bt u
     obtain ⟨b2857, q2854, c2855, h2858, h2851, h2852, h2856, h2849⟩ := d.elemRV (α := Record) 0 rfl 0 rfl h2848
     have hsv2859 := s
     have hwv2860 := d
     subst h2858
     have s := hsv2859
     have d := hwv2860
     obtain ⟨_, _, _, _, _, _, _, _, _, _, _, _, rfl, rfl, rfl, rfl, rfl, rfl, rfl, rfl, rfl, rfl, rfl, rfl, ⟨p2861, n2862, k2863, rfl, h2864⟩⟩ := h2849
     obtain rfl := h2864.1
     have d := d.addE (e := SlA p2861 _ k2863 x2850.Samples) h2864
     obtain ⟨x2867, h2865, u⟩ := bt u
     obtain ⟨q2871, c2872, h2868, h2869, h2873, h2866⟩ := d.elemRK (α := Record) 0 rfl 1 rfl h2865
     obtain ⟨_, _, _, _, _, _, _, _, _, _, _, _, rfl, rfl, rfl, rfl, rfl, rfl, rfl, rfl, rfl, rfl, rfl, rfl, ⟨p2874, n2875, k2876, rfl, h2877⟩⟩ := h2866
     obtain rfl := h2877.1
     have d := d.addE (e := SlA p2874 _ k2876 x2867.Samples) h2877
     obtain ⟨rv2879, h2878, u⟩ := bt u
     refine wp_only (fun a w => ∃ Sv2880, Sl 119 [(4, sl (ad b2857) k17 rv15), (5, sl p1271 k1272 sv25.1), (6, iv sv25.2), (7, sl p2682 k2683 sv2521.1), (8, iv sv2521.2), (41, .bool rv2879)] a ∧ Wd ⟨w0, S0, []⟩ Sv2880 [.row (ad b2857) rv15.length k17 c19 35 12, .row p1271 sv25.1.length k1272 c1270 35 12, .row p2682 sv2521.1.length k2683 c2681 45 2] [RowA c19 rv15, RowA c1270 sv25.1, RowA c2681 sv2521.1] w) ?_ ?_
     ·refine h_c [0, 1, 2] [] d rfl rfl (by kernel_rfl) rfl fun hC d => ?_
      refine gn 2 [0, 1] [] s hC rfl rfl rfl fun a s => ?_
      refine gx s 2 rfl trivial rfl hC runUnderlying27 sizeOf35 rfl rfl h2851 h2852 fun a s => ?_
      refine gv s 3 rfl rfl hC (fun w hC => y_loadQA (j := 0) (hC.ownAt 0 rfl) rfl isAgg35 sizeOf35 h2856 rfl rfl) fun a s => ?_
      refine gn 2 [4, 5] [] s hC rfl rfl rfl fun a s => ?_
      refine gx s 6 rfl trivial rfl hC runUnderlying27 sizeOf35 rfl rfl h2868 h2869 fun a s => ?_
      refine gv s 7 rfl rfl hC (fun w hC => y_loadQA (j := 0) (hC.ownAt 0 rfl) rfl isAgg35 sizeOf35 h2873 rfl rfl) fun a s => ?_
      refine ho 8 rfl ?_
      refine cV s d (ref14_Better_ok h2878 d.bdom (d.bE 1 rfl) (d.bE 0 rfl)) (do_call call29 rfl) rfl fun a w s d => ?_
      refine h_n [0, 1, 2] [] d rfl rfl fun hC => ?_
      refine h_done (by kernel_rfl) ?_
      exact ⟨Sv2684, wj s d [0, 1, 2] [2, 3, 4]⟩
     rintro a w ⟨Sv2880, s, d⟩
     refine tn (wp_join (fun a w => ∃ (better2927 : (List Span)) (c2923 p2924 k2925 Sv2926 : _), ref15_Compose_j1 sv2521 better2927 = some tv2764 ∧ Sl 119 [(4, sl (ad b2857) k17 rv15), (5, sl p1271 k1272 sv25.1), (6, iv sv25.2), (7, sl p2924 k2925 better2927), (8, iv sv2521.2)] a ∧ Wd ⟨w0, S0, []⟩ Sv2926 [.row (ad b2857) rv15.length k17 c19 35 12, .row p1271 sv25.1.length k1272 c1270 35 12, .row p2924 better2927.length k2925 c2923 45 2] [RowA c19 rv15, RowA c1270 sv25.1, RowA c2923 better2927] w) ?_ ?_)
     ·refine cd s u rfl (fun u => ?_) fun u => ?_
      ·refine sn0 2 s rfl fun a s => ?_
       obtain ⟨x2933, h2931, u⟩ := bt u
       obtain ⟨q2937, c2938, h2934, h2935, h2939, h2932⟩ := d.elemRK (α := Record) 0 rfl 0 rfl h2931
       obtain ⟨_, _, _, _, _, _, _, _, _, _, _, _, rfl, rfl, rfl, rfl, rfl, rfl, rfl, rfl, rfl, rfl, rfl, rfl, ⟨p2940, n2941, k2942, rfl, h2943⟩⟩ := h2932
       obtain rfl := h2943.1
       have d := d.addE (e := SlA p2940 _ k2942 x2933.Samples) h2943
       refine sv s (y_indexAt runUnderlying27 sizeOf35 rfl rfl h2934.1 h2934.2 h2935) rfl fun a s => ?_
       refine sv s (y_loadQA (j := 0) (d.ownAt 0 rfl) rfl isAgg35 sizeOf35 h2939 rfl rfl) rfl fun a s => ?_
       obtain ⟨rv2945, h2944, u⟩ := bt u
       refine cV s d (ref14_Span_ok h2944 d.bdom (d.bE 0 rfl)) (do_call call22 rfl) rfl fun a w s d => ?_
       refine rn0 3 s rfl fun a s => ?_
       refine wa [iv 0, iv 0] s d zeroValue45 fun b2951 a w s d => ?_
       refine ws (C45 rv2945.1) s d 0 rfl rfl rfl sizeOf45 fun a w s d => ?_
       refine rz0 1 s rfl fun a s => ?_
       refine wp_region_lit (rn 2 [0] s d rfl rfl fun a s => ?_)
       refine w_litSlice (α := Span) (vs := [V45 rv2945.1]) (cs := (C45 rv2945.1)) (xs := ([rv2945.1] : List Span)) s d El52 rfl rfl rfl rfl rfl rfl ⟨⟨_, _, rfl, rfl, rfl⟩, rfl⟩ rfl trivial rfl fun b2953 a w s d => ?_
       obtain ⟨rv2955, h2954, u⟩ := bt u
       obtain ⟨Sv2960, d⟩ := w_share (α := Span) d 4 rfl 4 rfl
       obtain ⟨Sv2961, d⟩ := w_share (α := Span) d 0 rfl 1 rfl
       refine cR s (ref08_Union_ok h2954 d.dom (d.envAt 1 rfl) (d.envAt 0 rfl)) (do_call call27 rfl) rfl ?_
       rintro v2965 Sv2962 w a h2963 ⟨p2956, k2957, c2959, rfl, h2966, h2958⟩ s
       have d := (d.callN h2963 h2966).addE (e := RowA c2959 rv2955) h2958
       refine rz0 1 s rfl fun a s => ?_
       exact ⟨rv2955, c2959, p2956, k2957, Sv2962, u, wj s d [2, 3, 0] [5, 6, 0]⟩
      exact sk ⟨sv2521.1, c2681, p2682, k2683, Sv2880, u, wj s d [0, 1, 2] [0, 1, 2]⟩
     rintro a w ⟨better2927, c2923, p2924, k2925, Sv2926, u, s, d⟩
     refine blk_normal (tn (wp_region_lit (rn0 2 s rfl fun a s => ?_)))
     obtain ⟨k2929, h2928, u⟩ := bt u
     refine sv s (y_assignI rfl h2928) rfl fun a s => ?_
     exact nl ⟨_, io u, c2923, p2924, k2925, Sv2926, wj s d [0, 1, 2] [0, 1, 2]⟩
    refine wp_exit (then_exit (then_exit (blk_exit ?_)))
    obtain rfl := oi u
    have h2967 := hd2763 _ rfl
    subst h2967
    exact tn ⟨c2681, p2682, k2683, Sv2684, wj s d [0, 1, 2] [0, 1, 2]⟩
   rintro a w ⟨c2767, p2768, k2769, Sv2770, s, d⟩
   refine tn (sz0 1 s rfl fun a s => ?_)
   refine sz0 1 s rfl fun a s => ?_
   obtain ⟨e3330, h3640, u⟩ := bt u
   refine wp_join (fun a w => ∃ c3331 p3332 k3333 Sv3334, Sl 119 [(4, sl p16 k17 rv15), (5, sl p3332 k3333 e3330), (6, iv sv25.2)] a ∧ Wd ⟨w0, S0, []⟩ Sv3334 [.row p16 rv15.length k17 c19 35 12, .row p3332 e3330.length k3333 c3331 35 12] [RowA c19 rv15, RowA c3331 e3330] w) ?_ ?_
   ·refine wp_block ?_
    obtain ⟨Sv3328, d⟩ := w_share (α := Span) d 2 rfl 2 rfl
    refine wp_while (fun sv2968 a w => ∃ c3206 p3207 k3208 Sv3209, Sl 119 [(4, sl p16 k17 rv15), (5, sl p3207 k3208 sv2968.1), (6, iv sv25.2), (7, sl p2768 k2769 e2766), (11, iv sv2968.2.1), (12, iv sv2968.2.2)] a ∧ Wd ⟨w0, S0, []⟩ Sv3209 [.row p16 rv15.length k17 c19 35 12, .row p3207 sv2968.1.length k3208 c3206 35 12] [Sq p2768 k2769 e2766, RowA c19 rv15, RowA c3206 sv2968.1] w) (sv25.1, (-1), 0) h3640 ⟨c1270, p1271, k1272, Sv3328, wj s d [0, 1] [0, 1, 2]⟩ ?_
    clear h3640
    repeat clear u
    rintro sv2968 a w tv3327 ⟨c3206, p3207, k3208, Sv3209, s, d⟩ u hd3326
    refine wp_seq (sn0 3 s rfl fun a s => ?_)
    obtain ⟨x3337, h3335, u⟩ := bt u
    obtain ⟨b3344, q3341, c3342, h3345, h3338, h3339, h3343, h3336⟩ := d.elemRV (α := Record) 0 rfl 1 rfl h3335
    have hsv3346 := s
    have hwv3347 := d
    subst h3345
    have s := hsv3346
    have d := hwv3347
    obtain ⟨_, _, _, _, _, _, _, _, _, _, _, _, rfl, rfl, rfl, rfl, rfl, rfl, rfl, rfl, rfl, rfl, rfl, rfl, ⟨p3348, n3349, k3350, rfl, h3351⟩⟩ := h3336
    obtain rfl := h3351.1
    have d := d.addE (e := SlA p3348 _ k3350 x3337.Samples) h3351
    refine sv s (y_indexAt runUnderlying27 sizeOf35 rfl rfl h3338.1 h3338.2 h3339) rfl fun a s => ?_
    refine sv s (y_fieldAddr (o' := q3341 + 11) runUnderlying35 rfl sizeOf22 rfl rfl rfl) rfl fun a s => ?_
    refine sv s (y_loadQ1 (j := 11) (d.ownAt 0 rfl) rfl isAgg22 h3343 rfl) rfl fun a s => ?_
    refine rz0 2 s rfl fun a s => ?_
    refine cd s u rfl (fun u => ?_) fun u => ?_
    ·refine sk (wp_seq (wp_block (wp_seq ?_)))
     obtain ⟨x3452, h3450, u⟩ := bt u
     obtain ⟨q3456, c3457, h3453, h3454, h3458, h3451⟩ := d.elemRK (α := Record) 0 rfl 2 rfl h3450
     obtain ⟨_, _, _, _, _, _, _, _, _, _, _, _, rfl, rfl, rfl, rfl, rfl, rfl, rfl, rfl, rfl, rfl, rfl, rfl, ⟨p3459, n3460, k3461, rfl, h3462⟩⟩ := h3451
     obtain rfl := h3462.1
     have d := d.addE (e := SlA p3459 _ k3461 x3452.Samples) h3462
     obtain ⟨c3499, hc3499, u⟩ := bt u
     refine wp_only (fun a w => ∃ Sv3500, Sl 119 [(4, sl (ad b3344) k17 rv15), (5, sl p3207 k3208 sv2968.1), (6, iv sv25.2), (7, sl p2768 k2769 e2766), (11, iv sv2968.2.1), (12, iv sv2968.2.2), (13, .bool c3499)] a ∧ Wd ⟨w0, S0, []⟩ Sv3500 [.row (ad b3344) rv15.length k17 c19 35 12, .row p3207 sv2968.1.length k3208 c3206 35 12] [Sq p2768 k2769 e2766, RowA c19 rv15, RowA c3206 sv2968.1] w) ?_ ?_
     ·rcases Bool.eq_false_or_eq_true (decide (sv2968.2.2 < (x3452.Samples.length : Int))) with h3501 | h3501
      ·have h3502 := ite_t hc3499 h3501
       obtain ⟨x3505, h3503, h3502⟩ := bind_t h3502
       obtain ⟨q3509, c3510, h3506, h3507, h3511, h3504⟩ := d.elemRK (α := Record) 0 rfl 3 rfl h3503
       obtain ⟨_, _, _, _, _, _, _, _, _, _, _, _, rfl, rfl, rfl, rfl, rfl, rfl, rfl, rfl, rfl, rfl, rfl, rfl, ⟨p3512, n3513, k3514, rfl, h3515⟩⟩ := h3504
       obtain rfl := h3515.1
       have d := d.addE (e := SlA p3512 _ k3514 x3505.Samples) h3515
       obtain ⟨rv3517, h3516, h3502⟩ := bind_t h3502
       obtain ⟨x3520, h3518, h3502⟩ := bind_t h3502
       obtain ⟨q3524, c3525, h3521, h3522, h3526, h3519⟩ := d.elemRK (α := Record) 0 rfl 4 rfl h3518
       obtain ⟨_, _, _, _, _, _, _, _, _, _, _, _, rfl, rfl, rfl, rfl, rfl, rfl, rfl, rfl, rfl, rfl, rfl, rfl, ⟨p3527, n3528, k3529, rfl, h3530⟩⟩ := h3519
       obtain rfl := h3530.1
       have d := d.addE (e := SlA p3527 _ k3529 x3520.Samples) h3530
       obtain ⟨rv3532, h3531, h3502⟩ := bind_t h3502
       obtain ⟨rv3534, h3533, h3502⟩ := bind_t h3502
       refine h_c [0, 1] [] d rfl rfl (by kernel_rfl) rfl fun hC d => ?_
       refine gn 3 [0, 1, 2] [] s hC rfl rfl rfl fun a s => ?_
       refine gx s 3 rfl trivial rfl hC runUnderlying27 sizeOf35 rfl rfl h3453 h3454 fun a s => ?_
       refine gv s 4 rfl rfl hC (fun w hC => y_fieldAddr (o' := q3456 + 11) runUnderlying35 rfl sizeOf22 rfl rfl rfl) fun a s => ?_
       refine gv s 5 rfl rfl hC (fun w hC => y_loadQ1 (j := 11) (hC.ownAt 0 rfl) rfl isAgg22 h3458 rfl) fun a s => ?_
       refine gn 3 [6, 7, 8] [] s hC rfl rfl rfl fun a s => ?_
       have s := s.bT 72 rfl h3501
       refine gn 3 [9, 10, 11] [] s hC rfl rfl rfl fun a s => ?_
       refine gx s 12 rfl ⟨_, rfl, rfl⟩ rfl hC runUnderlying27 sizeOf35 rfl rfl h3506 h3507 fun a s => ?_
       refine gt s 13 rfl ⟨_, rfl, rfl⟩ rfl hC (fun w hC => y_loadQA (j := 0) (hC.ownAt 0 rfl) rfl isAgg35 sizeOf35 h3511 rfl rfl) fun a s => ?_
       refine gn 3 [14, 16, 17] [] s hC rfl rfl rfl fun a s => ?_
       refine gx s 18 rfl ⟨_, rfl, rfl⟩ rfl hC runUnderlying27 sizeOf35 rfl rfl h3521 h3522 fun a s => ?_
       refine gt s 19 rfl ⟨_, rfl, rfl⟩ rfl hC (fun w hC => y_loadQA (j := 0) (hC.ownAt 0 rfl) rfl isAgg35 sizeOf35 h3526 rfl rfl) fun a s => ?_
       refine gn 2 [20, 21] [] s hC rfl rfl rfl fun a s => ?_
       refine ho 15 rfl ?_
       refine st_callR s (ref14_Time_ok h3516 d.bdom (d.bE 1 rfl)) (do_call call52 rfl) ⟨_, rfl, rfl⟩ rfl rfl ?_
       rintro v3542 Sv3539 w a h3540 rfl s
       have d := d.callB h3540
       refine h_n [0, 1] [] d rfl rfl fun hC => ?_
       refine ho 22 rfl ?_
       refine st_callR s (ref14_Time_ok h3531 d.bdom (d.bE 0 rfl)) (do_call call52 rfl) ⟨_, rfl, rfl⟩ rfl rfl ?_
       rintro v3547 Sv3544 w a h3545 rfl s
       have d := d.callB h3545
       refine h_n [0, 1] [] d rfl rfl fun hC => ?_
       refine ho 23 rfl ?_
       refine st_callR s (ref08_Cut_ok h3533 d.dom (d.envAt 4 rfl)) (do_call call25 rfl) ⟨_, rfl, rfl⟩ rfl rfl ?_
       rintro v3552 Sv3549 w a h3550 ⟨p3535, k3536, c3538, rfl, h3553, h3537⟩ s
       have d := (d.callN h3550 h3553).addE (e := RowA c3538 rv3534) h3537
       refine h_n [1, 2] [] d rfl rfl fun hC => ?_
       refine h_d [1, 2, 0] [] [0, 1] [] d rfl rfl rfl rfl fun hC => ?_
       refine gn 2 [24, 25] [] s hC rfl rfl rfl fun a s => ?_
       refine gT s 26 rfl rfl hC rfl rfl h3502 fun a s => ?_
       refine gv s 27 rfl rfl hC (fun w hC => y_assign rfl) fun a s => ?_
       refine h_done (by kernel_rfl) ?_
       exact ⟨Sv3549, wj s d [1, 2] [5, 6, 7]⟩
      have h3554 := ite_f hc3499 h3501
      refine h_c [0, 1] [] d rfl rfl (by kernel_rfl) rfl fun hC d => ?_
      refine gn 3 [0, 1, 2] [] s hC rfl rfl rfl fun a s => ?_
      refine gx s 3 rfl trivial rfl hC runUnderlying27 sizeOf35 rfl rfl h3453 h3454 fun a s => ?_
      refine gv s 4 rfl rfl hC (fun w hC => y_fieldAddr (o' := q3456 + 11) runUnderlying35 rfl sizeOf22 rfl rfl rfl) fun a s => ?_
      refine gv s 5 rfl rfl hC (fun w hC => y_loadQ1 (j := 11) (hC.ownAt 0 rfl) rfl isAgg22 h3458 rfl) fun a s => ?_
      refine gn 3 [6, 7, 8] [] s hC rfl rfl rfl fun a s => ?_
      have s := s.bF 72 rfl h3501
      refine gn 17 [9, 10, 11, 12, 13, 14, 15, 16, 17, 18, 19, 20, 21, 22, 23, 24, 25] [] s hC rfl rfl rfl fun a s => ?_
      refine gF s 26 rfl rfl hC rfl rfl h3554 fun a s => ?_
      refine gv s 27 rfl rfl hC (fun w hC => y_assign rfl) fun a s => ?_
      refine h_done (by kernel_rfl) ?_
      exact ⟨Sv3209, wj s d [0, 1] [2, 3, 4]⟩
     rintro a w ⟨Sv3500, s, d⟩
     refine tn (wp_seq (sn0 2 s rfl fun a s => ?_))
     refine rA 3 92 [] s d rfl rfl rfl rfl rfl fun a s => ?_
     refine nl (wp_join (fun a w => ∃ (first3558 : Int) (Sv3557 : _), ref15_Compose_j3 rv15 sv25 sv2968 c3499 first3558 = some tv3327 ∧ Sl 119 [(4, sl (ad b3344) k17 rv15), (5, sl p3207 k3208 sv2968.1), (6, iv sv25.2), (7, sl p2768 k2769 e2766), (11, iv first3558), (12, iv sv2968.2.2), (13, .bool c3499)] a ∧ Wd ⟨w0, S0, []⟩ Sv3557 [.row (ad b3344) rv15.length k17 c19 35 12, .row p3207 sv2968.1.length k3208 c3206 35 12] [Sq p2768 k2769 e2766, RowA c19 rv15, RowA c3206 sv2968.1] w) ?_ ?_)
     ·refine cd s u rfl (fun u => ?_) fun u => ?_
      ·refine wp_region_lit (rz0 2 s rfl fun a s => ?_)
       exact ⟨sv2968.2.2, Sv3500, u, wj s d [0, 1] [0, 1, 2]⟩
      exact sk ⟨sv2968.2.1, Sv3500, u, wj s d [0, 1] [0, 1, 2]⟩
     rintro a w ⟨first3558, Sv3557, u, s, d⟩
     refine tn (sn0 3 s rfl fun a s => ?_)
     refine rA 3 99 [] s d rfl rfl rfl rfl rfl fun a s => ?_
     refine nl (wp_join (fun a w => ∃ (out3598 : (List Record)) (first3599 : Int) (c3594 p3595 k3596 Sv3597 : _), ref15_Compose_j4 sv2968 out3598 first3599 = some tv3327 ∧ Sl 119 [(4, sl (ad b3344) k17 rv15), (5, sl p3595 k3596 out3598), (6, iv sv25.2), (7, sl p2768 k2769 e2766), (11, iv first3599), (12, iv sv2968.2.2)] a ∧ Wd ⟨w0, S0, []⟩ Sv3597 [.row (ad b3344) rv15.length k17 c19 35 12, .row p3595 out3598.length k3596 c3594 35 12] [Sq p2768 k2769 e2766, RowA c19 rv15, RowA c3594 out3598] w) ?_ ?_)
     ·refine cd s u rfl (fun u => ?_) fun u => ?_
      ·refine sn0 2 s rfl fun a s => ?_
       obtain ⟨x3605, h3603, u⟩ := bt u
       obtain ⟨q3609, c3610, h3606, h3607, h3611, h3604⟩ := d.elemRK (α := Record) 0 rfl 1 rfl h3603
       obtain ⟨_, _, _, _, _, _, _, _, _, _, _, _, rfl, rfl, rfl, rfl, rfl, rfl, rfl, rfl, rfl, rfl, rfl, rfl, ⟨p3612, n3613, k3614, rfl, h3615⟩⟩ := h3604
       obtain rfl := h3615.1
       have d := d.addE (e := SlA p3612 _ k3614 x3605.Samples) h3615
       refine sv s (y_indexAt runUnderlying27 sizeOf35 rfl rfl h3606.1 h3606.2 h3607) rfl fun a s => ?_
       refine sv s (y_loadQA (j := 0) (d.ownAt 0 rfl) rfl isAgg35 sizeOf35 h3611 rfl rfl) rfl fun a s => ?_
       refine rn0 2 s rfl fun a s => ?_
       obtain ⟨rv3617, h3616, u⟩ := bt u
       refine cR s (ref14_Sub_ok h3616 d.dom (d.envAt 0 rfl)) (do_call call28 rfl) rfl ?_
       rintro v3625 Sv3622 w a h3623 ⟨p3618, k3619, c3621, rfl, h3626, h3620⟩ s
       have d := (d.callN h3623 h3626).addE (e := RowA c3621 rv3617.1.Samples) h3620
       refine rn0 3 s rfl fun a s => ?_
       refine wa Z4 s d zeroValue35 fun b3627 a w s d => ?_
       refine ws (C35 rv3617.1 p3618 k3619) s d 0 rfl rfl rfl sizeOf35 fun a w s d => ?_
       refine rz0 1 s rfl fun a s => ?_
       refine sn 2 [0] s d rfl rfl fun a s => ?_
       obtain ⟨Sv3630, d⟩ := w_share (α := Int) d 1 rfl 0 rfl
       refine w_litSlice (α := Record) (vs := [V35 rv3617.1 p3618 k3619]) (cs := (C35 rv3617.1 p3618 k3619)) (xs := ([rv3617.1] : List Record)) s d El27 rfl rfl rfl rfl rfl rfl ⟨⟨_, _, _, _, _, _, _, _, _, _, _, _, rfl, rfl, rfl, rfl, rfl, rfl, rfl, rfl, rfl, rfl, rfl, rfl, ⟨_, _, _, rfl, d.envAt 0 rfl⟩⟩, rfl⟩ rfl trivial rfl fun b3629 a w s d => ?_
       obtain ⟨l3632, h3631, u⟩ := bt u
       refine w_appendR (α := Record) s d El27 3 rfl rfl rfl 6 rfl 0 rfl 0 rfl h3631 rfl trivial ?_
       intro p3633 k3634 c3635 a w s d
       refine rz0 1 s rfl fun a s => ?_
       refine wp_region_lit (rz0 1 s rfl fun a s => ?_)
       exact ⟨l3632, (-1), c3635, p3633, k3634, Sv3630, u, wj s d [2, 3] [5, 6, 0]⟩
      exact sk ⟨sv2968.1, first3558, c3206, p3207, k3208, Sv3557, u, wj s d [0, 1] [0, 1, 2]⟩
     rintro a w ⟨out3598, first3599, c3594, p3595, k3596, Sv3597, u, s, d⟩
     refine blk_normal (tn (wp_region_lit (rn0 2 s rfl fun a s => ?_)))
     obtain ⟨j3601, h3600, u⟩ := bt u
     refine sv s (y_assignI rfl h3600) rfl fun a s => ?_
     exact nl ⟨_, io u, c3594, p3595, k3596, Sv3597, wj s d [0, 1] [0, 1, 2]⟩
    refine wp_exit (then_exit (then_exit (blk_exit ?_)))
    obtain rfl := oi u
    have h3637 := hd3326 _ rfl
    subst h3637
    exact tn ⟨c3206, p3207, k3208, Sv3209, wj s d [0, 1] [2, 3]⟩
   rintro a w ⟨c3331, p3332, k3333, Sv3334, s, d⟩
   refine blk_normal (tn (wp_region_lit (rn0 2 s rfl fun a s => ?_)))
   obtain ⟨i3639, h3638, u⟩ := bt u
   refine sv s (y_assignI rfl h3638) rfl fun a s => ?_
   exact nl ⟨_, io u, c3331, p3332, k3333, Sv3334, wj s d [0, 1] [0, 1]⟩
  refine wp_exit (then_exit (then_exit (blk_exit ?_)))
  obtain rfl := oi u
  have h3642 := hd1894 _ rfl
  subst h3642
  exact tn ⟨c1270, p1271, k1272, Sv1273, wj s d [1] [1]⟩
 rintro a w ⟨c1898, p1899, k1900, Sv1901, s, d⟩
 refine tn (sn0 1 s rfl fun a s => ?_)
 obtain ⟨rv3644, h3643, u⟩ := bt u
 obtain ⟨Sv3649, d⟩ := w_share (α := Record) d 0 rfl 0 rfl
 refine cR s (ref15_order_ok h3643 d.dom (d.envAt 0 rfl)) (do_call call66 rfl) rfl ?_
 rintro v3653 Sv3650 w a h3651 ⟨p3645, k3646, c3648, rfl, h3654, h3647⟩ s
 have d := (d.callN h3651 h3654).addE (e := RowA c3648 rv3644) h3647
 refine rz0 2 s rfl fun a s => ?_
 obtain rfl := oi u
 exact wp_ret (ret2 s rfl (rv_tmp rfl) (rv_tmp rfl) (d.ret ⟨p3645, k3646, c3648, rfl, (d.outs [0] (by decide) rfl), (d.envAt 0 rfl)⟩))
abbrev compose_Covered_rd (w0 : World) (X : List Nat) (r : ((List Span) × Int)) : Rd := fun S w v => ∃ p0_0 k0_0 c0_0, v = .tuple #[sl p0_0 k0_0 r.1, iv r.2] ∧ Outs X w0 S w [.row p0_0 r.1.length k0_0 c0_0 45 2] ∧ (RowA c0_0 r.1).p S w
theorem compose_Covered_ok {w0 S0 p2 k3 l1 r} (u : compose_Covered l1 = some r) (hS : Dm S0 w0) (h4 : (Sq p2 k3 l1).p S0 w0) : Ck Tryz.prog 31 #[sl p2 k3 l1] w0 S0 [] compose_Covered_rd r := by
 refine en 24 func31 rfl hS rfl rfl rfl fun a s d => ?_
 have d := d.addE h4
 refine sz0 2 s rfl fun a s => ?_
 refine wp_seq (sn0 1 s rfl fun a s => ?_)
 obtain ⟨rv6, h5, u⟩ := bt u
 refine cV s d (compose_Valid_ok h5 d.bdom (d.bE 0 rfl)) (do_call call41 rfl) rfl fun a w s d => ?_
 refine rz0 1 s rfl fun a s => ?_
 refine cd s u rfl (fun u => ?_) fun u => ?_
 ·refine sz0 2 s rfl fun a s => ?_
  obtain rfl := oi u
  have d := d.nilRow Span 45
  exact wp_ret (then_ret (ret2 s rfl (rv_tmp rfl) (rv_tmp rfl) (d.ret ⟨none, 0, [], rfl, (d.outs [0] (by decide) rfl), (d.envAt 0 rfl)⟩)))
 refine sk (sz0 1 s rfl fun a s => ?_)
 refine wp_seq (sz0 3 s rfl fun a s => ?_)
 obtain ⟨e125, h209, u⟩ := bt u
 refine wp_join (fun a w => ∃ c126 p127 k128 Sv129, Sl 24 [(4, sl p127 k128 e125)] a ∧ Wd ⟨w0, S0, []⟩ Sv129 [.row p127 e125.length k128 c126 45 2] [RowA c126 e125] w) ?_ ?_
 ·refine wp_block ?_
  have d := d.nilRow Span 45
  refine wp_while (fun sv14 a w => ∃ c85 p86 k87 Sv88, Sl 24 [(4, sl p86 k87 sv14.1), (10, sl p2 k3 l1), (11, iv (l1.length : Int)), (12, iv sv14.2)] a ∧ Wd ⟨w0, S0, []⟩ Sv88 [.row p86 sv14.1.length k87 c85 45 2] [Sq p2 k3 l1, RowA c85 sv14.1] w) (([] : List Span), 0) h209 ⟨[], none, 0, S0, wj s d [0] [1, 0]⟩ ?_
  clear h209
  repeat clear u
  rintro sv14 a w tv123 ⟨c85, p86, k87, Sv88, s, d⟩ u hd122
  refine sz0 1 s rfl fun a s => ?_
  refine wp_seq (cd s u rfl (fun u => ?_) fun u => ?_)
  ·refine sk (wp_seq (wp_block (sr ?_)))
   obtain ⟨x166, h164, u⟩ := bt u
   obtain ⟨b172, o173, q170, c171, h174, h167, h168, h169, h165⟩ := d.elemV 0 rfl h164
   have hsv175 := s
   have hwv176 := d
   subst h174
   have s := hsv175
   have d := hwv176
   obtain ⟨_, _, _, _, _, _, _, _, _, _, _, _, rfl, rfl, rfl, rfl, rfl, rfl, rfl, rfl, rfl, rfl, rfl, rfl, ⟨p177, n178, k179, rfl, h180⟩⟩ := h165
   obtain rfl := h180.1
   have d := (d.addE (e := SlA p177 _ k179 x166.Samples) h180).addE h169
   refine sv s (y_indexAt runUnderlying27 sizeOf35 rfl rfl h167.1 h167.2 h168) rfl fun a s => ?_
   refine sv s (y_loadEA (j := 0) (d.ceAt 0 rfl) rfl isAgg35 sizeOf35 rfl rfl) rfl fun a s => ?_
   refine wa Z4 s d zeroValue35 fun b181 a w s d => ?_
   refine ws (C35 x166 p177 k179) s d 0 rfl rfl rfl sizeOf35 fun a w s d => ?_
   refine nl (wp_region_lit (rn 2 [0] s d rfl rfl fun a s => ?_))
   obtain ⟨rv183, h182, u⟩ := bt u
   refine cV s d (compose_extent_ok h182 d.bdom (d.bE 1 rfl)) (do_call call59 rfl) rfl fun a w s d => ?_
   refine w_litSlice (α := Span) (vs := [V45 rv183]) (cs := (C45 rv183)) (xs := ([rv183] : List Span)) s d El52 rfl rfl rfl rfl rfl rfl ⟨⟨_, _, rfl, rfl, rfl⟩, rfl⟩ rfl trivial rfl fun b190 a w s d => ?_
   obtain ⟨l192, h191, u⟩ := bt u
   refine w_appendR (α := Span) s d El52 2 rfl rfl rfl 4 rfl 0 rfl 0 rfl h191 rfl trivial ?_
   intro p193 k194 c195 a w s d
   refine av s rfl rfl fun a s => ?_
   refine wpList_nil ?_
   refine blk_normal (tn (wp_region_lit (rz0 2 s rfl fun a s => ?_)))
   exact ⟨_, io u, c195, p193, k194, Sv88, wj s d [2] [4, 0]⟩
  refine wp_exit (then_exit (then_exit (blk_exit ?_)))
  obtain rfl := oi u
  have h196 := hd122 _ rfl
  subst h196
  exact tn ⟨c85, p86, k87, Sv88, wj s d [0] [1]⟩
 rintro a w ⟨c126, p127, k128, Sv129, s, d⟩
 refine tn (sn0 1 s rfl fun a s => ?_)
 obtain ⟨rv198, h197, u⟩ := bt u
 obtain ⟨Sv203, d⟩ := w_share (α := Span) d 0 rfl 0 rfl
 refine cR s (span_Normal_ok h197 d.dom (d.envAt 0 rfl)) (do_call call60 rfl) rfl ?_
 rintro v207 Sv204 w a h205 ⟨p199, k200, c202, rfl, h208, h201⟩ s
 have d := (d.callN h205 h208).addE (e := RowA c202 rv198) h201
 refine rz0 2 s rfl fun a s => ?_
 obtain rfl := oi u
 exact wp_ret (ret2 s rfl (rv_tmp rfl) (rv_tmp rfl) (d.ret ⟨p199, k200, c202, rfl, (d.outs [0] (by decide) rfl), (d.envAt 0 rfl)⟩))
theorem ref15_Covered_ok {w0 S0 p2 k3 l1 r} (u : ref15_Covered l1 = some r) (hS : Dm S0 w0) (h4 : (Sq p2 k3 l1).p S0 w0) : Ck Tryz.prog 40 #[sl p2 k3 l1] w0 S0 [] compose_Covered_rd r := by
 refine en 31 func40 rfl hS rfl rfl rfl fun a s d => ?_
 have d := d.addE h4
 refine sz0 2 s rfl fun a s => ?_
 refine wp_seq (sn0 1 s rfl fun a s => ?_)
 obtain ⟨rv6, h5, u⟩ := bt u
 refine cV s d (ref15_Valid_ok h5 d.bdom (d.bE 0 rfl)) (do_call call42 rfl) rfl fun a w s d => ?_
 refine rz0 1 s rfl fun a s => ?_
 refine cd s u rfl (fun u => ?_) fun u => ?_
 ·refine sz0 2 s rfl fun a s => ?_
  obtain rfl := oi u
  have d := d.nilRow Span 45
  exact wp_ret (then_ret (ret2 s rfl (rv_tmp rfl) (rv_tmp rfl) (d.ret ⟨none, 0, [], rfl, (d.outs [0] (by decide) rfl), (d.envAt 0 rfl)⟩)))
 refine sk (sz0 1 s rfl fun a s => ?_)
 refine wp_seq (sz0 1 s rfl fun a s => ?_)
 obtain ⟨e131, h217, u⟩ := bt u
 refine wp_join (fun a w => ∃ c132 p133 k134 Sv135, Sl 31 [(4, sl p133 k134 e131)] a ∧ Wd ⟨w0, S0, []⟩ Sv135 [.row p133 e131.length k134 c132 45 2] [RowA c132 e131] w) ?_ ?_
 ·refine wp_block ?_
  have d := d.nilRow Span 45
  refine wp_while (fun sv14 a w => ∃ c89 p90 k91 Sv92, Sl 31 [(0, sl p2 k3 l1), (4, sl p90 k91 sv14.1), (5, iv sv14.2)] a ∧ Wd ⟨w0, S0, []⟩ Sv92 [.row p90 sv14.1.length k91 c89 45 2] [Sq p2 k3 l1, RowA c89 sv14.1] w) (([] : List Span), 0) h217 ⟨[], none, 0, S0, wj s d [0] [1, 0]⟩ ?_
  clear h217
  repeat clear u
  rintro sv14 a w tv129 ⟨c89, p90, k91, Sv92, s, d⟩ u hd128
  refine wp_seq (sz0 4 s rfl fun a s => ?_)
  refine cd s u rfl (fun u => ?_) fun u => ?_
  ·refine sk (wp_seq (wp_block (sn0 2 s rfl fun a s => ?_)))
   obtain ⟨x172, h170, u⟩ := bt u
   obtain ⟨b178, o179, q176, c177, h180, h173, h174, h175, h171⟩ := d.elemV 0 rfl h170
   have hsv181 := s
   have hwv182 := d
   subst h180
   have s := hsv181
   have d := hwv182
   obtain ⟨_, _, _, _, _, _, _, _, _, _, _, _, rfl, rfl, rfl, rfl, rfl, rfl, rfl, rfl, rfl, rfl, rfl, rfl, ⟨p183, n184, k185, rfl, h186⟩⟩ := h171
   obtain rfl := h186.1
   have d := (d.addE (e := SlA p183 _ k185 x172.Samples) h186).addE h175
   refine sv s (y_indexAt runUnderlying27 sizeOf35 rfl rfl h173.1 h173.2 h174) rfl fun a s => ?_
   refine sv s (y_loadEA (j := 0) (d.ceAt 0 rfl) rfl isAgg35 sizeOf35 rfl rfl) rfl fun a s => ?_
   obtain ⟨rv188, h187, u⟩ := bt u
   refine cV s d (ref14_Span_ok h187 d.bdom (d.bE 1 rfl)) (do_call call22 rfl) rfl fun a w s d => ?_
   refine rn0 3 s rfl fun a s => ?_
   refine wa [iv 0, iv 0] s d zeroValue45 fun b194 a w s d => ?_
   refine ws (C45 rv188.1) s d 0 rfl rfl rfl sizeOf45 fun a w s d => ?_
   refine rz0 1 s rfl fun a s => ?_
   refine wp_region_lit (rn 2 [0] s d rfl rfl fun a s => ?_)
   refine w_litSlice (α := Span) (vs := [V45 rv188.1]) (cs := (C45 rv188.1)) (xs := ([rv188.1] : List Span)) s d El52 rfl rfl rfl rfl rfl rfl ⟨⟨_, _, rfl, rfl, rfl⟩, rfl⟩ rfl trivial rfl fun b196 a w s d => ?_
   obtain ⟨l198, h197, u⟩ := bt u
   refine w_appendR (α := Span) s d El52 2 rfl rfl rfl 4 rfl 0 rfl 0 rfl h197 rfl trivial ?_
   intro p199 k200 c201 a w s d
   refine av s rfl rfl fun a s => ?_
   refine wpList_nil ?_
   refine blk_normal (tn (wp_region_lit (rn0 2 s rfl fun a s => ?_)))
   obtain ⟨i203, h202, u⟩ := bt u
   refine sv s (y_assignI rfl h202) rfl fun a s => ?_
   exact nl ⟨_, io u, c201, p199, k200, Sv92, wj s d [2] [4, 0]⟩
  refine wp_exit (then_exit (then_exit (blk_exit ?_)))
  obtain rfl := oi u
  have h204 := hd128 _ rfl
  subst h204
  exact tn ⟨c89, p90, k91, Sv92, wj s d [0] [1]⟩
 rintro a w ⟨c132, p133, k134, Sv135, s, d⟩
 refine tn (sn0 1 s rfl fun a s => ?_)
 obtain ⟨rv206, h205, u⟩ := bt u
 obtain ⟨Sv211, d⟩ := w_share (α := Span) d 0 rfl 0 rfl
 refine cR s (ref08_Normal_ok h205 d.dom (d.envAt 0 rfl)) (do_call call58 rfl) rfl ?_
 rintro v215 Sv212 w a h213 ⟨p207, k208, c210, rfl, h216, h209⟩ s
 have d := (d.callN h213 h216).addE (e := RowA c210 rv206) h209
 refine rz0 2 s rfl fun a s => ?_
 obtain rfl := oi u
 exact wp_ret (ret2 s rfl (rv_tmp rfl) (rv_tmp rfl) (d.ret ⟨p207, k208, c210, rfl, (d.outs [0] (by decide) rfl), (d.envAt 0 rfl)⟩))
theorem ref05_Same_ok {w0 S0 p2 k3 p6 k7 a1 b5 r} (u : ref05_Same a1 b5 = some r) (hS : Dm S0 w0) (h4 : (Sq p2 k3 a1).p S0 w0) (h8 : (Sq p6 k7 b5).p S0 w0) : Ck Tryz.prog 50 #[sl p2 k3 a1, sl p6 k7 b5] w0 S0 [] made_Light_rd r := by
 refine en 26 func50 rfl hS rfl rfl rfl fun a s d => ?_
 have d := (d.addE h4).addE h8
 refine sz0 1 s rfl fun a s => ?_
 refine wp_seq (sz0 5 s rfl fun a s => ?_)
 refine cd s u rfl (fun u => ?_) fun u => ?_
 ·refine sz0 1 s rfl fun a s => ?_
  obtain rfl := oi u
  exact wp_ret (then_ret (rt s rfl (d.ret rfl)))
 refine sk (wp_seq (sz0 1 s rfl fun a s => ?_))
 refine wp_block (wp_while (fun sv109 a w => ∃ Sv173, Sl 26 [(0, sl p2 k3 a1), (1, sl p6 k7 b5), (5, iv sv109)] a ∧ Wd ⟨w0, S0, []⟩ Sv173 [] [Sq p2 k3 a1, Sq p6 k7 b5] w) 0 u ⟨S0, wj s d [] [1, 0]⟩ ?_)
 repeat clear u
 rintro sv109 a w tv206 ⟨Sv173, s, d⟩ u hd205
 refine wp_seq (sz0 4 s rfl fun a s => ?_)
 refine cd s u rfl (fun u => ?_) fun u => ?_
 ·refine sk (wp_seq (wp_block (wp_seq ?_)))
  obtain ⟨x241, h239, u⟩ := bt u
  obtain ⟨b247, o248, q245, c246, h249, h242, h243, h244, h240⟩ := d.elemV 0 rfl h239
  have hsv250 := s
  have hwv251 := d
  subst h249
  have s := hsv250
  have d := hwv251
  obtain ⟨_, rfl, rfl⟩ := h240
  have d := d.addE h244
  obtain ⟨x254, h252, u⟩ := bt u
  obtain ⟨b260, o261, q258, c259, h262, h255, h256, h257, h253⟩ := d.elemV 2 rfl h252
  have hsv263 := s
  have hwv264 := d
  subst h262
  have s := hsv263
  have d := hwv264
  obtain ⟨_, rfl, rfl⟩ := h253
  have d := d.addE h257
  refine wp_only (fun a w => ∃ Sv265, Sl 26 [(0, sl (some ⟨b247, o248, none⟩) k3 a1), (1, sl (some ⟨b260, o261, none⟩) k7 b5), (5, iv sv109), (25, .bool (x241 != x254))] a ∧ Wd ⟨w0, S0, []⟩ Sv265 [] [Sq (some ⟨b247, o248, none⟩) k3 a1, Sq (some ⟨b260, o261, none⟩) k7 b5] w) ?_ ?_
  ·refine h_c [] [0, 1] d rfl rfl (by kernel_rfl) rfl fun hC d => ?_
   refine gn 2 [0, 1] [] s hC rfl rfl rfl fun a s => ?_
   refine gx s 2 rfl trivial rfl hC runUnderlying22 sizeOf3 rfl rfl h242 h243 fun a s => ?_
   refine gv s 3 rfl rfl hC (fun w hC => y_loadE1 (j := 0) (hC.ceAt 1 rfl) rfl isAgg3 rfl) fun a s => ?_
   refine gn 2 [4, 5] [] s hC rfl rfl rfl fun a s => ?_
   refine gx s 6 rfl trivial rfl hC runUnderlying22 sizeOf3 rfl rfl h255 h256 fun a s => ?_
   refine gv s 7 rfl rfl hC (fun w hC => y_loadE1 (j := 0) (hC.ceAt 0 rfl) rfl isAgg3 rfl) fun a s => ?_
   refine gv s 8 rfl rfl hC (fun w hC => y_neq rfl rfl) fun a s => ?_
   refine h_done (by kernel_rfl) ?_
   exact ⟨Sv173, wj s d [] [2, 3]⟩
  rintro a w ⟨Sv265, s, d⟩
  refine tn (cd s u rfl (fun u => ?_) fun u => ?_)
  ·refine sz0 1 s rfl fun a s => ?_
   obtain rfl := oi u
   have h268 := hd205 _ rfl
   subst h268
   exact wp_ret (blk_ret (then_ret (then_ret (blk_ret (then_ret (rt s rfl (d.ret rfl)))))))
  refine wp_skip (blk_normal (tn (wp_region_lit (rn0 2 s rfl fun a s => ?_))))
  obtain ⟨i270, h269, u⟩ := bt u
  refine sv s (y_assignI rfl h269) rfl fun a s => ?_
  exact nl ⟨_, io u, Sv265, wj s d [] [0, 1]⟩
 obtain ⟨rv271, u, h272⟩ := map_t u
 have h272 := (hd205 _ h272.symm).symm
 subst h272
 refine wp_exit (then_exit (then_exit (blk_exit (tn (sz0 1 s rfl fun a s => ?_)))))
 obtain rfl := oi u
 exact q1 s rfl (d.ret rfl)
theorem ref14_Same_ok {w0 S0 p2 k3 p6 k7 a1 b5 r} (u : ref14_Same a1 b5 = some r) (hS : Dm S0 w0) (h4 : (Sq p2 k3 a1.Samples).p S0 w0) (h8 : (Sq p6 k7 b5.Samples).p S0 w0) : Ck Tryz.prog 20 #[V35 a1 p2 k3, V35 b5 p6 k7] w0 S0 [] made_Light_rd r := by
 refine en 59 func20 rfl hS rfl rfl rfl fun a s d => ?_
 have d := (d.addE h4).addE h8
 refine sr (wb (C35 a1 p2 k3) s d rfl fun b9 a w s d => ?_)
 refine wb (C35 b5 p6 k7) s d rfl fun b10 a w s d => ?_
 refine rz0 1 s rfl fun a s => ?_
 refine sn 4 [1, 0] s d rfl rfl fun a s => ?_
 refine sv s (y_eqlA (by kernel_rfl) rfl rfl (eqv_struct runUnderlying31 (by kernel_rfl) (EqF.cons1 rfl isAgg9 rfl rfl (eqv_str runUnderlying9) (EqF.cons1 rfl isAgg9 rfl rfl (eqv_str runUnderlying9) (EqF.cons1 rfl isAgg9 rfl rfl (eqv_str runUnderlying9) (EqF.cons1 rfl isAgg9 rfl rfl (eqv_str runUnderlying9) EqF.nil)))))) rfl fun a s => ?_
 refine mv s rfl rfl fun a s => ?_
 refine rA 6 10 [1, 0] s d rfl rfl rfl rfl rfl fun a s => ?_
 refine mv s rfl rfl fun a s => ?_
 refine rA 6 17 [1, 0] s d rfl rfl rfl rfl rfl fun a s => ?_
 refine mv s rfl rfl fun a s => ?_
 refine wpl_join 6 (fun a w1 => w = w1 ∧ Sl 59 [(2, pt b9), (3, pt b10), (30, .bool (((((a1.Source.Network == b5.Source.Network) && ((a1.Source.Station == b5.Source.Station) && ((a1.Source.Location == b5.Source.Location) && ((a1.Source.Channel == b5.Source.Channel) && true)))) && (a1.Start == b5.Start)) && (a1.First == b5.First)) && ((a1.Rate.Num == b5.Rate.Num) && ((a1.Rate.Den == b5.Rate.Den) && true))))] a) ?_ ?_
 ·rcases Bool.eq_false_or_eq_true ((((a1.Source.Network == b5.Source.Network) && ((a1.Source.Station == b5.Source.Station) && ((a1.Source.Location == b5.Source.Location) && ((a1.Source.Channel == b5.Source.Channel) && true)))) && (a1.Start == b5.Start)) && (a1.First == b5.First)) with h13 | h13
  ·have s := s.bT 24 rfl h13
   refine rn 4 [1, 0] s d rfl rfl fun a s => ?_
   refine st_val s (y_eqlA (by kernel_rfl) rfl rfl (eqv_struct runUnderlying33 (by kernel_rfl) (EqF.cons1 rfl isAgg3 rfl rfl (eqv_int runUnderlying3) (EqF.cons1 rfl isAgg3 rfl rfl (eqv_int runUnderlying3) EqF.nil)))) ⟨_, rfl, rfl⟩ rfl rfl fun a s => ?_
   refine rz0 1 s rfl fun a s => ?_
   exact ⟨rfl, (s.fix 30 (.bool (((((a1.Source.Network == b5.Source.Network) && ((a1.Source.Station == b5.Source.Station) && ((a1.Source.Location == b5.Source.Location) && ((a1.Source.Channel == b5.Source.Channel) && true)))) && (a1.Start == b5.Start)) && (a1.First == b5.First)) && ((a1.Rate.Num == b5.Rate.Num) && ((a1.Rate.Den == b5.Rate.Den) && true)))) rfl (and_t h13)).weaken _ ⟨rfl, rfl, rfl, trivial⟩⟩
  have s := s.bF 24 rfl h13
  refine rz0 6 s rfl fun a s => ?_
  exact ⟨rfl, (s.fix 30 (.bool (((((a1.Source.Network == b5.Source.Network) && ((a1.Source.Station == b5.Source.Station) && ((a1.Source.Location == b5.Source.Location) && ((a1.Source.Channel == b5.Source.Channel) && true)))) && (a1.Start == b5.Start)) && (a1.First == b5.First)) && ((a1.Rate.Num == b5.Rate.Num) && ((a1.Rate.Den == b5.Rate.Den) && true)))) rfl (and_f h13)).weaken _ ⟨rfl, rfl, rfl, trivial⟩⟩
 rintro a w1 ⟨h34, s⟩
 subst h34
 refine mv s rfl rfl fun a s => ?_
 refine rA 6 31 [1, 0] s d rfl rfl rfl rfl rfl fun a s => ?_
 refine mv s rfl rfl fun a s => ?_
 refine rA 6 38 [1, 0] s d rfl rfl rfl rfl rfl fun a s => ?_
 refine mv s rfl rfl fun a s => ?_
 refine rA 6 45 [1, 0] s d rfl rfl rfl rfl rfl fun a s => ?_
 refine mv s rfl rfl fun a s => ?_
 obtain ⟨c25, hc25, u⟩ := bt u
 refine wpl_join 6 (fun a w => ∃ Sv26, Sl 59 [(58, .bool c25)] a ∧ Wd ⟨w0, S0, []⟩ Sv26 [] [] w) ?_ ?_
 ·rcases Bool.eq_false_or_eq_true ((((((((a1.Source.Network == b5.Source.Network) && ((a1.Source.Station == b5.Source.Station) && ((a1.Source.Location == b5.Source.Location) && ((a1.Source.Channel == b5.Source.Channel) && true)))) && (a1.Start == b5.Start)) && (a1.First == b5.First)) && ((a1.Rate.Num == b5.Rate.Num) && ((a1.Rate.Den == b5.Rate.Den) && true))) && (a1.Error == b5.Error)) && (a1.Run == b5.Run)) && (a1.Seq == b5.Seq)) with h24 | h24
  ·have s := s.bT 52 rfl h24
   have u := ite_t hc25 h24
   refine rn 4 [1, 0] s d rfl rfl fun a s => ?_
   obtain ⟨rv28, h27, u⟩ := bt u
   refine st_callR s (ref05_Same_ok h27 d.bdom (d.bE 1 rfl) (d.bE 0 rfl)) (do_call call50 rfl) ⟨_, rfl, rfl⟩ rfl rfl ?_
   rintro v32 Sv29 w a h30 rfl s
   have d := d.callB h30
   refine sv s (y_pickT rfl rfl) rfl fun a s => ?_
   refine wpList_nil ?_
   obtain rfl := oi u
   exact tn ⟨S0, wj s d [] []⟩
  have s := s.bF 52 rfl h24
  have u := ite_f hc25 h24
  refine rn0 6 s rfl fun a s => ?_
  refine wpList_nil ?_
  obtain rfl := oi u
  exact tn ⟨S0, wj s d [] []⟩
 rintro a w ⟨Sv26, s, d⟩
 refine rz0 1 s rfl fun a s => ?_
 obtain rfl := oi u
 exact q1 s rfl (d.ret rfl)
theorem ref14_SameList_ok {w0 S0 p2 k3 p6 k7 a1 b5 r} (u : ref14_SameList a1 b5 = some r) (hS : Dm S0 w0) (h4 : (Sq p2 k3 a1).p S0 w0) (h8 : (Sq p6 k7 b5).p S0 w0) : Ck Tryz.prog 18 #[sl p2 k3 a1, sl p6 k7 b5] w0 S0 [] made_Light_rd r := by
 refine en 27 func18 rfl hS rfl rfl rfl fun a s d => ?_
 have d := (d.addE h4).addE h8
 refine sz0 1 s rfl fun a s => ?_
 refine wp_seq (sz0 5 s rfl fun a s => ?_)
 refine cd s u rfl (fun u => ?_) fun u => ?_
 ·refine sz0 1 s rfl fun a s => ?_
  obtain rfl := oi u
  exact wp_ret (then_ret (rt s rfl (d.ret rfl)))
 refine sk (wp_seq (sz0 1 s rfl fun a s => ?_))
 refine wp_block (wp_while (fun sv139 a w => ∃ Sv223, Sl 27 [(0, sl p2 k3 a1), (1, sl p6 k7 b5), (5, iv sv139)] a ∧ Wd ⟨w0, S0, []⟩ Sv223 [] [Sq p2 k3 a1, Sq p6 k7 b5] w) 0 u ⟨S0, wj s d [] [1, 0]⟩ ?_)
 repeat clear u
 rintro sv139 a w tv266 ⟨Sv223, s, d⟩ u hd265
 refine wp_seq (sz0 4 s rfl fun a s => ?_)
 refine cd s u rfl (fun u => ?_) fun u => ?_
 ·refine sk (wp_seq (wp_block (wp_seq ?_)))
  obtain ⟨x311, h309, u⟩ := bt u
  obtain ⟨b317, o318, q315, c316, h319, h312, h313, h314, h310⟩ := d.elemV 0 rfl h309
  have hsv320 := s
  have hwv321 := d
  subst h319
  have s := hsv320
  have d := hwv321
  obtain ⟨_, _, _, _, _, _, _, _, _, _, _, _, rfl, rfl, rfl, rfl, rfl, rfl, rfl, rfl, rfl, rfl, rfl, rfl, ⟨p322, n323, k324, rfl, h325⟩⟩ := h310
  obtain rfl := h325.1
  have d := (d.addE (e := SlA p322 _ k324 x311.Samples) h325).addE h314
  obtain ⟨x328, h326, u⟩ := bt u
  obtain ⟨b334, o335, q332, c333, h336, h329, h330, h331, h327⟩ := d.elemV 3 rfl h326
  have hsv337 := s
  have hwv338 := d
  subst h336
  have s := hsv337
  have d := hwv338
  obtain ⟨_, _, _, _, _, _, _, _, _, _, _, _, rfl, rfl, rfl, rfl, rfl, rfl, rfl, rfl, rfl, rfl, rfl, rfl, ⟨p339, n340, k341, rfl, h342⟩⟩ := h327
  obtain rfl := h342.1
  have d := (d.addE (e := SlA p339 _ k341 x328.Samples) h342).addE h331
  obtain ⟨rv344, h343, u⟩ := bt u
  refine wp_only (fun a w => ∃ Sv345, Sl 27 [(0, sl (some ⟨b317, o318, none⟩) k3 a1), (1, sl (some ⟨b334, o335, none⟩) k7 b5), (5, iv sv139), (26, .bool (!rv344))] a ∧ Wd ⟨w0, S0, []⟩ Sv345 [] [Sq (some ⟨b317, o318, none⟩) k3 a1, Sq (some ⟨b334, o335, none⟩) k7 b5] w) ?_ ?_
  ·refine h_c [] [0, 2] d rfl rfl (by kernel_rfl) rfl fun hC d => ?_
   refine gn 2 [0, 1] [] s hC rfl rfl rfl fun a s => ?_
   refine gx s 2 rfl trivial rfl hC runUnderlying27 sizeOf35 rfl rfl h312 h313 fun a s => ?_
   refine gv s 3 rfl rfl hC (fun w hC => y_loadEA (j := 0) (hC.ceAt 1 rfl) rfl isAgg35 sizeOf35 rfl rfl) fun a s => ?_
   refine gn 2 [4, 5] [] s hC rfl rfl rfl fun a s => ?_
   refine gx s 6 rfl trivial rfl hC runUnderlying27 sizeOf35 rfl rfl h329 h330 fun a s => ?_
   refine gv s 7 rfl rfl hC (fun w hC => y_loadEA (j := 0) (hC.ceAt 0 rfl) rfl isAgg35 sizeOf35 rfl rfl) fun a s => ?_
   refine ho 8 rfl ?_
   refine cV s d (ref14_Same_ok h343 d.bdom (d.bE 3 rfl) (d.bE 1 rfl)) (do_call call20 rfl) rfl fun a w s d => ?_
   refine h_n [] [0, 2] d rfl rfl fun hC => ?_
   refine gv s 9 rfl rfl hC (fun w hC => y_not rfl) fun a s => ?_
   refine h_done (by kernel_rfl) ?_
   exact ⟨Sv223, wj s d [] [4, 5]⟩
  rintro a w ⟨Sv345, s, d⟩
  refine tn (cd s u rfl (fun u => ?_) fun u => ?_)
  ·refine sz0 1 s rfl fun a s => ?_
   obtain rfl := oi u
   have h353 := hd265 _ rfl
   subst h353
   exact wp_ret (blk_ret (then_ret (then_ret (blk_ret (then_ret (rt s rfl (d.ret rfl)))))))
  refine wp_skip (blk_normal (tn (wp_region_lit (rn0 2 s rfl fun a s => ?_))))
  obtain ⟨i355, h354, u⟩ := bt u
  refine sv s (y_assignI rfl h354) rfl fun a s => ?_
  exact nl ⟨_, io u, Sv345, wj s d [] [0, 1]⟩
 obtain ⟨rv356, u, h357⟩ := map_t u
 have h357 := (hd265 _ h357.symm).symm
 subst h357
 refine wp_exit (then_exit (then_exit (blk_exit (tn (sz0 1 s rfl fun a s => ?_)))))
 obtain rfl := oi u
 exact q1 s rfl (d.ret rfl)
theorem ref08_Same_ok {w0 S0 p2 k3 p6 k7 a1 b5 r} (u : ref08_Same a1 b5 = some r) (hS : Dm S0 w0) (h4 : (Sq p2 k3 a1).p S0 w0) (h8 : (Sq p6 k7 b5).p S0 w0) : Ck Tryz.prog 32 #[sl p2 k3 a1, sl p6 k7 b5] w0 S0 [] made_Light_rd r := by
 refine en 26 func32 rfl hS rfl rfl rfl fun a s d => ?_
 have d := (d.addE h4).addE h8
 refine sz0 1 s rfl fun a s => ?_
 refine wp_seq (sz0 5 s rfl fun a s => ?_)
 refine cd s u rfl (fun u => ?_) fun u => ?_
 ·refine sz0 1 s rfl fun a s => ?_
  obtain rfl := oi u
  exact wp_ret (then_ret (rt s rfl (d.ret rfl)))
 refine sk (wp_seq (sz0 1 s rfl fun a s => ?_))
 refine wp_block (wp_while (fun sv109 a w => ∃ Sv173, Sl 26 [(0, sl p2 k3 a1), (1, sl p6 k7 b5), (5, iv sv109)] a ∧ Wd ⟨w0, S0, []⟩ Sv173 [] [Sq p2 k3 a1, Sq p6 k7 b5] w) 0 u ⟨S0, wj s d [] [1, 0]⟩ ?_)
 repeat clear u
 rintro sv109 a w tv206 ⟨Sv173, s, d⟩ u hd205
 refine wp_seq (sz0 4 s rfl fun a s => ?_)
 refine cd s u rfl (fun u => ?_) fun u => ?_
 ·refine sk (wp_seq (wp_block (wp_seq ?_)))
  obtain ⟨x241, h239, u⟩ := bt u
  obtain ⟨b247, o248, q245, c246, h249, h242, h243, h244, h240⟩ := d.elemV 0 rfl h239
  have hsv250 := s
  have hwv251 := d
  subst h249
  have s := hsv250
  have d := hwv251
  obtain ⟨_, _, rfl, rfl, rfl⟩ := h240
  have d := d.addE h244
  obtain ⟨x254, h252, u⟩ := bt u
  obtain ⟨b260, o261, q258, c259, h262, h255, h256, h257, h253⟩ := d.elemV 2 rfl h252
  have hsv263 := s
  have hwv264 := d
  subst h262
  have s := hsv263
  have d := hwv264
  obtain ⟨_, _, rfl, rfl, rfl⟩ := h253
  have d := d.addE h257
  refine wp_only (fun a w => ∃ Sv265, Sl 26 [(0, sl (some ⟨b247, o248, none⟩) k3 a1), (1, sl (some ⟨b260, o261, none⟩) k7 b5), (5, iv sv109), (25, .bool (!((x241.From == x254.From) && ((x241.To == x254.To) && true))))] a ∧ Wd ⟨w0, S0, []⟩ Sv265 [] [Sq (some ⟨b247, o248, none⟩) k3 a1, Sq (some ⟨b260, o261, none⟩) k7 b5] w) ?_ ?_
  ·refine h_c [] [0, 1] d rfl rfl (by kernel_rfl) rfl fun hC d => ?_
   refine gn 2 [0, 1] [] s hC rfl rfl rfl fun a s => ?_
   refine gx s 2 rfl trivial rfl hC runUnderlying52 sizeOf45 rfl rfl h242 h243 fun a s => ?_
   refine gv s 3 rfl rfl hC (fun w hC => y_loadEA (j := 0) (hC.ceAt 1 rfl) rfl isAgg45 sizeOf45 rfl rfl) fun a s => ?_
   refine gn 2 [4, 5] [] s hC rfl rfl rfl fun a s => ?_
   refine gx s 6 rfl trivial rfl hC runUnderlying52 sizeOf45 rfl rfl h255 h256 fun a s => ?_
   refine gv s 7 rfl rfl hC (fun w hC => y_loadEA (j := 0) (hC.ceAt 0 rfl) rfl isAgg45 sizeOf45 rfl rfl) fun a s => ?_
   refine gv s 8 rfl rfl hC (fun w hC => y_neqA (by kernel_rfl) rfl rfl (eqv_struct runUnderlying45 (by kernel_rfl) (EqF.cons1 rfl isAgg3 rfl rfl (eqv_int runUnderlying3) (EqF.cons1 rfl isAgg3 rfl rfl (eqv_int runUnderlying3) EqF.nil)))) fun a s => ?_
   refine h_done (by kernel_rfl) ?_
   exact ⟨Sv173, wj s d [] [2, 3]⟩
  rintro a w ⟨Sv265, s, d⟩
  refine tn (cd s u rfl (fun u => ?_) fun u => ?_)
  ·refine sz0 1 s rfl fun a s => ?_
   obtain rfl := oi u
   have h268 := hd205 _ rfl
   subst h268
   exact wp_ret (blk_ret (then_ret (then_ret (blk_ret (then_ret (rt s rfl (d.ret rfl)))))))
  refine wp_skip (blk_normal (tn (wp_region_lit (rn0 2 s rfl fun a s => ?_))))
  obtain ⟨i270, h269, u⟩ := bt u
  refine sv s (y_assignI rfl h269) rfl fun a s => ?_
  exact nl ⟨_, io u, Sv265, wj s d [] [0, 1]⟩
 obtain ⟨rv271, u, h272⟩ := map_t u
 have h272 := (hd205 _ h272.symm).symm
 subst h272
 refine wp_exit (then_exit (then_exit (blk_exit (tn (sz0 1 s rfl fun a s => ?_)))))
 obtain rfl := oi u
 exact q1 s rfl (d.ret rfl)
end Go.Proofs.YthdimlepjpnncaaGreat.Wk

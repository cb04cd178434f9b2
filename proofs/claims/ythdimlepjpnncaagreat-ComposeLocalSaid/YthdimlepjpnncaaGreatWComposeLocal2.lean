/- The walks of ComposeLocal, part 2: each Go function computes what its plain program computes. Printed by a program of ours. -/
import Derived.Test.YthdimlepjpnncaaGreatProg
import Derived.Test.YthdimlepjpnncaaGreatDat
import Derived.Test.YthdimlepjpnncaaGreatSh
import Derived.Test.YthdimlepjpnncaaGreatLa1
import Derived.KernelRfl
import Derived.Test.YthdimlepjpnncaaGreatLb1
import Derived.Shelf.SlLaysF0
import Derived.Test.YthdimlepjpnncaaGreatWComposeLocal1
namespace Go.Proofs.YthdimlepjpnncaaGreat.Wk
open Go Go.RowKit Go.Proofs Go.Proofs.YthdimlepjpnncaaGreat.Sh Go.Proofs.Tryz
set_option linter.unusedVariables false
set_option linter.unusedSimpArgs false
set_option maxHeartbeats 4000000
set_option maxRecDepth 100000
abbrev made_Dice_Record_rd (w0 : World) (X : List Nat) (b2 : Nat) (r : (Record × Dice)) : (Nat → Prop) → World → Value → Prop := fun S w v => ∃ p0_11 k0_11 c0_11 pq0_0 kq0_0, v = V35 r.1 p0_11 k0_11 ∧ Outs X w0 S w [.row p0_11 r.1.Samples.length k0_11 c0_11 3 1, .box b2 (C75 r.2 pq0_0 kq0_0) 75] ∧ (RowA c0_11 r.1.Samples).p S w ∧ (Sq pq0_0 kq0_0 r.2.L).p S w
abbrev D16t1 (b2 : Nat) (b43 : Nat) (b8 : Nat) (b9 : Nat) (n7 : Int) : Slots := [(0, pt b2), (2, iv n7), (4, pt b8), (6, pt b9), (7, pt b43)]
abbrev D16t2 (b2 : Nat) (b50 : Nat) (b57 : Nat) (b73 : Nat) (rv37 : (Rate × Int)) (rv45 : (Int × Dice)) (rv52 : (Int × Dice)) (rv59 : (Int × Dice)) (rv64 : (Int × Dice)) (rv69 : (Int × Dice)) (s6 : SourceID) : Vs := [(0, 21, V31 s6), (1, 22, pt b2), (2, 23, iv rv45.1), (3, 24, iv (w64 (250000 * rv45.1))), (4, 25, iv (w64 (1000000000000 + (w64 (250000 * rv45.1))))), (5, 26, pt b2), (6, 27, sl (ad b50) ([0, 0, 3] : List Int).length ([0, 0, 3] : List Int)), (7, 28, iv rv52.1), (8, 29, V33 rv37.1), (9, 30, pt b2), (10, 31, sl (ad b57) ([0, 0, 10, 500] : List Int).length ([0, 0, 10, 500] : List Int)), (11, 32, iv rv59.1), (12, 33, pt b2), (13, 34, iv rv64.1), (14, 35, pt b2), (15, 36, iv rv69.1), (16, 37, .agg #[.string s6.Network, .string s6.Station, .string s6.Location, .string s6.Channel, iv (w64 (1000000000000 + (w64 (250000 * rv45.1)))), iv rv52.1, iv rv37.1.Num, iv rv37.1.Den, iv rv59.1, iv rv64.1, iv rv69.1, .slice none ([] : List Int).length 0]), (17, 9, pt b73)]
abbrev D16t3 : List Value := [iv 0, iv 0, iv 3]
abbrev D16t4 : List Int := ([0, 0, 3] : List Int)
abbrev D16t5 : List Value := Z9
abbrev D16t6 : List Int := ([0, 0, 10, 500] : List Int)
abbrev E16_1 (s6 : SourceID) (rv45 : (Int × Dice)) (rv52 : (Int × Dice)) (rv37 : (Rate × Int)) (rv59 : (Int × Dice)) (rv64 : (Int × Dice)) (rv69 : (Int × Dice)) (p263 : Option Addr) (k264 : Nat) (l262 : (List Int)) : List Value := [.string s6.Network, .string s6.Station, .string s6.Location, .string s6.Channel, iv (w64 (1000000000000 + (w64 (250000 * rv45.1)))), iv rv52.1, iv rv37.1.Num, iv rv37.1.Den, iv rv59.1, iv rv64.1, iv rv69.1, sl p263 k264 l262]
abbrev E16_0 (s6 : SourceID) (rv45 : (Int × Dice)) (rv52 : (Int × Dice)) (rv37 : (Rate × Int)) (rv59 : (Int × Dice)) (rv64 : (Int × Dice)) (rv69 : (Int × Dice)) : List Value := [.string s6.Network, .string s6.Station, .string s6.Location, .string s6.Channel, iv (w64 (1000000000000 + (w64 (250000 * rv45.1)))), iv rv52.1, iv rv37.1.Num, iv rv37.1.Den, iv rv59.1, iv rv64.1, iv rv69.1, .slice none ([] : List Int).length 0]
theorem made_Dice_Record_ok {w0 S0 b2 p3 k4 d1 s6 n7 r} (u : made_Dice_Record d1 s6 n7 = some r) (hS : Dm S0 w0) (hin : Ins S0 w0 [.box b2 (C75 d1 p3 k4) 75]) (h5 : (Sq p3 k4 d1.L).p S0 w0) : Calls Tryz.prog 16 #[pt b2, V31 s6, iv n7] w0 (Ret (blks [.box b2 (C75 d1 p3 k4) 75]) w0 S0 (made_Dice_Record_rd w0 (blks [.box b2 (C75 d1 p3 k4) 75]) b2 r)) := by
 refine enI 54 func16 rfl hS hin rfl rfl rfl fun a s d => ?_
 have d := d.addE h5
 refine sr (wb (C31 s6) s d rfl fun b8 a w s d => ?_)
 refine wa Z4 s d zeroValue35 fun b9 a w s d => ?_
 refine nl (sn0 1 s rfl fun a s => ?_)
 refine w_litSlice (α := Int) (vs := Z10) (cs := Z10) (xs := ([1, 2, 2, 3] : List Int)) s d El22 rfl rfl rfl rfl rfl rfl ⟨⟨_, rfl, rfl⟩, ⟨⟨_, rfl, rfl⟩, ⟨⟨_, rfl, rfl⟩, ⟨⟨_, rfl, rfl⟩, rfl⟩⟩⟩⟩ rfl trivial rfl fun b11 a w s d => ?_
 obtain ⟨rv13, h12, u⟩ := bt u
 obtain ⟨Sv17, d⟩ := w_share (α := Int) d 0 rfl 0 rfl
 refine cR s (made_Dice_Pick_ok h12 d.dom (d.ins [2] (by decide) rfl) (d.envAt 2 rfl) (d.envAt 0 rfl)) (do_call call47 rfl) rfl ?_
 rintro v21 Sv18 w a h19 ⟨p14, k15, rfl, h22, h16⟩ s
 have d := (d.callO [2] [0, 1] (by decide) rfl h19 h22).addE (e := Sq p14 k15 rv13.2.L) h16
 refine mv s rfl rfl fun a s => ?_
 refine w_litSlice (α := Int) (vs := Z11) (cs := Z11) (xs := ([1, 1, 1, 3] : List Int)) s d El22 rfl rfl rfl rfl rfl rfl ⟨⟨_, rfl, rfl⟩, ⟨⟨_, rfl, rfl⟩, ⟨⟨_, rfl, rfl⟩, ⟨⟨_, rfl, rfl⟩, rfl⟩⟩⟩⟩ rfl trivial rfl fun b24 a w s d => ?_
 obtain ⟨rv26, h25, u⟩ := bt u
 obtain ⟨Sv30, d⟩ := w_share (α := Int) d 0 rfl 0 rfl
 refine cR s (made_Dice_Pick_ok h25 d.dom (d.ins [0] (by decide) rfl) (d.envAt 2 rfl) (d.envAt 0 rfl)) (do_call call47 rfl) rfl ?_
 rintro v34 Sv31 w a h32 ⟨p27, k28, rfl, h35, h29⟩ s
 have d := (d.callO [0] [1, 2] (by decide) rfl h32 h35).addE (e := Sq p27 k28 rv26.2.L) h29
 obtain ⟨rv37, h36, u⟩ := bt u
 refine cV s d (ref02_New_ok h36 d.bdom) (do_call call48 rfl) rfl fun a w s d => ?_
 refine rn0 3 s rfl fun a s => ?_
 refine wa [iv 0, iv 0] s d zeroValue33 fun b43 a w s d => ?_
 refine ws (C33 rv37.1) s d 0 rfl rfl rfl sizeOf33 fun a w s d => ?_
 refine rz0 1 s rfl fun a s => ?_
 refine wp_seq ?_
 obtain ⟨rv45, h44, u⟩ := bt u
 obtain ⟨rv52, h51, u⟩ := bt u
 obtain ⟨rv59, h58, u⟩ := bt u
 obtain ⟨rv64, h63, u⟩ := bt u
 obtain ⟨rv69, h68, u⟩ := bt u
 refine wp_only (fun a w => ∃ Sv74 b73 k71 p70, Sl 54 [(0, pt b2), (2, iv n7), (6, pt b9), (9, pt b73)] a ∧ Wd ⟨w0, S0, blks [.box b2 (C75 d1 p3 k4) 75]⟩ Sv74 [.box b2 (C75 rv69.2 p70 k71) 75, .box b9 Z4 35, .box b73 (E16_0 s6 rv45 rv52 rv37 rv59 rv64 rv69) 35] [Sq p70 k71 rv69.2.L, Sq none 0 ([] : List Int)] w) ?_ ?_
 ·refine wp_region_phi (n := 19) (Φ := fun l a w => ∃ b50 b57 b73 k47 k54 k61 k66 k71 p46 p53 p60 p65 p70 S, SlF 54 (D16t1 b2 b43 b8 b9 n7) (D16t2 b2 b50 b57 b73 rv37 rv45 rv52 rv59 rv64 rv69 s6) l a ∧ Wd ⟨w0, S0, blks [.box b2 (C75 d1 p3 k4) 75]⟩ S [.box b43 (C33 rv37.1) 33, ((bif l 15 then .box b2 (C75 rv69.2 p70 k71) 75 else (bif l 13 then .box b2 (C75 rv64.2 p65 k66) 75 else (bif l 11 then .box b2 (C75 rv59.2 p60 k61) 75 else (bif l 7 then .box b2 (C75 rv52.2 p53 k54) 75 else (bif l 2 then .box b2 (C75 rv45.2 p46 k47) 75 else .box b2 (C75 rv26.2 p27 k28) 75))))) : Res), .box b9 Z4 35, .box b8 (C31 s6) 31, ((bif l 7 then emp else (bif l 6 then .row (ad b50) ([0, 0, 3] : List Int).length ([0, 0, 3] : List Int).length [iv 0, iv 0, iv 3] 3 1 else emp)) : Res), ((bif l 11 then emp else (bif l 10 then .row (ad b57) ([0, 0, 10, 500] : List Int).length ([0, 0, 10, 500] : List Int).length Z9 3 1 else emp)) : Res), ((bif l 18 then .box b73 (E16_0 s6 rv45 rv52 rv37 rv59 rv64 rv69) 35 else (bif l 17 then .box b73 Z4 35 else emp)) : Res)] [Sq p27 k28 rv26.2.L, Sq (ad b24) ([1, 1, 1, 3] : List Int).length ([1, 1, 1, 3] : List Int), RowA Z11 ([1, 1, 1, 3] : List Int), Sq p14 k15 rv13.2.L, Sq (ad b11) ([1, 2, 2, 3] : List Int).length ([1, 2, 2, 3] : List Int), RowA Z10 ([1, 2, 2, 3] : List Int), Sq p3 k4 d1.L, optA (l 2) (Sq p46 k47 rv45.2.L), optA (l 6) (RowA [iv 0, iv 0, iv 3] ([0, 0, 3] : List Int)), optA (l 7) (Sq (ad b50) ([0, 0, 3] : List Int).length ([0, 0, 3] : List Int)), optA (l 7) (Sq p53 k54 rv52.2.L), optA (l 10) (RowA Z9 ([0, 0, 10, 500] : List Int)), optA (l 11) (Sq (ad b57) ([0, 0, 10, 500] : List Int).length ([0, 0, 10, 500] : List Int)), optA (l 11) (Sq p60 k61 rv59.2.L), optA (l 13) (Sq p65 k66 rv64.2.L), optA (l 15) (Sq p70 k71 rv69.2.L)] w) [1, 1, 2, 3, 4, 1, 1, 3, 1, 1, 1, 4, 1, 5, 1, 6, 7, 1, 8] (by kernel_rfl) rfl (by kernel_rfl) ?_ (AllS.succ (AllS.succ (AllS.succ (AllS.succ (AllS.succ (AllS.succ (AllS.succ (AllS.succ (AllS.succ (AllS.succ (AllS.succ (AllS.succ (AllS.succ (AllS.succ (AllS.succ (AllS.succ (AllS.succ (AllS.succ (AllS.succ AllS.zero ?_) ?_) ?_) ?_) ?_) ?_) ?_) ?_) ?_) ?_) ?_) ?_) ?_) ?_) ?_) ?_) ?_) ?_) ?_) ?_
  ·obtain ⟨b50, b57, b73, k47, k54, k61, k66, k71, p46, p53, p60, p65, p70, _⟩ : ∃ (b50 : Nat) (b57 : Nat) (b73 : Nat) (k47 : Nat) (k54 : Nat) (k61 : Nat) (k66 : Nat) (k71 : Nat) (p46 : Option Addr) (p53 : Option Addr) (p60 : Option Addr) (p65 : Option Addr) (p70 : Option Addr), True := ⟨0, 0, 0, 0, 0, 0, 0, 0, none, none, none, none, none, trivial⟩
   have d := ((d.drew).emp).emp
   have d := ((d.emp).noE (Sq p70 k71 rv69.2.L)).noE (Sq p65 k66 rv64.2.L)
   have d := ((d.noE (Sq p60 k61 rv59.2.L)).noE (Sq (ad b57) ([0, 0, 10, 500] : List Int).length ([0, 0, 10, 500] : List Int))).noE (RowA Z9 ([0, 0, 10, 500] : List Int))
   have d := ((d.noE (Sq p53 k54 rv52.2.L)).noE (Sq (ad b50) ([0, 0, 3] : List Int).length ([0, 0, 3] : List Int))).noE (RowA [iv 0, iv 0, iv 3] ([0, 0, 3] : List Int))
   have d := d.noE (Sq p46 k47 rv45.2.L)
   exact ⟨b50, b57, b73, k47, k54, k61, k66, k71, p46, p53, p60, p65, p70, Sv31, SlF.init (s.wk rfl) (by kernel_rfl), d.gt [3, 4, 5, 6, 0, 1, 2] [9, 10, 11, 12, 13, 14, 15, 0, 1, 2, 3, 4, 5, 6, 7, 8] rfl rfl⟩
  ·intro l hi hp hc a w ⟨b50, b57, b73, k47, k54, k61, k66, k71, p46, p53, p60, p65, p70, S, hS, d⟩
   refine S_val hS (.b (t := 4) rfl .nil) rfl rfl trivial (y_loadBA (d.ownAt 3 rfl) rfl isAgg31 sizeOf31 rfl rfl) (rfl) 0 rfl fun a hS => ⟨b50, b57, b73, k47, k54, k61, k66, k71, p46, p53, p60, p65, p70, S, hS, d⟩
  ·intro l hi hp hc a w ⟨b50, b57, b73, k47, k54, k61, k66, k71, p46, p53, p60, p65, p70, S, hS, d⟩
   refine S_val hS (.b (t := 0) rfl .nil) rfl rfl trivial (y_move rfl) (rfl) 1 rfl fun a hS => ⟨b50, b57, b73, k47, k54, k61, k66, k71, p46, p53, p60, p65, p70, S, hS, d⟩
  ·intro l hi hp hc a w ⟨b50, b57, b73, k47, k54, k61, k66, k71, p46, p53, p60, p65, p70, S, hS, d⟩
   have h_7 := l_neg hc 7 hi rfl
   have h_11 := l_neg hc 11 h_7 rfl
   have h_13 := l_neg hc 13 h_11 rfl
   have h_15 := l_neg hc 15 h_13 rfl
   have d := d.fixR 1 (r' := .box b2 (C75 rv26.2 p27 k28) 75) rfl ((bF h_15).trans ((bF h_13).trans ((bF h_11).trans ((bF h_7).trans ((bF hi))))))
   have h_1 := hp 1 rfl
   refine S_eff rfl ?_
   have s := hS.open_ (.v (t := 22) 1 rfl h_1 .nil)
   refine cR s (made_Dice_Next_ok h44 d.dom (d.ins [1] (by decide) rfl) (d.envAt 0 rfl)) (do_call call15 rfl) rfl ?_
   rintro v110 Sv107 w a h108 ⟨p46, k47, rfl, h111, h48⟩ s
   have d := ((d.callO [1] [0, 2, 3, 4, 5, 6] (by decide) rfl h108 h111).addE (e := Sq p46 k47 rv45.2.L) h48).fixR 0 (r' := (bif l 15 then .box b2 (C75 rv69.2 p70 k71) 75 else (bif l 13 then .box b2 (C75 rv64.2 p65 k66) 75 else (bif l 11 then .box b2 (C75 rv59.2 p60 k61) 75 else (bif l 7 then .box b2 (C75 rv52.2 p53 k54) 75 else .box b2 (C75 rv45.2 p46 k47) 75))))) rfl ((bF h_15).trans ((bF h_13).trans ((bF h_11).trans ((bF h_7))))).symm
   have d := d.opt 0 rfl true
   exact nl ⟨b50, b57, b73, k47, k54, k61, k66, k71, p46, p53, p60, p65, p70, Sv107, hS.close (.v (t := 22) 1 rfl h_1 .nil) s rfl (.same (.same (.here (.same (.same (.same (.same (.same (.same (.same (.same (.same (.same (.same (.same (.same (.same (.same .nil)))))))))))))))))) 2 rfl, d.gt [1, 0, 2, 3, 4, 5, 6] [2, 3, 4, 5, 6, 7, 8, 0, 10, 11, 12, 13, 14, 15, 16, 17] rfl rfl⟩
  ·intro l hi hp hc a w ⟨b50, b57, b73, k47, k54, k61, k66, k71, p46, p53, p60, p65, p70, S, hS, d⟩
   have h_2 := hp 2 rfl
   refine S_val hS (.v (t := 23) 2 rfl h_2 .nil) rfl rfl trivial (y_mul rfl rfl) (rfl) 3 rfl fun a hS => ⟨b50, b57, b73, k47, k54, k61, k66, k71, p46, p53, p60, p65, p70, S, hS, d⟩
  ·intro l hi hp hc a w ⟨b50, b57, b73, k47, k54, k61, k66, k71, p46, p53, p60, p65, p70, S, hS, d⟩
   have h_3 := hp 3 rfl
   refine S_val hS (.v (t := 24) 3 rfl h_3 .nil) rfl rfl trivial (y_add rfl rfl) (rfl) 4 rfl fun a hS => ⟨b50, b57, b73, k47, k54, k61, k66, k71, p46, p53, p60, p65, p70, S, hS, d⟩
  ·intro l hi hp hc a w ⟨b50, b57, b73, k47, k54, k61, k66, k71, p46, p53, p60, p65, p70, S, hS, d⟩
   refine S_val hS (.b (t := 0) rfl .nil) rfl rfl trivial (y_move rfl) (rfl) 5 rfl fun a hS => ⟨b50, b57, b73, k47, k54, k61, k66, k71, p46, p53, p60, p65, p70, S, hS, d⟩
  ·intro l hi hp hc a w ⟨b50, b57, b73, k47, k54, k61, k66, k71, p46, p53, p60, p65, p70, S, hS, d⟩
   refine S_eff rfl ?_
   have s := hS.open_ .nil
   refine w_litSlice (α := Int) (vs := D16t3) (cs := D16t3) (xs := D16t4) s d El22 rfl rfl rfl rfl rfl rfl ⟨⟨_, rfl, rfl⟩, ⟨⟨_, rfl, rfl⟩, ⟨⟨_, rfl, rfl⟩, rfl⟩⟩⟩ rfl trivial rfl fun b50 a w s d => ?_
   have h_7 := l_neg hc 7 hi rfl
   have d := ((d.fixR 0 (r' := (bif l 7 then emp else .row (ad b50) ([0, 0, 3] : List Int).length ([0, 0, 3] : List Int).length [iv 0, iv 0, iv 3] 3 1)) rfl ((bF h_7)).symm).opt 0 rfl true).noL h_7 (Sq (ad b50) ([0, 0, 3] : List Int).length ([0, 0, 3] : List Int))
   exact nl ⟨b50, b57, b73, k47, k54, k61, k66, k71, p46, p53, p60, p65, p70, S, hS.close .nil s rfl (.same (.same (.same (.same (.same (.same (.here (.same (.same (.same (.same (.same (.same (.same (.same (.same (.same (.same .nil)))))))))))))))))) 6 rfl, d.gt [1, 2, 3, 4, 0, 6, 7] [3, 4, 5, 6, 7, 8, 9, 10, 1, 0, 13, 14, 15, 16, 17, 18] rfl rfl⟩
  ·intro l hi hp hc a w ⟨b50, b57, b73, k47, k54, k61, k66, k71, p46, p53, p60, p65, p70, S, hS, d⟩
   have h_11 := l_neg hc 11 hi rfl
   have h_13 := l_neg hc 13 h_11 rfl
   have h_15 := l_neg hc 15 h_13 rfl
   have h_2 := hp 2 rfl
   have d := d.fixR 1 (r' := .box b2 (C75 rv45.2 p46 k47) 75) rfl ((bF h_15).trans ((bF h_13).trans ((bF h_11).trans ((bF hi).trans ((bT h_2))))))
   have h_6 := hp 6 rfl
   have d := ((d.fixR 4 (r' := .row (ad b50) ([0, 0, 3] : List Int).length ([0, 0, 3] : List Int).length [iv 0, iv 0, iv 3] 3 1) rfl ((bF hi).trans ((bT h_6)))).yes 7 rfl h_2).yes 9 rfl h_6
   have h_5 := hp 5 rfl
   refine S_eff rfl ?_
   have s := hS.open_ (.v (t := 26) 5 rfl h_5 (.v (t := 27) 6 rfl h_6 .nil))
   obtain ⟨Sv118, d⟩ := w_share (α := Int) d 4 rfl 0 rfl
   refine cR s (made_Dice_Pick_ok h51 d.dom (d.ins [1] (by decide) rfl) (d.envAt 2 rfl) (d.envAt 0 rfl)) (do_call call47 rfl) rfl ?_
   rintro v122 Sv119 w a h120 ⟨p53, k54, rfl, h123, h55⟩ s
   have d := ((d.callO [1] [0, 2, 3, 4, 5] (by decide) rfl h120 h123).addE (e := Sq p53 k54 rv52.2.L) h55).fixR 0 (r' := (bif l 15 then .box b2 (C75 rv69.2 p70 k71) 75 else (bif l 13 then .box b2 (C75 rv64.2 p65 k66) 75 else (bif l 11 then .box b2 (C75 rv59.2 p60 k61) 75 else .box b2 (C75 rv52.2 p53 k54) 75)))) rfl ((bF h_15).trans ((bF h_13).trans ((bF h_11)))).symm
   have d := ((d.emp).opt 1 rfl true).opt 1 rfl true
   exact nl ⟨b50, b57, b73, k47, k54, k61, k66, k71, p46, p53, p60, p65, p70, Sv119, hS.close (.v (t := 26) 5 rfl h_5 (.v (t := 27) 6 rfl h_6 .nil)) s rfl (.same (.same (.same (.same (.same (.same (.same (.here (.same (.same (.same (.same (.same (.same (.same (.same (.same (.same .nil)))))))))))))))))) 7 rfl, d.gt [2, 1, 3, 4, 0, 5, 6] [6, 7, 8, 9, 10, 11, 12, 13, 14, 1, 0, 17, 18, 19, 20, 21] rfl rfl⟩
  ·intro l hi hp hc a w ⟨b50, b57, b73, k47, k54, k61, k66, k71, p46, p53, p60, p65, p70, S, hS, d⟩
   refine S_val hS (.b (t := 7) rfl .nil) rfl rfl trivial (y_loadBA (d.ownAt 0 rfl) rfl isAgg33 sizeOf33 rfl rfl) (rfl) 8 rfl fun a hS => ⟨b50, b57, b73, k47, k54, k61, k66, k71, p46, p53, p60, p65, p70, S, hS, d⟩
  ·intro l hi hp hc a w ⟨b50, b57, b73, k47, k54, k61, k66, k71, p46, p53, p60, p65, p70, S, hS, d⟩
   refine S_val hS (.b (t := 0) rfl .nil) rfl rfl trivial (y_move rfl) (rfl) 9 rfl fun a hS => ⟨b50, b57, b73, k47, k54, k61, k66, k71, p46, p53, p60, p65, p70, S, hS, d⟩
  ·intro l hi hp hc a w ⟨b50, b57, b73, k47, k54, k61, k66, k71, p46, p53, p60, p65, p70, S, hS, d⟩
   refine S_eff rfl ?_
   have s := hS.open_ .nil
   refine w_litSlice (α := Int) (vs := D16t5) (cs := D16t5) (xs := D16t6) s d El22 rfl rfl rfl rfl rfl rfl ⟨⟨_, rfl, rfl⟩, ⟨⟨_, rfl, rfl⟩, ⟨⟨_, rfl, rfl⟩, ⟨⟨_, rfl, rfl⟩, rfl⟩⟩⟩⟩ rfl trivial rfl fun b57 a w s d => ?_
   have h_11 := l_neg hc 11 hi rfl
   have d := ((d.fixR 0 (r' := (bif l 11 then emp else .row (ad b57) ([0, 0, 10, 500] : List Int).length ([0, 0, 10, 500] : List Int).length Z9 3 1)) rfl ((bF h_11)).symm).opt 0 rfl true).noL h_11 (Sq (ad b57) ([0, 0, 10, 500] : List Int).length ([0, 0, 10, 500] : List Int))
   exact nl ⟨b50, b57, b73, k47, k54, k61, k66, k71, p46, p53, p60, p65, p70, S, hS.close .nil s rfl (.same (.same (.same (.same (.same (.same (.same (.same (.same (.same (.here (.same (.same (.same (.same (.same (.same (.same .nil)))))))))))))))))) 10 rfl, d.gt [1, 2, 3, 4, 5, 0, 7] [3, 4, 5, 6, 7, 8, 9, 10, 11, 12, 13, 1, 0, 16, 17, 18] rfl rfl⟩
  ·intro l hi hp hc a w ⟨b50, b57, b73, k47, k54, k61, k66, k71, p46, p53, p60, p65, p70, S, hS, d⟩
   have h_13 := l_neg hc 13 hi rfl
   have h_15 := l_neg hc 15 h_13 rfl
   have h_7 := hp 7 rfl
   have d := d.fixR 1 (r' := .box b2 (C75 rv52.2 p53 k54) 75) rfl ((bF h_15).trans ((bF h_13).trans ((bF hi).trans ((bT h_7)))))
   have h_10 := hp 10 rfl
   have d := ((d.fixR 5 (r' := .row (ad b57) ([0, 0, 10, 500] : List Int).length ([0, 0, 10, 500] : List Int).length Z9 3 1) rfl ((bF hi).trans ((bT h_10)))).yes 10 rfl h_7).yes 12 rfl h_10
   have h_9 := hp 9 rfl
   refine S_eff rfl ?_
   have s := hS.open_ (.v (t := 30) 9 rfl h_9 (.v (t := 31) 10 rfl h_10 .nil))
   obtain ⟨Sv130, d⟩ := w_share (α := Int) d 5 rfl 0 rfl
   refine cR s (made_Dice_Pick_ok h58 d.dom (d.ins [1] (by decide) rfl) (d.envAt 2 rfl) (d.envAt 0 rfl)) (do_call call47 rfl) rfl ?_
   rintro v134 Sv131 w a h132 ⟨p60, k61, rfl, h135, h62⟩ s
   have d := ((d.callO [1] [0, 2, 3, 4, 5] (by decide) rfl h132 h135).addE (e := Sq p60 k61 rv59.2.L) h62).fixR 0 (r' := (bif l 15 then .box b2 (C75 rv69.2 p70 k71) 75 else (bif l 13 then .box b2 (C75 rv64.2 p65 k66) 75 else .box b2 (C75 rv59.2 p60 k61) 75))) rfl ((bF h_15).trans ((bF h_13))).symm
   have d := ((d.emp).opt 1 rfl true).opt 1 rfl true
   exact nl ⟨b50, b57, b73, k47, k54, k61, k66, k71, p46, p53, p60, p65, p70, Sv131, hS.close (.v (t := 30) 9 rfl h_9 (.v (t := 31) 10 rfl h_10 .nil)) s rfl (.same (.same (.same (.same (.same (.same (.same (.same (.same (.same (.same (.here (.same (.same (.same (.same (.same (.same .nil)))))))))))))))))) 11 rfl, d.gt [2, 1, 3, 4, 5, 0, 6] [6, 7, 8, 9, 10, 11, 12, 13, 14, 15, 16, 17, 1, 0, 20, 21] rfl rfl⟩
  ·intro l hi hp hc a w ⟨b50, b57, b73, k47, k54, k61, k66, k71, p46, p53, p60, p65, p70, S, hS, d⟩
   refine S_val hS (.b (t := 0) rfl .nil) rfl rfl trivial (y_move rfl) (rfl) 12 rfl fun a hS => ⟨b50, b57, b73, k47, k54, k61, k66, k71, p46, p53, p60, p65, p70, S, hS, d⟩
  ·intro l hi hp hc a w ⟨b50, b57, b73, k47, k54, k61, k66, k71, p46, p53, p60, p65, p70, S, hS, d⟩
   have h_15 := l_neg hc 15 hi rfl
   have h_11 := hp 11 rfl
   have d := (d.fixR 1 (r' := .box b2 (C75 rv59.2 p60 k61) 75) rfl ((bF h_15).trans ((bF hi).trans ((bT h_11))))).yes 13 rfl h_11
   have h_12 := hp 12 rfl
   refine S_eff rfl ?_
   have s := hS.open_ (.v (t := 33) 12 rfl h_12 .nil)
   refine cR s (made_Dice_Next_ok h63 d.dom (d.ins [1] (by decide) rfl) (d.envAt 0 rfl)) (do_call call15 rfl) rfl ?_
   rintro v144 Sv141 w a h142 ⟨p65, k66, rfl, h145, h67⟩ s
   have d := ((d.callO [1] [0, 2, 3, 4, 5, 6] (by decide) rfl h142 h145).addE (e := Sq p65 k66 rv64.2.L) h67).fixR 0 (r' := (bif l 15 then .box b2 (C75 rv69.2 p70 k71) 75 else .box b2 (C75 rv64.2 p65 k66) 75)) rfl ((bF h_15)).symm
   have d := d.opt 0 rfl true
   exact nl ⟨b50, b57, b73, k47, k54, k61, k66, k71, p46, p53, p60, p65, p70, Sv141, hS.close (.v (t := 33) 12 rfl h_12 .nil) s rfl (.same (.same (.same (.same (.same (.same (.same (.same (.same (.same (.same (.same (.same (.here (.same (.same (.same (.same .nil)))))))))))))))))) 13 rfl, d.gt [1, 0, 2, 3, 4, 5, 6] [3, 4, 5, 6, 7, 8, 9, 10, 11, 12, 13, 14, 15, 16, 0, 18] rfl rfl⟩
  ·intro l hi hp hc a w ⟨b50, b57, b73, k47, k54, k61, k66, k71, p46, p53, p60, p65, p70, S, hS, d⟩
   refine S_val hS (.b (t := 0) rfl .nil) rfl rfl trivial (y_move rfl) (rfl) 14 rfl fun a hS => ⟨b50, b57, b73, k47, k54, k61, k66, k71, p46, p53, p60, p65, p70, S, hS, d⟩
  ·intro l hi hp hc a w ⟨b50, b57, b73, k47, k54, k61, k66, k71, p46, p53, p60, p65, p70, S, hS, d⟩
   have h_13 := hp 13 rfl
   have d := (d.fixR 1 (r' := .box b2 (C75 rv64.2 p65 k66) 75) rfl ((bF hi).trans ((bT h_13)))).yes 14 rfl h_13
   have h_14 := hp 14 rfl
   refine S_eff rfl ?_
   have s := hS.open_ (.v (t := 35) 14 rfl h_14 .nil)
   refine cR s (made_Dice_Next_ok h68 d.dom (d.ins [1] (by decide) rfl) (d.envAt 0 rfl)) (do_call call15 rfl) rfl ?_
   rintro v154 Sv151 w a h152 ⟨p70, k71, rfl, h155, h72⟩ s
   have d := ((d.callO [1] [0, 2, 3, 4, 5, 6] (by decide) rfl h152 h155).addE (e := Sq p70 k71 rv69.2.L) h72).opt 0 rfl true
   exact nl ⟨b50, b57, b73, k47, k54, k61, k66, k71, p46, p53, p60, p65, p70, Sv151, hS.close (.v (t := 35) 14 rfl h_14 .nil) s rfl (.same (.same (.same (.same (.same (.same (.same (.same (.same (.same (.same (.same (.same (.same (.same (.here (.same (.same .nil)))))))))))))))))) 15 rfl, d.gt [1, 0, 2, 3, 4, 5, 6] [3, 4, 5, 6, 7, 8, 9, 10, 11, 12, 13, 14, 15, 16, 17, 0] rfl rfl⟩
  ·intro l hi hp hc a w ⟨b50, b57, b73, k47, k54, k61, k66, k71, p46, p53, p60, p65, p70, S, hS, d⟩
   have h_15 := hp 15 rfl
   have h_13 := hp 13 rfl
   have h_11 := hp 11 rfl
   have h_8 := hp 8 rfl
   have h_7 := hp 7 rfl
   have h_4 := hp 4 rfl
   have h_0 := hp 0 rfl
   refine S_val hS (.v (t := 21) 0 rfl h_0 (.v (t := 25) 4 rfl h_4 (.v (t := 28) 7 rfl h_7 (.v (t := 29) 8 rfl h_8 (.v (t := 32) 11 rfl h_11 (.v (t := 34) 13 rfl h_13 (.v (t := 36) 15 rfl h_15 .nil))))))) rfl rfl trivial (y_build (vs := [(0, V31 s6), (1, iv (w64 (1000000000000 + (w64 (250000 * rv45.1))))), (2, iv rv52.1), (3, V33 rv37.1), (4, iv rv59.1), (5, iv rv64.1), (6, iv rv69.1)]) Bld35 rfl rfl) (rfl) 16 rfl fun a hS => ⟨b50, b57, b73, k47, k54, k61, k66, k71, p46, p53, p60, p65, p70, S, hS, d⟩
  ·intro l hi hp hc a w ⟨b50, b57, b73, k47, k54, k61, k66, k71, p46, p53, p60, p65, p70, S, hS, d⟩
   refine S_eff rfl ?_
   have s := hS.open_ .nil
   refine wa Z4 s d zeroValue35 fun b73 a w s d => ?_
   have h_18 := l_neg hc 18 hi rfl
   have d := d.fixR 0 (r' := (bif l 18 then .box b73 (E16_0 s6 rv45 rv52 rv37 rv59 rv64 rv69) 35 else .box b73 Z4 35)) rfl ((bF h_18)).symm
   exact nl ⟨b50, b57, b73, k47, k54, k61, k66, k71, p46, p53, p60, p65, p70, S, hS.close .nil s rfl (.same (.same (.same (.same (.same (.same (.same (.same (.same (.same (.same (.same (.same (.same (.same (.same (.same (.here .nil)))))))))))))))))) 17 rfl, d.gt [1, 2, 3, 4, 5, 6, 0] [0, 1, 2, 3, 4, 5, 6, 7, 8, 9, 10, 11, 12, 13, 14, 15] rfl rfl⟩
  ·intro l hi hp hc a w ⟨b50, b57, b73, k47, k54, k61, k66, k71, p46, p53, p60, p65, p70, S, hS, d⟩
   have h_17 := hp 17 rfl
   have d := d.fixR 6 (r' := .box b73 Z4 35) rfl ((bF hi).trans ((bT h_17)))
   have h_16 := hp 16 rfl
   refine S_eff rfl ?_
   have s := hS.open_ (.v (t := 9) 17 rfl h_17 (.v (t := 37) 16 rfl h_16 .nil))
   refine ws (E16_0 s6 rv45 rv52 rv37 rv59 rv64 rv69) s d 6 rfl rfl rfl sizeOf35 fun a w s d => ?_
   exact nl ⟨b50, b57, b73, k47, k54, k61, k66, k71, p46, p53, p60, p65, p70, S, hS.close0 (.v (t := 9) 17 rfl h_17 (.v (t := 37) 16 rfl h_16 .nil)) s rfl, d.gt [0, 1, 2, 3, 4, 5, 6] [0, 1, 2, 3, 4, 5, 6, 7, 8, 9, 10, 11, 12, 13, 14, 15] rfl rfl⟩
  intro l a w hl ⟨b50, b57, b73, k47, k54, k61, k66, k71, p46, p53, p60, p65, p70, S, hS, d⟩
  have d := ((d.yes 15 rfl (hl 15 (by decide))).fixR 1 (r' := .box b2 (C75 rv69.2 p70 k71) 75) rfl (bT (hl 15 (by decide)))).fixR 6 (r' := .box b73 (E16_0 s6 rv45 rv52 rv37 rv59 rv64 rv69) 35) rfl (bT (hl 18 (by decide)))
  have s := hS.on (.b (t := 0) rfl (.b (t := 2) rfl (.b (t := 6) rfl (.v (t := 9) 17 rfl (hl 17 (by decide)) .nil))))
  have d := d.addE (e := SlA (α := Int) none 0 0 []) nil_sl
  exact ⟨S, b73, k71, p70, wj s d [1, 2, 6] [1, 0]⟩
 rintro a w ⟨Sv74, b73, k71, p70, s, d⟩
 refine tn (wp_seq (sn0 2 s rfl fun a s => ?_))
 obtain ⟨rv157, h156, u⟩ := bt u
 refine cR s (made_Dice_Next_ok h156 d.dom (d.ins [0] (by decide) rfl) (d.envAt 0 rfl)) (do_call call15 rfl) rfl ?_
 rintro v164 Sv161 w a h162 ⟨p158, k159, rfl, h165, h160⟩ s
 have d := (d.callO [0] [1, 2] (by decide) rfl h162 h165).addE (e := Sq p158 k159 rv157.2.L) h160
 refine sv s (y_add rfl rfl) rfl fun a s => ?_
 obtain ⟨i167, h166, u⟩ := bt u
 refine sv s (y_assignI rfl h166) rfl fun a s => ?_
 refine nl ?_
 obtain ⟨e232, h295, u⟩ := bt u
 refine wp_join (fun a w => ∃ p233 k234 c235 p236 k237 Sv238, Sl 54 [(6, pt b9), (9, pt b73)] a ∧ Wd ⟨w0, S0, blks [.box b2 (C75 d1 p3 k4) 75]⟩ Sv238 [.box b2 [sl p233 k234 e232.1, iv e232.2.1] 75, .box b9 Z4 35, .box b73 [.string s6.Network, .string s6.Station, .string s6.Location, .string s6.Channel, iv (w64 (1000000000000 + (w64 (250000 * rv45.1)))), iv rv52.1, iv rv37.1.Num, iv rv37.1.Den, iv rv59.1, iv rv64.1, iv rv69.1, sl p236 k237 e232.2.2] 35, .row p236 e232.2.2.length k237 c235 3 1] [Sq p233 k234 e232.1, Sq none 0 ([] : List Int), RowA c235 e232.2.2] w) ?_ ?_
 ·refine wp_block ?_
  have d := d.nilRow Int 3
  refine wp_while (fun sv168 a w => ∃ p207 k208 c209 p210 k211 Sv212, Sl 54 [(0, pt b2), (6, pt b9), (9, pt b73), (10, iv sv168.2.2.2)] a ∧ Wd ⟨w0, S0, blks [.box b2 (C75 d1 p3 k4) 75]⟩ Sv212 [.box b2 [sl p207 k208 sv168.1, iv sv168.2.1] 75, .box b9 Z4 35, .box b73 [.string s6.Network, .string s6.Station, .string s6.Location, .string s6.Channel, iv (w64 (1000000000000 + (w64 (250000 * rv45.1)))), iv rv52.1, iv rv37.1.Num, iv rv37.1.Den, iv rv59.1, iv rv64.1, iv rv69.1, sl p210 k211 sv168.2.2.1] 35, .row p210 sv168.2.2.1.length k211 c209 3 1] [Sq p207 k208 sv168.1, Sq none 0 ([] : List Int), RowA c209 sv168.2.2.1] w) (rv157.2.L, rv157.2.At, ([] : List Int), i167) h295 ⟨p158, k159, [], none, 0, Sv161, wj s d [1, 2, 3, 0] [1, 3, 0]⟩ ?_
  clear h295
  repeat clear u
  rintro sv168 a w tv230 ⟨p207, k208, c209, p210, k211, Sv212, s, d⟩ u hd229
  refine wp_seq (sz0 2 s rfl fun a s => ?_)
  refine cd s u rfl (fun u => ?_) fun u => ?_
  ·refine sk (wp_seq (wp_block ?_))
   obtain ⟨rv255, h254, u⟩ := bt u
   obtain ⟨l262, h261, u⟩ := bt u
   refine wp_only (fun a w => ∃ Sv266 c265 k257 k264 p256 p263, Sl 54 [(0, pt b2), (6, pt b9), (9, pt b73), (10, iv sv168.2.2.2)] a ∧ Wd ⟨w0, S0, blks [.box b2 (C75 d1 p3 k4) 75]⟩ Sv266 [.box b2 (C75 rv255.2 p256 k257) 75, .box b9 Z4 35, .box b73 (E16_1 s6 rv45 rv52 rv37 rv59 rv64 rv69 p263 k264 l262) 35, .row p263 l262.length k264 c265 3 1] [Sq p256 k257 rv255.2.L, Sq none 0 ([] : List Int), RowA c265 l262] w) ?_ ?_
   ·refine h_c [1] [] d rfl rfl (by kernel_rfl) rfl fun hC d => ?_
    refine gn 2 [0, 2] [] s hC rfl rfl rfl fun a s => ?_
    refine h_all (rs := [1, 3]) (by kernel_rfl) rfl ?_
    refine AllH.cons rfl ?_ ?_
    ·refine sv s (y_loadB1 (d.ownAt 2 rfl) rfl isAgg22 rfl) rfl fun a s => ?_
     refine h_n [1] [] d rfl rfl fun hC => ?_
     refine ho 3 rfl ?_
     refine cR s (made_Dice_Next_ok h254 d.dom (d.ins [0] (by decide) rfl) (d.envAt 0 rfl)) (do_call call15 rfl) rfl ?_
     rintro v270 Sv267 w a h268 ⟨p256, k257, rfl, h271, h258⟩ s
     have d := (d.callO [0] [1, 2, 3] (by decide) rfl h268 h271).addE (e := Sq p256 k257 rv255.2.L) h258
     refine h_n [1] [] d rfl rfl fun hC => ?_
     refine ho 4 rfl ?_
     refine w_litSlice (α := Int) (vs := [iv rv255.1]) (cs := [iv rv255.1]) (xs := ([rv255.1] : List Int)) s d El22 rfl rfl rfl rfl rfl rfl ⟨⟨_, rfl, rfl⟩, rfl⟩ rfl trivial rfl fun b260 a w s d => ?_
     refine h_n [2] [] d rfl rfl fun hC => ?_
     refine h_d [2, 0] [] [0] [] d rfl rfl rfl rfl fun hC => ?_
     refine ho 5 rfl ?_
     refine w_appendR (α := Int) s d El22 4 rfl rfl rfl 4 rfl 0 rfl 0 rfl h261 rfl trivial ?_
     intro p263 k264 c265 a w s d
     refine h_n [2, 0] [] d rfl rfl fun hC => ?_
     refine gv s 6 rfl rfl hC (fun w hC => y_fieldAddr (o' := 11) runUnderlying35 rfl sizeOf22 rfl rfl rfl) fun a s => ?_
     refine ho 7 rfl ?_
     refine ws (E16_1 s6 rv45 rv52 rv37 rv59 rv64 rv69 p263 k264 l262) s d 3 rfl rfl rfl sizeOf22 fun a w s d => ?_
     refine h_n [2, 0] [] d rfl rfl fun hC => ?_
     refine h_done (by kernel_rfl) ?_
     exact ⟨Sv267, c265, k257, k264, p256, p263, wj s d [1, 2, 3, 4] [2, 4, 0]⟩
    refine AllH.cons rfl ?_ ?_
    ·refine cR s (made_Dice_Next_ok h254 d.dom (d.ins [0] (by decide) rfl) (d.envAt 0 rfl)) (do_call call15 rfl) rfl ?_
     rintro v275 Sv272 w a h273 ⟨p256, k257, rfl, h276, h258⟩ s
     have d := (d.callO [0] [1, 2, 3] (by decide) rfl h273 h276).addE (e := Sq p256 k257 rv255.2.L) h258
     refine h_n [1] [] d rfl rfl fun hC => ?_
     refine h_all (rs := [1, 4]) (by kernel_rfl) rfl ?_
     refine AllH.cons rfl ?_ ?_
     ·refine sv s (y_loadB1 (d.ownAt 2 rfl) rfl isAgg22 rfl) rfl fun a s => ?_
      refine h_n [1] [] d rfl rfl fun hC => ?_
      refine ho 4 rfl ?_
      refine w_litSlice (α := Int) (vs := [iv rv255.1]) (cs := [iv rv255.1]) (xs := ([rv255.1] : List Int)) s d El22 rfl rfl rfl rfl rfl rfl ⟨⟨_, rfl, rfl⟩, rfl⟩ rfl trivial rfl fun b260 a w s d => ?_
      refine h_n [2] [] d rfl rfl fun hC => ?_
      refine h_d [2, 0] [] [0] [] d rfl rfl rfl rfl fun hC => ?_
      refine ho 5 rfl ?_
      refine w_appendR (α := Int) s d El22 4 rfl rfl rfl 4 rfl 0 rfl 0 rfl h261 rfl trivial ?_
      intro p263 k264 c265 a w s d
      refine h_n [2, 0] [] d rfl rfl fun hC => ?_
      refine gv s 6 rfl rfl hC (fun w hC => y_fieldAddr (o' := 11) runUnderlying35 rfl sizeOf22 rfl rfl rfl) fun a s => ?_
      refine ho 7 rfl ?_
      refine ws (E16_1 s6 rv45 rv52 rv37 rv59 rv64 rv69 p263 k264 l262) s d 3 rfl rfl rfl sizeOf22 fun a w s d => ?_
      refine h_n [2, 0] [] d rfl rfl fun hC => ?_
      refine h_done (by kernel_rfl) ?_
      exact ⟨Sv272, c265, k257, k264, p256, p263, wj s d [1, 2, 3, 4] [2, 4, 0]⟩
     refine AllH.cons rfl ?_ ?_
     ·refine w_litSlice (α := Int) (vs := [iv rv255.1]) (cs := [iv rv255.1]) (xs := ([rv255.1] : List Int)) s d El22 rfl rfl rfl rfl rfl rfl ⟨⟨_, rfl, rfl⟩, rfl⟩ rfl trivial rfl fun b260 a w s d => ?_
      refine h_n [2] [] d rfl rfl fun hC => ?_
      refine h_d [2, 0] [] [0] [] d rfl rfl rfl rfl fun hC => ?_
      refine ho 1 rfl ?_
      refine sv s (y_loadB1 (d.ownAt 3 rfl) rfl isAgg22 rfl) rfl fun a s => ?_
      refine h_n [2, 0] [] d rfl rfl fun hC => ?_
      refine ho 5 rfl ?_
      refine w_appendR (α := Int) s d El22 4 rfl rfl rfl 4 rfl 0 rfl 0 rfl h261 rfl trivial ?_
      intro p263 k264 c265 a w s d
      refine h_n [2, 0] [] d rfl rfl fun hC => ?_
      refine gv s 6 rfl rfl hC (fun w hC => y_fieldAddr (o' := 11) runUnderlying35 rfl sizeOf22 rfl rfl rfl) fun a s => ?_
      refine ho 7 rfl ?_
      refine ws (E16_1 s6 rv45 rv52 rv37 rv59 rv64 rv69 p263 k264 l262) s d 3 rfl rfl rfl sizeOf22 fun a w s d => ?_
      refine h_n [2, 0] [] d rfl rfl fun hC => ?_
      refine h_done (by kernel_rfl) ?_
      exact ⟨Sv272, c265, k257, k264, p256, p263, wj s d [1, 2, 3, 4] [2, 4, 0]⟩
     exact AllH.nil
    exact AllH.nil
   rintro a w ⟨Sv266, c265, k257, k264, p256, p263, s, d⟩
   refine blk_normal (tn (wp_region_lit (rn0 2 s rfl fun a s => ?_)))
   obtain ⟨i293, h292, u⟩ := bt u
   refine sv s (y_assignI rfl h292) rfl fun a s => ?_
   exact nl ⟨_, io u, p256, k257, c265, p263, k264, Sv266, wj s d [0, 1, 2, 3] [0, 1, 2]⟩
  refine wp_exit (then_exit (then_exit (blk_exit ?_)))
  obtain rfl := oi u
  have h294 := hd229 _ rfl
  subst h294
  exact tn ⟨p207, k208, c209, p210, k211, Sv212, wj s d [0, 1, 2, 3] [0, 1, 2]⟩
 rintro a w ⟨p233, k234, c235, p236, k237, Sv238, s, d⟩
 refine tn (sn 1 [2] s d rfl rfl fun a s => ?_)
 refine ws [.string s6.Network, .string s6.Station, .string s6.Location, .string s6.Channel, iv (w64 (1000000000000 + (w64 (250000 * rv45.1)))), iv rv52.1, iv rv37.1.Num, iv rv37.1.Den, iv rv59.1, iv rv64.1, iv rv69.1, sl p236 k237 e232.2.2] s d 1 rfl rfl rfl sizeOf35 fun a w s d => ?_
 refine nl ?_
 obtain rfl := oi u
 exact wp_ret (ret1 s rfl (rv_cell d 1 rfl rfl isAgg35 sizeOf35 rfl) (d.ret ⟨p236, k237, c235, p233, k234, rfl, (d.outs [3, 0] (by decide) rfl), (d.envAt 2 rfl), (d.envAt 0 rfl)⟩))
abbrev made_Dice_Records_rd (w0 : World) (X : List Nat) (b2 : Nat) (r : ((List Record) × Dice)) : (Nat → Prop) → World → Value → Prop := fun S w v => ∃ p0_0 k0_0 c0_0 pq0_0 kq0_0, v = sl p0_0 k0_0 r.1 ∧ Outs X w0 S w [.row p0_0 r.1.length k0_0 c0_0 35 12, .box b2 (C75 r.2 pq0_0 kq0_0) 75] ∧ (RowA c0_0 r.1).p S w ∧ (Sq pq0_0 kq0_0 r.2.L).p S w
theorem made_Dice_Records_ok {w0 S0 b2 p3 k4 d1 n6 r} (u : made_Dice_Records d1 n6 = some r) (hS : Dm S0 w0) (hin : Ins S0 w0 [.box b2 (C75 d1 p3 k4) 75]) (h5 : (Sq p3 k4 d1.L).p S0 w0) : Calls Tryz.prog 14 #[pt b2, iv n6] w0 (Ret (blks [.box b2 (C75 d1 p3 k4) 75]) w0 S0 (made_Dice_Records_rd w0 (blks [.box b2 (C75 d1 p3 k4) 75]) b2 r)) := by
 refine enI 48 func14 rfl hS hin rfl rfl rfl fun a s d => ?_
 have d := d.addE h5
 refine sz0 1 s rfl fun a s => ?_
 refine sn0 1 s rfl fun a s => ?_
 obtain ⟨rv8, h7, u⟩ := bt u
 refine cR s (made_Dice_Source_ok h7 d.dom (d.ins [0] (by decide) rfl) (d.envAt 0 rfl)) (do_call call19 rfl) rfl ?_
 rintro v15 Sv12 w a h13 ⟨p9, k10, rfl, h16, h11⟩ s
 have d := (d.callO [0] [] (by decide) rfl h13 h16).addE (e := Sq p9 k10 rv8.2.L) h11
 refine wa Z0 s d zeroValue31 fun b17 a w s d => ?_
 refine ws (C31 rv8.1) s d 0 rfl rfl rfl sizeOf31 fun a w s d => ?_
 refine nl (sz0 1 s rfl fun a s => ?_)
 refine wp_seq (sn0 3 s rfl fun a s => ?_)
 obtain ⟨rv19, h18, u⟩ := bt u
 refine cR s (made_Dice_Next_ok h18 d.dom (d.ins [1] (by decide) rfl) (d.envAt 0 rfl)) (do_call call15 rfl) rfl ?_
 rintro v26 Sv23 w a h24 ⟨p20, k21, rfl, h27, h22⟩ s
 have d := (d.callO [1] [0] (by decide) rfl h24 h27).addE (e := Sq p20 k21 rv19.2.L) h22
 refine rz0 1 s rfl fun a s => ?_
 obtain ⟨e374, h642, u⟩ := bt u
 refine wp_join (fun a w => ∃ p375 k376 c377 p378 k379 Sv380, Sl 48 [(6, sl p378 k379 e374.2.2)] a ∧ Wd ⟨w0, S0, blks [.box b2 (C75 d1 p3 k4) 75]⟩ Sv380 [.box b2 [sl p375 k376 e374.1, iv e374.2.1] 75, .row p378 e374.2.2.length k379 c377 35 12] [Sq p375 k376 e374.1, RowA c377 e374.2.2] w) ?_ ?_
 ·refine wp_block ?_
  have d := d.nilRow Record 35
  refine wp_while (fun sv28 a w => ∃ p255 k256 c257 p258 k259 Sv260, Sl 48 [(0, pt b2), (5, pt b17), (6, sl p258 k259 sv28.2.2.1), (7, iv sv28.2.2.2)] a ∧ Wd ⟨w0, S0, blks [.box b2 (C75 d1 p3 k4) 75]⟩ Sv260 [.box b2 [sl p255 k256 sv28.1, iv sv28.2.1] 75, .box b17 (C31 rv8.1) 31, .row p258 sv28.2.2.1.length k259 c257 35 12] [Sq p255 k256 sv28.1, RowA c257 sv28.2.2.1] w) (rv19.2.L, rv19.2.At, ([] : List Record), rv19.1) h642 ⟨p20, k21, [], none, 0, Sv23, wj s d [1, 2, 0] [1, 0]⟩ ?_
  clear h642
  repeat clear u
  rintro sv28 a w tv372 ⟨p255, k256, c257, p258, k259, Sv260, s, d⟩ u hd371
  refine wp_seq (sz0 2 s rfl fun a s => ?_)
  refine cd s u rfl (fun u => ?_) fun u => ?_
  ·refine sk (wp_seq (wp_block (sn 2 [1] s d rfl rfl fun a s => ?_)))
   obtain ⟨rv491, h490, u⟩ := bt u
   refine cR s (made_Dice_Record_ok h490 d.dom (d.ins [0] (by decide) rfl) (d.envAt 0 rfl)) (do_call call16 rfl) rfl ?_
   rintro v502 Sv499 w a h500 ⟨p492, k493, c495, p496, k497, rfl, h503, h494, h498⟩ s
   have d := ((d.callO [0] [1, 2] (by decide) rfl h500 h503).addE (e := RowA c495 rv491.1.Samples) h494).addE (e := Sq p496 k497 rv491.2.L) h498
   refine wa Z4 s d zeroValue35 fun b504 a w s d => ?_
   refine ws (C35 rv491.1 p492 k493) s d 0 rfl rfl rfl sizeOf35 fun a w s d => ?_
   refine nl (wp_seq (sn0 4 s rfl fun a s => ?_))
   obtain ⟨c516, hc516, u⟩ := bt u
   refine wpl_join 4 (fun a w => ∃ p517 k518 Sv519, Sl 48 [(0, pt b2), (5, pt b17), (6, sl p258 k259 sv28.2.2.1), (7, iv sv28.2.2.2), (8, pt b504), (29, .bool c516.2.2)] a ∧ Wd ⟨w0, S0, blks [.box b2 (C75 d1 p3 k4) 75]⟩ Sv519 [.box b2 [sl p517 k518 c516.1, iv c516.2.1] 75, .box b17 (C31 rv8.1) 31, .box b504 (C35 rv491.1 p492 k493) 35, .row p492 rv491.1.Samples.length k493 c495 3 1, .row p258 sv28.2.2.1.length k259 c257 35 12] [Sq p517 k518 c516.1, RowA c495 rv491.1.Samples, RowA c257 sv28.2.2.1] w) ?_ ?_
   ·rcases Bool.eq_false_or_eq_true (decide (0 < (sv28.2.2.1.length : Int))) with h515 | h515
    ·have s := s.bT 25 rfl h515
     have u := ite_t hc516 h515
     refine st_val s (y_move rfl) ⟨_, rfl, rfl⟩ rfl rfl fun a s => ?_
     obtain ⟨rv521, h520, u⟩ := bt u
     refine st_callR s (made_Dice_Next_ok h520 d.dom (d.ins [2] (by decide) rfl) (d.envAt 0 rfl)) (do_call call15 rfl) ⟨_, rfl, rfl⟩ rfl rfl ?_
     rintro v528 Sv525 w a h526 ⟨p522, k523, rfl, h529, h524⟩ s
     have d := (d.callO [2] [0, 1, 3, 4] (by decide) rfl h526 h529).addE (e := Sq p522 k523 rv521.2.L) h524
     refine rn0 2 s rfl fun a s => ?_
     refine wpList_nil ?_
     obtain rfl := oi u
     exact tn ⟨p522, k523, Sv525, wj s d [0, 3, 1, 2, 4] [0, 2, 4]⟩
    have s := s.bF 25 rfl h515
    have u := ite_f hc516 h515
    refine rn0 4 s rfl fun a s => ?_
    refine wpList_nil ?_
    obtain rfl := oi u
    exact tn ⟨p496, k497, Sv499, wj s d [2, 3, 0, 1, 4] [0, 1, 3]⟩
   rintro a w ⟨p517, k518, Sv519, s, d⟩
   refine nl (wp_join (fun a w => ∃ (x576 : (List Int)) (x577 : Int) (x578 : ByteArray) (x579 : ByteArray) (x580 : ByteArray) (x581 : ByteArray) (x582 : Int) (x583 : Int) (x584 : Int) (x585 : Int) (x586 : Int) (x587 : Int) (x588 : Int) (x589 : (List Int)) (p571 k572 p573 k574 Sv575 : _), made_Dice_Records_j1 sv28 x576 x577 x578 x579 x580 x581 x582 x583 x584 x585 x586 x587 x588 x589 = some tv372 ∧ Sl 48 [(0, pt b2), (5, pt b17), (6, sl p258 k259 sv28.2.2.1), (7, iv sv28.2.2.2), (8, pt b504)] a ∧ Wd ⟨w0, S0, blks [.box b2 (C75 d1 p3 k4) 75]⟩ Sv575 [.box b2 [sl p571 k572 x576, iv x577] 75, .box b17 (C31 rv8.1) 31, .box b504 [.string x578, .string x579, .string x580, .string x581, iv x582, iv x583, iv x584, iv x585, iv x586, iv x587, iv x588, sl p573 k574 x589] 35, .row p258 sv28.2.2.1.length k259 c257 35 12] [Sq p571 k572 x576, Sq p573 k574 x589, RowA c257 sv28.2.2.1] w) ?_ ?_)
   ·refine cd s u rfl (fun u => ?_) fun u => ?_
    ·refine sn0 4 s rfl fun a s => ?_
     obtain ⟨rv601, h600, u⟩ := bt u
     refine cR s (made_Dice_Next_ok h600 d.dom (d.ins [0] (by decide) rfl) (d.envAt 0 rfl)) (do_call call15 rfl) rfl ?_
     rintro v608 Sv605 w a h606 ⟨p602, k603, rfl, h609, h604⟩ s
     have d := (d.callO [0] [1, 2, 3, 4] (by decide) rfl h606 h609).addE (e := Sq p602 k603 rv601.2.L) h604
     obtain ⟨x612, h610, u⟩ := bt u
     obtain ⟨b619, q616, c617, h620, h613, h614, h618, h611⟩ := d.elemRV (α := Record) 4 rfl 3 rfl h610
     have hsv621 := s
     have hwv622 := d
     subst h620
     have s := hsv621
     have d := hwv622
     obtain ⟨_, _, _, _, _, _, _, _, _, _, _, _, rfl, rfl, rfl, rfl, rfl, rfl, rfl, rfl, rfl, rfl, rfl, rfl, ⟨p623, n624, k625, rfl, h626⟩⟩ := h611
     obtain rfl := h626.1
     have d := d.addE (e := SlA p623 _ k625 x612.Samples) h626
     refine sv s (y_indexAt runUnderlying27 sizeOf35 rfl rfl h613.1 h613.2 h614) rfl fun a s => ?_
     refine sv s (y_loadQA (j := 0) (d.ownAt 4 rfl) rfl isAgg35 sizeOf35 h618 rfl rfl) rfl fun a s => ?_
     refine ws (C35 x612 p623 k625) s d 2 rfl rfl rfl sizeOf35 fun a w s d => ?_
     refine nl (wp_region_lit (rn 3 [2] s d rfl rfl fun a s => ?_))
     refine w_litSlice (α := Int) (vs := [iv x612.Seq, iv 9]) (cs := [iv x612.Seq, iv 9]) (xs := ([x612.Seq, 9] : List Int)) s d El22 rfl rfl rfl rfl rfl rfl ⟨⟨_, rfl, rfl⟩, ⟨⟨_, rfl, rfl⟩, rfl⟩⟩ rfl trivial rfl fun b628 a w s d => ?_
     obtain ⟨rv630, h629, u⟩ := bt u
     obtain ⟨Sv634, d⟩ := w_share (α := Int) d 0 rfl 0 rfl
     refine cR s (made_Dice_Pick_ok h629 d.dom (d.ins [0] (by decide) rfl) (d.envAt 3 rfl) (d.envAt 0 rfl)) (do_call call47 rfl) rfl ?_
     rintro v638 Sv635 w a h636 ⟨p631, k632, rfl, h639, h633⟩ s
     have d := (d.callO [0] [1, 2, 3, 4] (by decide) rfl h636 h639).addE (e := Sq p631 k632 rv630.2.L) h633
     refine sv s (y_fieldAddr (o' := 10) runUnderlying35 rfl sizeOf3 rfl rfl rfl) rfl fun a s => ?_
     refine ws (C35 ⟨x612.Source, x612.Start, x612.First, x612.Rate, x612.Error, x612.Run, rv630.1, x612.Samples⟩ p623 k625) s d 2 rfl rfl rfl sizeOf3 fun a w s d => ?_
     exact nl ⟨rv630.2.L, rv630.2.At, x612.Source.Network, x612.Source.Station, x612.Source.Location, x612.Source.Channel, x612.Start, x612.First, x612.Rate.Num, x612.Rate.Den, x612.Error, x612.Run, rv630.1, x612.Samples, p631, k632, p623, k625, Sv635, u, wj s d [0, 1, 2, 4] [0, 3, 7]⟩
    refine sk ?_
    obtain ⟨Sv640, d⟩ := w_share (α := Int) d 3 rfl 1 rfl
    exact ⟨c516.1, c516.2.1, rv491.1.Source.Network, rv491.1.Source.Station, rv491.1.Source.Location, rv491.1.Source.Channel, rv491.1.Start, rv491.1.First, rv491.1.Rate.Num, rv491.1.Rate.Den, rv491.1.Error, rv491.1.Run, rv491.1.Seq, rv491.1.Samples, p517, k518, p492, k493, Sv640, u, wj s d [0, 1, 2, 3] [1, 0, 3]⟩
   rintro a w ⟨x576, x577, x578, x579, x580, x581, x582, x583, x584, x585, x586, x587, x588, x589, p571, k572, p573, k574, Sv575, u, s, d⟩
   refine tn (wp_region_lit (rn 2 [2] s d rfl rfl fun a s => ?_))
   refine w_litSlice (α := Record) (vs := [.agg #[.string x578, .string x579, .string x580, .string x581, iv x582, iv x583, iv x584, iv x585, iv x586, iv x587, iv x588, sl p573 k574 x589]]) (cs := [.string x578, .string x579, .string x580, .string x581, iv x582, iv x583, iv x584, iv x585, iv x586, iv x587, iv x588, sl p573 k574 x589]) (xs := ([(⟨(⟨x578, x579, x580, x581⟩ : SourceID), x582, x583, (⟨x584, x585⟩ : Rate), x586, x587, x588, x589⟩ : Record)] : List Record)) s d El27 rfl rfl rfl rfl rfl rfl ⟨⟨_, _, _, _, _, _, _, _, _, _, _, _, rfl, rfl, rfl, rfl, rfl, rfl, rfl, rfl, rfl, rfl, rfl, rfl, ⟨_, _, _, rfl, d.envAt 1 rfl⟩⟩, rfl⟩ rfl trivial rfl fun b591 a w s d => ?_
   obtain ⟨l593, h592, u⟩ := bt u
   refine w_appendR (α := Record) s d El27 4 rfl rfl rfl 3 rfl 0 rfl 0 rfl h592 rfl trivial ?_
   intro p594 k595 c596 a w s d
   refine av s rfl rfl fun a s => ?_
   refine wpList_nil ?_
   refine blk_normal (tn (wp_region_lit (rn0 2 s rfl fun a s => ?_)))
   obtain ⟨i598, h597, u⟩ := bt u
   refine sv s (y_assignI rfl h597) rfl fun a s => ?_
   exact nl ⟨_, io u, p571, k572, c596, p594, k595, Sv575, wj s d [1, 2, 4] [2, 0]⟩
  refine wp_exit (then_exit (then_exit (blk_exit ?_)))
  obtain rfl := oi u
  have h641 := hd371 _ rfl
  subst h641
  exact tn ⟨p255, k256, c257, p258, k259, Sv260, wj s d [0, 2] [0, 1]⟩
 rintro a w ⟨p375, k376, c377, p378, k379, Sv380, s, d⟩
 refine tn (sz0 2 s rfl fun a s => ?_)
 obtain rfl := oi u
 exact q1 s rfl (d.ret ⟨p378, k379, c377, p375, k376, rfl, (d.outs [1, 0] (by decide) rfl), (d.envAt 1 rfl), (d.envAt 0 rfl)⟩)
theorem slices_Grow_Lapi_Record_api_Record_n_ok {w0 S0 n1 r} (u : slices_Grow_Lapi_Record_api_Record_n n1 = some r) (hS : Dm S0 w0) : Ck Tryz.prog 96 #[.slice none 0 0, iv n1] w0 S0 [] law15_two_rd r := by
 refine en 27 func96 rfl hS rfl rfl rfl fun a s d => ?_
 refine sz0 1 s rfl fun a s => ?_
 refine wp_seq (sz0 2 s rfl fun a s => ?_)
 refine cd s u rfl (fun u => ?_) fun u => ?_
 ·cases u
 refine sk (wp_seq (sn0 2 s rfl fun a s => ?_))
 refine sv s (y_cap runUnderlying27 rfl) rfl fun a s => ?_
 refine rn0 4 s rfl fun a s => ?_
 obtain ⟨n5, h4, u⟩ := bt u
 refine sv s (y_assignI rfl h4) rfl fun a s => ?_
 refine nl (sz0 2 s rfl fun a s => ?_)
 refine wp_join (fun a w => ∃ (sv23 : (List Record)) (c19 p20 k21 Sv22 : _), slices_Grow_Lapi_Record_api_Record_n_j1 sv23 = some r ∧ Sl 27 [(0, sl p20 k21 sv23)] a ∧ Wd ⟨w0, S0, []⟩ Sv22 [.row p20 sv23.length k21 c19 35 12] [RowA c19 sv23] w) ?_ ?_
 ·refine cd s u rfl (fun u => ?_) fun u => ?_
  ·refine wp_region_lit (rn0 2 s rfl fun a s => ?_)
   refine sv s (y_cap runUnderlying27 rfl) rfl fun a s => ?_
   obtain ⟨l28, h25, u⟩ := bt u
   obtain ⟨h26, h27⟩ := sub_nil 12 h25
   subst h26
   refine sv s (y_slc runUnderlying27 sizeOf35 rfl (by exact rfl) ⟨_, rfl⟩ h27) rfl fun a s => ?_
   refine mv s rfl rfl fun a s => ?_
   obtain ⟨l30, h29, u⟩ := bt u
   refine w_appendMk (α := Record) (z0 := ((⟨(⟨ByteArray.empty, ByteArray.empty, ByteArray.empty, ByteArray.empty⟩ : SourceID), 0, 0, (⟨0, 0⟩ : Rate), 0, 0, 0, ([] : List Int)⟩ : Record) : Record)) s d El27 ⟨_, _, _, _, _, _, _, _, _, _, _, _, rfl, rfl, rfl, rfl, rfl, rfl, rfl, rfl, rfl, rfl, rfl, rfl, ⟨none, 0, 0, rfl, nil_sl⟩⟩ underlying3 rfl rfl h29 rfl rfl trivial ?_
   intro p31 k32 c33 a w s d
   refine rn0 2 s rfl fun a s => ?_
   obtain ⟨l36, h34, u⟩ := bt u
   obtain ⟨d, h35⟩ := w_cut d 0 rfl 0 rfl h34
   refine sv s (y_slc runUnderlying27 sizeOf35 rfl (by exact rfl) ⟨_, rfl⟩ h35) rfl fun a s => ?_
   refine rz0 1 s rfl fun a s => ?_
   exact ⟨l36, (c33.take (l36.length * 12)), p31, k32, S0, u, wj s d [0] [0]⟩
  refine sk ?_
  have d := d.nilRow Record 35
  exact ⟨([] : List Record), [], none, 0, S0, u, wj s d [0] [0]⟩
 rintro a w ⟨sv23, c19, p20, k21, Sv22, u, s, d⟩
 refine tn (sz0 2 s rfl fun a s => ?_)
 obtain rfl := oi u
 exact q1 s rfl (d.ret ⟨p20, k21, c19, rfl, (d.outs [0] (by decide) rfl), (d.envAt 0 rfl)⟩)
theorem slices_Concat_Lapi_Record_api_Record_ok {w0 S0 p2 k3 slices1 r} (u : slices_Concat_Lapi_Record_api_Record slices1 = some r) (hS : Dm S0 w0) (h4 : (Sq p2 k3 slices1).p S0 w0) : Ck Tryz.prog 63 #[sl p2 k3 slices1] w0 S0 [] law15_two_rd r := by
 refine en 36 func63 rfl hS rfl rfl rfl fun a s d => ?_
 have d := d.addE h4
 refine sz0 1 s rfl fun a s => ?_
 refine sz0 1 s rfl fun a s => ?_
 refine wp_seq (sz0 3 s rfl fun a s => ?_)
 obtain ⟨e74, h265, u⟩ := bt u
 refine wp_join (fun a w => ∃ Sv75, Sl 36 [(0, sl p2 k3 slices1), (3, iv e74)] a ∧ Wd ⟨w0, S0, []⟩ Sv75 [] [Sq p2 k3 slices1] w) ?_ ?_
 ·refine wp_block (wp_while (fun sv5 a w => ∃ Sv49, Sl 36 [(0, sl p2 k3 slices1), (3, iv sv5.1), (9, sl p2 k3 slices1), (10, iv (slices1.length : Int)), (11, iv sv5.2)] a ∧ Wd ⟨w0, S0, []⟩ Sv49 [] [Sq p2 k3 slices1] w) (0, 0) h265 ⟨S0, wj s d [] [0]⟩ ?_)
  clear h265
  repeat clear u
  rintro sv5 a w tv72 ⟨Sv49, s, d⟩ u hd71
  refine sz0 1 s rfl fun a s => ?_
  refine wp_seq (cd s u rfl (fun u => ?_) fun u => ?_)
  ·refine sk (wp_seq (wp_block (sr ?_)))
   obtain ⟨x100, h98, u⟩ := bt u
   obtain ⟨b106, o107, q104, c105, h108, h101, h102, h103, h99⟩ := d.elemV 0 rfl h98
   have hsv109 := s
   have hwv110 := d
   subst h108
   have s := hsv109
   have d := hwv110
   obtain ⟨_, rfl, ⟨p111, n112, k113, rfl, h114⟩⟩ := h99
   obtain rfl := h114.1
   have d := (d.addE (e := SlA p111 _ k113 x100) h114).addE h103
   refine sv s (y_indexAt runUnderlying70 sizeOf27 rfl rfl h101.1 h101.2 h102) rfl fun a s => ?_
   refine sv s (y_loadE1 (j := 0) (d.ceAt 0 rfl) rfl isAgg27 rfl) rfl fun a s => ?_
   refine rz0 1 s rfl fun a s => ?_
   refine sn0 4 s rfl fun a s => ?_
   obtain ⟨size116, h115, u⟩ := bt u
   refine sv s (y_assignI rfl h115) rfl fun a s => ?_
   refine nl (sz0 2 s rfl fun a s => ?_)
   refine cd s u rfl (fun u => ?_) fun u => ?_
   ·cases u
   refine wp_skip (blk_normal (tn (wp_region_lit (rz0 2 s rfl fun a s => ?_))))
   exact ⟨_, io u, Sv49, wj s d [] [2]⟩
  refine wp_exit (then_exit (then_exit (blk_exit ?_)))
  obtain rfl := oi u
  have h119 := hd71 _ rfl
  subst h119
  exact tn ⟨Sv49, wj s d [] [0]⟩
 rintro a w ⟨Sv75, s, d⟩
 refine tn (sn0 1 s rfl fun a s => ?_)
 obtain ⟨rv121, h120, u⟩ := bt u
 refine cR s (slices_Grow_Lapi_Record_api_Record_n_ok h120 d.dom) (do_call call96 rfl) rfl ?_
 rintro v129 Sv126 w a h127 ⟨p122, k123, c125, rfl, h130, h124⟩ s
 have d := (d.callN h127 h130).addE (e := RowA c125 rv121) h124
 refine rz0 1 s rfl fun a s => ?_
 refine wp_seq (sz0 3 s rfl fun a s => ?_)
 obtain ⟨e212, h264, u⟩ := bt u
 refine wp_join (fun a w => ∃ c213 p214 k215 Sv216, Sl 36 [(6, sl p214 k215 e212)] a ∧ Wd ⟨w0, S0, []⟩ Sv216 [.row p214 e212.length k215 c213 35 12] [RowA c213 e212] w) ?_ ?_
 ·refine wp_block (wp_while (fun sv131 a w => ∃ c182 p183 k184 Sv185, Sl 36 [(6, sl p183 k184 sv131.1), (25, sl p2 k3 slices1), (26, iv (slices1.length : Int)), (27, iv sv131.2)] a ∧ Wd ⟨w0, S0, []⟩ Sv185 [.row p183 sv131.1.length k184 c182 35 12] [Sq p2 k3 slices1, RowA c182 sv131.1] w) (rv121, 0) h264 ⟨c125, p122, k123, Sv126, wj s d [0] [1, 0]⟩ ?_)
  clear h264
  repeat clear u
  rintro sv131 a w tv210 ⟨c182, p183, k184, Sv185, s, d⟩ u hd209
  refine sz0 1 s rfl fun a s => ?_
  refine wp_seq (cd s u rfl (fun u => ?_) fun u => ?_)
  ·refine sk (wp_seq (wp_block (sr ?_)))
   obtain ⟨x243, h241, u⟩ := bt u
   obtain ⟨b249, o250, q247, c248, h251, h244, h245, h246, h242⟩ := d.elemV 0 rfl h241
   have hsv252 := s
   have hwv253 := d
   subst h251
   have s := hsv252
   have d := hwv253
   obtain ⟨_, rfl, ⟨p254, n255, k256, rfl, h257⟩⟩ := h242
   obtain rfl := h257.1
   have d := (d.addE (e := SlA p254 _ k256 x243) h257).addE h246
   refine sv s (y_indexAt runUnderlying70 sizeOf27 rfl rfl h244.1 h244.2 h245) rfl fun a s => ?_
   refine sv s (y_loadE1 (j := 0) (d.ceAt 0 rfl) rfl isAgg27 rfl) rfl fun a s => ?_
   refine rz0 1 s rfl fun a s => ?_
   refine wp_region_lit (rn0 2 s rfl fun a s => ?_)
   obtain ⟨l259, h258, u⟩ := bt u
   refine w_appendE (α := Record) s d El27 0 rfl rfl rfl 3 rfl 1 rfl h258 rfl trivial ?_
   intro p260 k261 c262 a w s d
   refine av s rfl rfl fun a s => ?_
   refine wpList_nil ?_
   refine blk_normal (tn (wp_region_lit (rz0 2 s rfl fun a s => ?_)))
   exact ⟨_, io u, c262, p260, k261, Sv185, wj s d [0] [3, 0]⟩
  refine wp_exit (then_exit (then_exit (blk_exit ?_)))
  obtain rfl := oi u
  have h263 := hd209 _ rfl
  subst h263
  exact tn ⟨c182, p183, k184, Sv185, wj s d [0] [1]⟩
 rintro a w ⟨c213, p214, k215, Sv216, s, d⟩
 refine tn (sz0 2 s rfl fun a s => ?_)
 obtain rfl := oi u
 exact q1 s rfl (d.ret ⟨p214, k215, c213, rfl, (d.outs [0] (by decide) rfl), (d.envAt 0 rfl)⟩)
abbrev compose_samples_rd (w0 : World) (X : List Nat) (r : (Mo Compose_sample)) : Rd := fun S w v => ∃ b_0, v = .map (some b_0) ∧ Outs X w0 S w [moR Tryz.prog 3 b_0 r]
theorem compose_samples_ok {w0 S0 p2 k3 l1 r} (u : compose_samples l1 = some r) (hS : Dm S0 w0) (h4 : (Sq p2 k3 l1).p S0 w0) : Ck Tryz.prog 64 #[sl p2 k3 l1] w0 S0 [] compose_samples_rd r := by
 refine en 45 func64 rfl hS rfl rfl rfl fun a s d => ?_
 have d := d.addE h4
 refine sz0 1 s rfl fun a s => ?_
 refine sr (w_makeMapO (α := Compose_sample) (kt := 3) s d rfl trivial ?_)
 intro b5 a w s d
 refine rz0 1 s rfl fun a s => ?_
 refine wp_seq (sz0 3 s rfl fun a s => ?_)
 obtain ⟨e558, h1023, u⟩ := bt u
 refine wp_join (fun a w => ∃ Sv559, Sl 45 [(3, .map (some b5))] a ∧ Wd ⟨w0, S0, []⟩ Sv559 [moR Tryz.prog 3 b5 e558] [] w) ?_ ?_
 ·refine wp_block (wp_while (fun sv6 a w => ∃ Sv372, Sl 45 [(3, .map (some b5)), (10, sl p2 k3 l1), (11, iv (l1.length : Int)), (12, iv sv6.2)] a ∧ Wd ⟨w0, S0, []⟩ Sv372 [moR Tryz.prog 3 b5 sv6.1] [Sq p2 k3 l1] w) ((⟨0, []⟩ : Mo Compose_sample), 0) h1023 ⟨S0, wj s d [0] [0]⟩ ?_)
  clear h1023
  repeat clear u
  rintro sv6 a w tv556 ⟨Sv372, s, d⟩ u hd555
  refine sz0 1 s rfl fun a s => ?_
  refine wp_seq (cd s u rfl (fun u => ?_) fun u => ?_)
  ·refine sk (wp_seq (wp_block (sr ?_)))
   obtain ⟨x745, h743, u⟩ := bt u
   obtain ⟨b751, o752, q749, c750, h753, h746, h747, h748, h744⟩ := d.elemV 0 rfl h743
   have hsv754 := s
   have hwv755 := d
   subst h753
   have s := hsv754
   have d := hwv755
   obtain ⟨_, _, _, _, _, _, _, _, _, _, _, _, rfl, rfl, rfl, rfl, rfl, rfl, rfl, rfl, rfl, rfl, rfl, rfl, ⟨p756, n757, k758, rfl, h759⟩⟩ := h744
   obtain rfl := h759.1
   have d := (d.addE (e := SlA p756 _ k758 x745.Samples) h759).addE h748
   refine sv s (y_indexAt runUnderlying27 sizeOf35 rfl rfl h746.1 h746.2 h747) rfl fun a s => ?_
   refine sv s (y_loadEA (j := 0) (d.ceAt 0 rfl) rfl isAgg35 sizeOf35 rfl rfl) rfl fun a s => ?_
   refine wa Z4 s d zeroValue35 fun b760 a w s d => ?_
   refine ws (C35 x745 p756 k758) s d 0 rfl rfl rfl sizeOf35 fun a w s d => ?_
   refine nl (sn 1 [0] s d rfl rfl fun a s => ?_)
   obtain ⟨rv762, h761, u⟩ := bt u
   refine cR s (compose_times_ok h761 d.dom (d.envAt 1 rfl)) (do_call call97 rfl) rfl ?_
   rintro v770 Sv767 w a h768 ⟨p763, k764, c766, rfl, h771, h765⟩ s
   have d := (d.callN h768 h771).addE (e := RowA c766 rv762) h765
   refine rz0 1 s rfl fun a s => ?_
   refine sz 4 [1] s d rfl rfl fun a s => ?_
   obtain ⟨e922, h1021, u⟩ := bt u
   refine wp_join (fun a w => ∃ Sv923, Sl 45 [(3, .map (some b5)), (10, sl (some ⟨b751, o752, none⟩) k3 l1), (11, iv (l1.length : Int)), (12, iv sv6.2)] a ∧ Wd ⟨w0, S0, []⟩ Sv923 [moR Tryz.prog 3 b5 e922] [Sq (some ⟨b751, o752, none⟩) k3 l1] w) ?_ ?_
   ·refine wp_block (wp_while (fun sv772 a w => ∃ Sv870, Sl 45 [(3, .map (some b5)), (6, sl p763 k764 rv762), (10, sl (some ⟨b751, o752, none⟩) k3 l1), (11, iv (l1.length : Int)), (12, iv sv6.2), (19, sl p756 k758 x745.Samples), (20, iv (x745.Samples.length : Int)), (21, iv sv772.2)] a ∧ Wd ⟨w0, S0, []⟩ Sv870 [moR Tryz.prog 3 b5 sv772.1, .row p763 rv762.length k764 c766 3 1] [Sq (some ⟨b751, o752, none⟩) k3 l1, Sq p756 k758 x745.Samples, RowA c766 rv762] w) (sv6.1, 0) h1021 ⟨Sv767, wj s d [2, 0] [3, 2, 0]⟩ ?_)
    clear h1021
    repeat clear u
    rintro sv772 a w tv920 ⟨Sv870, s, d⟩ u hd919
    refine sz0 1 s rfl fun a s => ?_
    refine wp_seq (cd s u rfl (fun u => ?_) fun u => ?_)
    ·refine sk (wp_seq (wp_block (sn0 1 s rfl fun a s => ?_)))
     obtain ⟨x975, h973, u⟩ := bt u
     obtain ⟨b981, o982, q979, c980, h983, h976, h977, h978, h974⟩ := d.elemV 1 rfl h973
     have hsv984 := s
     have hwv985 := d
     subst h983
     have s := hsv984
     have d := hwv985
     obtain ⟨_, rfl, rfl⟩ := h974
     have d := d.addE h978
     refine sv s (y_indexAt runUnderlying22 sizeOf3 rfl rfl h976.1 h976.2 h977) rfl fun a s => ?_
     refine sv s (y_loadE1 (j := 0) (d.ceAt 0 rfl) rfl isAgg3 rfl) rfl fun a s => ?_
     refine rz0 2 s rfl fun a s => ?_
     obtain ⟨x988, h986, u⟩ := bt u
     obtain ⟨b995, q992, c993, h996, h989, h990, h994, h987⟩ := d.elemRV (α := Int) 1 rfl 3 rfl h986
     have hsv997 := s
     have hwv998 := d
     subst h996
     have s := hsv997
     have d := hwv998
     obtain ⟨_, rfl, rfl⟩ := h987
     obtain ⟨x1001, h999, u⟩ := bt u
     obtain ⟨q1005, c1006, h1002, h1003, h1007, h1000⟩ := d.elemRK (α := Int) 1 rfl 3 rfl h999
     obtain ⟨_, rfl, rfl⟩ := h1000
     obtain ⟨x1010, h1008, u⟩ := bt u
     obtain ⟨q1014, c1015, h1011, h1012, h1016, h1009⟩ := d.elemRK (α := Int) 1 rfl 3 rfl h1008
     obtain ⟨_, rfl, rfl⟩ := h1009
     obtain ⟨m1018, h1017, u⟩ := bt u
     refine wp_only (fun a w => ∃ Sv1019, Sl 45 [(3, .map (some b5)), (6, sl (ad b995) k764 rv762), (10, sl (some ⟨b751, o752, none⟩) k3 l1), (11, iv (l1.length : Int)), (12, iv sv6.2), (19, sl (some ⟨b981, o982, none⟩) k758 x745.Samples), (20, iv (x745.Samples.length : Int)), (21, iv sv772.2)] a ∧ Wd ⟨w0, S0, []⟩ Sv1019 [moR Tryz.prog 3 b5 m1018, .row (ad b995) rv762.length k764 c766 3 1] [Sq (some ⟨b751, o752, none⟩) k3 l1, Sq (some ⟨b981, o982, none⟩) k758 x745.Samples, RowA c766 rv762] w) ?_ ?_
     ·refine h_c [1] [0] d rfl rfl (by kernel_rfl) rfl fun hC d => ?_
      refine gn 3 [0, 1, 2] [] s hC rfl rfl rfl fun a s => ?_
      refine gx s 3 rfl trivial rfl hC runUnderlying22 sizeOf3 rfl rfl h989 h990 fun a s => ?_
      refine gv s 4 rfl rfl hC (fun w hC => y_loadQ1 (j := 0) (hC.ownAt 0 rfl) rfl isAgg3 h994 rfl) fun a s => ?_
      refine gn 2 [5, 6] [] s hC rfl rfl rfl fun a s => ?_
      refine gx s 7 rfl trivial rfl hC runUnderlying22 sizeOf3 rfl rfl h1002 h1003 fun a s => ?_
      refine gv s 8 rfl rfl hC (fun w hC => y_loadQ1 (j := 0) (hC.ownAt 0 rfl) rfl isAgg3 h1007 rfl) fun a s => ?_
      refine gn 3 [9, 10, 11] [] s hC rfl rfl rfl fun a s => ?_
      refine gx s 12 rfl trivial rfl hC runUnderlying22 sizeOf3 rfl rfl h1011 h1012 fun a s => ?_
      refine gv s 13 rfl rfl hC (fun w hC => y_loadQ1 (j := 0) (hC.ownAt 0 rfl) rfl isAgg3 h1016 rfl) fun a s => ?_
      refine gm s 14 rfl rfl rfl hC fun a s => ?_
      refine gv s 15 rfl rfl hC (fun w hC => y_build (vs := [(0, iv x1001), (1, iv x1010), (2, iv x975)]) Bld95 rfl rfl) fun a s => ?_
      refine ho 16 rfl ?_
      refine w_updO (α := Compose_sample) (v := (⟨x1001, x1010, x975⟩ : Compose_sample)) (et := 95) s d 0 rfl underlying92 underlying3 rfl rfl rfl rfl h1017 trivial ?_
      intro a w s d
      refine h_n [1] [0] d rfl rfl fun hC => ?_
      refine h_done (by kernel_rfl) ?_
      exact ⟨Sv870, wj s d [0, 1] [1, 2, 3]⟩
     rintro a w ⟨Sv1019, s, d⟩
     refine blk_normal (tn (wp_region_lit (rz0 2 s rfl fun a s => ?_)))
     exact ⟨_, io u, Sv1019, wj s d [0, 1] [0, 1, 2]⟩
    refine wp_exit (then_exit (then_exit (blk_exit ?_)))
    obtain rfl := oi u
    have h1020 := hd919 _ rfl
    subst h1020
    exact tn ⟨Sv870, wj s d [0] [0]⟩
   rintro a w ⟨Sv923, s, d⟩
   refine blk_normal (tn (wp_region_lit (rz0 2 s rfl fun a s => ?_)))
   exact ⟨_, io u, Sv923, wj s d [0] [0]⟩
  refine wp_exit (then_exit (then_exit (blk_exit ?_)))
  obtain rfl := oi u
  have h1022 := hd555 _ rfl
  subst h1022
  exact tn ⟨Sv372, wj s d [0] []⟩
 rintro a w ⟨Sv559, s, d⟩
 refine tn (sz0 2 s rfl fun a s => ?_)
 obtain rfl := oi u
 exact q1 s rfl (d.ret ⟨b5, rfl, (d.outs [0] (by decide) rfl)⟩)
theorem span_Minus_ok {w0 S0 p2 k3 p6 k7 a1 b5 r} (u : span_Minus a1 b5 = some r) (hS : Dm S0 w0) (h4 : (Sq p2 k3 a1).p S0 w0) (h8 : (Sq p6 k7 b5).p S0 w0) : Ck Tryz.prog 65 #[sl p2 k3 a1, sl p6 k7 b5] w0 S0 [] slices_Clone_Lapi_Span_api_Span_rd r := by
 refine en 68 func65 rfl hS rfl rfl rfl fun a s d => ?_
 have d := (d.addE h4).addE h8
 refine sz0 1 s rfl fun a s => ?_
 refine sn0 1 s rfl fun a s => ?_
 obtain ⟨rv10, h9, u⟩ := bt u
 refine cR s (span_Normal_ok h9 d.dom (d.envAt 0 rfl)) (do_call call60 rfl) rfl ?_
 rintro v18 Sv15 w a h16 ⟨p11, k12, c14, rfl, h19, h13⟩ s
 have d := (d.callN h16 h19).addE (e := RowA c14 rv10) h13
 refine rz0 1 s rfl fun a s => ?_
 refine sz0 1 s rfl fun a s => ?_
 refine wp_seq (sn0 1 s rfl fun a s => ?_)
 obtain ⟨rv21, h20, u⟩ := bt u
 refine cR s (span_Normal_ok h20 d.dom (d.envAt 2 rfl)) (do_call call60 rfl) rfl ?_
 rintro v29 Sv26 w a h27 ⟨p22, k23, c25, rfl, h30, h24⟩ s
 have d := (d.callN h27 h30).addE (e := RowA c25 rv21) h24
 refine rz0 2 s rfl fun a s => ?_
 obtain ⟨e520, h933, u⟩ := bt u
 refine wp_join (fun a w => ∃ c521 p522 k523 Sv524, Sl 68 [(5, sl p522 k523 e520)] a ∧ Wd ⟨w0, S0, []⟩ Sv524 [.row p522 e520.length k523 c521 45 2] [RowA c521 e520] w) ?_ ?_
 ·refine wp_block ?_
  have d := d.nilRow Span 45
  refine wp_while (fun sv31 a w => ∃ c354 p355 k356 Sv357, Sl 68 [(1, sl p11 k12 rv10), (5, sl p355 k356 sv31.1), (14, sl p22 k23 rv21), (15, iv (rv21.length : Int)), (16, iv sv31.2)] a ∧ Wd ⟨w0, S0, []⟩ Sv357 [.row p11 rv10.length k12 c14 45 2, .row p355 sv31.1.length k356 c354 45 2, .row p22 rv21.length k23 c25 45 2] [RowA c14 rv10, RowA c354 sv31.1, RowA c25 rv21] w) (([] : List Span), 0) h933 ⟨[], none, 0, Sv26, wj s d [2, 0, 1] [2, 0, 1]⟩ ?_
  clear h933
  repeat clear u
  rintro sv31 a w tv518 ⟨c354, p355, k356, Sv357, s, d⟩ u hd517
  refine sz0 1 s rfl fun a s => ?_
  refine wp_seq (cd s u rfl (fun u => ?_) fun u => ?_)
  ·refine sk (wp_seq (wp_block (sr ?_)))
   obtain ⟨x687, h685, u⟩ := bt u
   obtain ⟨b694, q691, c692, h695, h688, h689, h693, h686⟩ := d.elemRV (α := Span) 2 rfl 2 rfl h685
   have hsv696 := s
   have hwv697 := d
   subst h695
   have s := hsv696
   have d := hwv697
   obtain ⟨_, _, rfl, rfl, rfl⟩ := h686
   refine sv s (y_indexAt runUnderlying52 sizeOf45 rfl rfl h688.1 h688.2 h689) rfl fun a s => ?_
   refine sv s (y_loadQA (j := 0) (d.ownAt 2 rfl) rfl isAgg45 sizeOf45 h693 rfl rfl) rfl fun a s => ?_
   refine wa [iv 0, iv 0] s d zeroValue45 fun b698 a w s d => ?_
   refine ws (C45 x687) s d 0 rfl rfl rfl sizeOf45 fun a w s d => ?_
   refine nl (sz 3 [0] s d rfl rfl fun a s => ?_)
   refine wp_seq (sz0 3 s rfl fun a s => ?_)
   obtain ⟨e825, h931, u⟩ := bt u
   refine wp_join (fun a w => ∃ c826 p827 k828 Sv829, Sl 68 [(1, sl p11 k12 rv10), (5, sl p827 k828 e825.1), (7, pt b698), (8, iv e825.2), (14, sl (ad b694) k23 rv21), (15, iv (rv21.length : Int)), (16, iv sv31.2)] a ∧ Wd ⟨w0, S0, []⟩ Sv829 [.box b698 (C45 x687) 45, .row p11 rv10.length k12 c14 45 2, .row p827 e825.1.length k828 c826 45 2, .row (ad b694) rv21.length k23 c25 45 2] [RowA c14 rv10, RowA c826 e825.1, RowA c25 rv21] w) ?_ ?_
   ·refine wp_block (wp_while (fun sv699 a w => ∃ c780 p781 k782 Sv783, Sl 68 [(1, sl p11 k12 rv10), (5, sl p781 k782 sv699.1), (7, pt b698), (8, iv sv699.2.1), (14, sl (ad b694) k23 rv21), (15, iv (rv21.length : Int)), (16, iv sv31.2), (22, sl p11 k12 rv10), (23, iv (rv10.length : Int)), (24, iv sv699.2.2)] a ∧ Wd ⟨w0, S0, []⟩ Sv783 [.box b698 (C45 x687) 45, .row p11 rv10.length k12 c14 45 2, .row p781 sv699.1.length k782 c780 45 2, .row (ad b694) rv21.length k23 c25 45 2] [RowA c14 rv10, RowA c780 sv699.1, RowA c25 rv21] w) (sv31.1, x687.From, 0) h931 ⟨c354, p355, k356, Sv357, wj s d [0, 1, 2, 3] [0, 1, 2]⟩ ?_)
    clear h931
    repeat clear u
    rintro sv699 a w tv823 ⟨c780, p781, k782, Sv783, s, d⟩ u hd822
    refine sz0 1 s rfl fun a s => ?_
    refine wp_seq (cd s u rfl (fun u => ?_) fun u => ?_)
    ·refine sk (wp_seq (wp_join (fun a w => ∃ (out867 : (List Span)) (atv868 : Int) (c863 p864 k865 Sv866 : _), span_Minus_j1 sv699 out867 atv868 = some tv823 ∧ Sl 68 [(1, sl p11 k12 rv10), (5, sl p864 k865 out867), (7, pt b698), (8, iv atv868), (14, sl (ad b694) k23 rv21), (15, iv (rv21.length : Int)), (16, iv sv31.2), (22, sl p11 k12 rv10), (23, iv (rv10.length : Int)), (24, iv sv699.2.2)] a ∧ Wd ⟨w0, S0, []⟩ Sv866 [.box b698 (C45 x687) 45, .row p11 rv10.length k12 c14 45 2, .row p864 out867.length k865 c863 45 2, .row (ad b694) rv21.length k23 c25 45 2] [RowA c14 rv10, RowA c863 out867, RowA c25 rv21] w) ?_ ?_))
     ·refine wp_block (sr ?_)
      obtain ⟨x871, h869, u⟩ := bt u
      obtain ⟨b878, q875, c876, h879, h872, h873, h877, h870⟩ := d.elemRV (α := Span) 1 rfl 0 rfl h869
      have hsv880 := s
      have hwv881 := d
      subst h879
      have s := hsv880
      have d := hwv881
      obtain ⟨_, _, rfl, rfl, rfl⟩ := h870
      refine sv s (y_indexAt runUnderlying52 sizeOf45 rfl rfl h872.1 h872.2 h873) rfl fun a s => ?_
      refine sv s (y_loadQA (j := 0) (d.ownAt 1 rfl) rfl isAgg45 sizeOf45 h877 rfl rfl) rfl fun a s => ?_
      refine wa [iv 0, iv 0] s d zeroValue45 fun b882 a w s d => ?_
      refine ws (C45 x871) s d 0 rfl rfl rfl sizeOf45 fun a w s d => ?_
      refine nl (wp_seq (sn 5 [0] s d rfl rfl fun a s => ?_))
      refine rO 6 32 [0, 1] s d rfl rfl rfl rfl rfl fun a s => ?_
      refine nl (cd s u rfl (fun u => ?_) fun u => ?_)
      ·exact wp_exit (then_exit (blk_exit (tn ⟨sv699.1, sv699.2.1, c780, p781, k782, Sv783, u, wj s d [1, 2, 3, 4] [0, 1, 2]⟩)))
      refine sk (wp_seq (sz 4 [0] s d rfl rfl fun a s => ?_))
      refine wp_join (fun a w => ∃ (out898 : (List Span)) (c894 p895 k896 Sv897 : _), span_Minus_j2 sv699 x871 out898 = some tv823 ∧ Sl 68 [(1, sl (ad b878) k12 rv10), (5, sl p895 k896 out898), (7, pt b698), (8, iv sv699.2.1), (10, pt b882), (14, sl (ad b694) k23 rv21), (15, iv (rv21.length : Int)), (16, iv sv31.2), (22, sl (ad b878) k12 rv10), (23, iv (rv10.length : Int)), (24, iv sv699.2.2)] a ∧ Wd ⟨w0, S0, []⟩ Sv897 [.box b698 (C45 x687) 45, .box b882 (C45 x871) 45, .row (ad b878) rv10.length k12 c14 45 2, .row p895 out898.length k896 c894 45 2, .row (ad b694) rv21.length k23 c25 45 2] [RowA c14 rv10, RowA c894 out898, RowA c25 rv21] w) ?_ ?_
      ·refine cd s u rfl (fun u => ?_) fun u => ?_
       ·refine wp_region_lit (rn 4 [0] s d rfl rfl fun a s => ?_)
        refine sv s (y_build (vs := [(0, iv sv699.2.1), (1, iv x871.From)]) Bld45 rfl rfl) rfl fun a s => ?_
        refine w_litSlice (α := Span) (vs := [.agg #[iv sv699.2.1, iv x871.From]]) (cs := [iv sv699.2.1, iv x871.From]) (xs := ([(⟨sv699.2.1, x871.From⟩ : Span)] : List Span)) s d El52 rfl rfl rfl rfl rfl rfl ⟨⟨_, _, rfl, rfl, rfl⟩, rfl⟩ rfl trivial rfl fun b903 a w s d => ?_
        obtain ⟨l905, h904, u⟩ := bt u
        refine w_appendR (α := Span) s d El52 4 rfl rfl rfl 2 rfl 0 rfl 0 rfl h904 rfl trivial ?_
        intro p906 k907 c908 a w s d
        refine rz0 1 s rfl fun a s => ?_
        exact ⟨l905, c908, p906, k907, Sv783, u, wj s d [2, 1, 3, 4, 5] [2, 0, 4]⟩
       exact sk ⟨sv699.1, c780, p781, k782, Sv783, u, wj s d [1, 0, 2, 3, 4] [0, 1, 2]⟩
      rintro a w ⟨out898, c894, p895, k896, Sv897, u, s, d⟩
      refine tn (wp_region_lit (rn 4 [1] s d rfl rfl fun a s => ?_))
      obtain ⟨atv900, h899, u⟩ := bt u
      refine sv s (y_assignI rfl h899) rfl fun a s => ?_
      refine wpList_nil ?_
      exact blk_normal (tn ⟨out898, atv900, c894, p895, k896, Sv897, u, wj s d [0, 2, 3, 4] [0, 1, 2]⟩)
     rintro a w ⟨out867, atv868, c863, p864, k865, Sv866, u, s, d⟩
     refine tn (wp_region_lit (rz0 2 s rfl fun a s => ?_))
     exact ⟨_, io u, c863, p864, k865, Sv866, wj s d [0, 1, 2, 3] [0, 1, 2]⟩
    refine wp_exit (then_exit (then_exit (blk_exit ?_)))
    obtain rfl := oi u
    have h909 := hd822 _ rfl
    subst h909
    exact tn ⟨c780, p781, k782, Sv783, wj s d [0, 1, 2, 3] [0, 1, 2]⟩
   rintro a w ⟨c826, p827, k828, Sv829, s, d⟩
   refine tn (sz 4 [0] s d rfl rfl fun a s => ?_)
   refine wp_join (fun a w => ∃ (out922 : (List Span)) (c918 p919 k920 Sv921 : _), span_Minus_j4 sv31 out922 = some tv518 ∧ Sl 68 [(1, sl p11 k12 rv10), (5, sl p919 k920 out922), (14, sl (ad b694) k23 rv21), (15, iv (rv21.length : Int)), (16, iv sv31.2)] a ∧ Wd ⟨w0, S0, []⟩ Sv921 [.row p11 rv10.length k12 c14 45 2, .row p919 out922.length k920 c918 45 2, .row (ad b694) rv21.length k23 c25 45 2] [RowA c14 rv10, RowA c918 out922, RowA c25 rv21] w) ?_ ?_
   ·refine cd s u rfl (fun u => ?_) fun u => ?_
    ·refine wp_region_lit (rn 4 [0] s d rfl rfl fun a s => ?_)
     refine sv s (y_build (vs := [(0, iv e825.2), (1, iv x687.To)]) Bld45 rfl rfl) rfl fun a s => ?_
     refine w_litSlice (α := Span) (vs := [.agg #[iv e825.2, iv x687.To]]) (cs := [iv e825.2, iv x687.To]) (xs := ([(⟨e825.2, x687.To⟩ : Span)] : List Span)) s d El52 rfl rfl rfl rfl rfl rfl ⟨⟨_, _, rfl, rfl, rfl⟩, rfl⟩ rfl trivial rfl fun b925 a w s d => ?_
     obtain ⟨l927, h926, u⟩ := bt u
     refine w_appendR (α := Span) s d El52 3 rfl rfl rfl 2 rfl 0 rfl 0 rfl h926 rfl trivial ?_
     intro p928 k929 c930 a w s d
     refine rz0 1 s rfl fun a s => ?_
     exact ⟨l927, c930, p928, k929, Sv829, u, wj s d [2, 3, 4] [2, 0, 4]⟩
    exact sk ⟨e825.1, c826, p827, k828, Sv829, u, wj s d [1, 2, 3] [0, 1, 2]⟩
   rintro a w ⟨out922, c918, p919, k920, Sv921, u, s, d⟩
   refine blk_normal (tn (wp_region_lit (rz0 2 s rfl fun a s => ?_)))
   exact ⟨_, io u, c918, p919, k920, Sv921, wj s d [0, 1, 2] [0, 1, 2]⟩
  refine wp_exit (then_exit (then_exit (blk_exit ?_)))
  obtain rfl := oi u
  have h932 := hd517 _ rfl
  subst h932
  exact tn ⟨c354, p355, k356, Sv357, wj s d [1] [1]⟩
 rintro a w ⟨c521, p522, k523, Sv524, s, d⟩
 refine tn (sz0 2 s rfl fun a s => ?_)
 obtain rfl := oi u
 exact q1 s rfl (d.ret ⟨p522, k523, c521, rfl, (d.outs [0] (by decide) rfl), (d.envAt 0 rfl)⟩)
abbrev compose_Latest_rd (w0 : World) (X : List Nat) (r : ((List Span) × Int)) : Rd := fun S w v => ∃ p0_0 k0_0 c0_0, v = .tuple #[sl p0_0 k0_0 r.1, iv r.2] ∧ Outs X w0 S w [.row p0_0 r.1.length k0_0 c0_0 45 2] ∧ (RowA c0_0 r.1).p S w
theorem compose_Latest_ok {w0 S0 p2 k3 p6 k7 a1 b5 r} (u : compose_Latest a1 b5 = some r) (hS : Dm S0 w0) (h4 : (Sq p2 k3 a1).p S0 w0) (h8 : (Sq p6 k7 b5).p S0 w0) : Ck Tryz.prog 35 #[sl p2 k3 a1, sl p6 k7 b5] w0 S0 [] compose_Latest_rd r := by
 refine en 81 func35 rfl hS rfl rfl rfl fun a s d => ?_
 have d := (d.addE h4).addE h8
 refine sz0 2 s rfl fun a s => ?_
 refine wp_seq (sn0 1 s rfl fun a s => ?_)
 obtain ⟨rv10, h9, u⟩ := bt u
 refine cV s d (compose_Valid_ok h9 d.bdom (d.bE 1 rfl)) (do_call call41 rfl) rfl fun a w s d => ?_
 refine rn0 2 s rfl fun a s => ?_
 obtain ⟨c24, hc24, u⟩ := bt u
 refine wpl_join 4 (fun a w => ∃ Sv25, Sl 81 [(0, sl p2 k3 a1), (1, sl p6 k7 b5), (24, .bool c24)] a ∧ Wd ⟨w0, S0, []⟩ Sv25 [] [Sq p2 k3 a1, Sq p6 k7 b5] w) ?_ ?_
 ·rcases Bool.eq_false_or_eq_true (!rv10) with h23 | h23
  ·have s := s.bT 20 rfl h23
   have u := ite_t hc24 h23
   refine rn0 4 s rfl fun a s => ?_
   refine wpList_nil ?_
   obtain rfl := oi u
   exact tn ⟨S0, wj s d [] [1, 0]⟩
  have s := s.bF 20 rfl h23
  have u := ite_f hc24 h23
  refine st_val s (y_move rfl) ⟨_, rfl, rfl⟩ rfl rfl fun a s => ?_
  obtain ⟨rv27, h26, u⟩ := bt u
  refine st_callR s (compose_Valid_ok h26 d.bdom (d.bE 0 rfl)) (do_call call41 rfl) ⟨_, rfl, rfl⟩ rfl rfl ?_
  rintro v31 Sv28 w a h29 rfl s
  have d := d.callB h29
  refine rn0 2 s rfl fun a s => ?_
  refine wpList_nil ?_
  obtain rfl := oi u
  exact tn ⟨S0, wj s d [] [1, 0]⟩
 rintro a w ⟨Sv25, s, d⟩
 refine nl (cd s u rfl (fun u => ?_) fun u => ?_)
 ·refine sz0 2 s rfl fun a s => ?_
  obtain rfl := oi u
  have d := d.nilRow Span 45
  exact wp_ret (then_ret (ret2 s rfl (rv_tmp rfl) (rv_tmp rfl) (d.ret ⟨none, 0, [], rfl, (d.outs [0] (by decide) rfl), (d.envAt 0 rfl)⟩)))
 refine sk (sn0 1 s rfl fun a s => ?_)
 obtain ⟨rv36, h35, u⟩ := bt u
 refine cR s (compose_compose_ok h35 d.dom (d.envAt 0 rfl)) (do_call call49 rfl) rfl ?_
 rintro v44 Sv41 w a h42 ⟨p37, k38, c40, rfl, h45, h39⟩ s
 have d := (d.callN h42 h45).addE (e := RowA c40 rv36) h39
 refine mv s rfl rfl fun a s => ?_
 obtain ⟨rv47, h46, u⟩ := bt u
 refine cR s (compose_compose_ok h46 d.dom (d.envAt 2 rfl)) (do_call call49 rfl) rfl ?_
 rintro v55 Sv52 w a h53 ⟨p48, k49, c51, rfl, h56, h50⟩ s
 have d := (d.callN h53 h56).addE (e := RowA c51 rv47) h50
 refine rz0 2 s rfl fun a s => ?_
 refine sz0 2 s rfl fun a s => ?_
 refine wp_seq (sn0 2 s rfl fun a s => ?_)
 obtain ⟨Sv59, d⟩ := w_share (α := Record) d 1 rfl 1 rfl
 obtain ⟨Sv60, d⟩ := w_share (α := Record) d 0 rfl 1 rfl
 refine w_litSlice (α := (List Record)) (vs := [sl p37 k38 rv36, sl p48 k49 rv47]) (cs := [sl p37 k38 rv36, sl p48 k49 rv47]) (xs := ([rv36, rv47] : List (List Record))) s d El70 rfl rfl rfl rfl rfl rfl ⟨⟨_, rfl, ⟨_, _, _, rfl, d.envAt 1 rfl⟩⟩, ⟨⟨_, rfl, ⟨_, _, _, rfl, d.envAt 0 rfl⟩⟩, rfl⟩⟩ rfl trivial rfl fun b58 a w s d => ?_
 obtain ⟨rv62, h61, u⟩ := bt u
 obtain ⟨Sv67, d⟩ := w_share (α := (List Record)) d 0 rfl 0 rfl
 refine cR s (slices_Concat_Lapi_Record_api_Record_ok h61 d.dom (d.envAt 0 rfl)) (do_call call63 rfl) rfl ?_
 rintro v71 Sv68 w a h69 ⟨p63, k64, c66, rfl, h72, h65⟩ s
 have d := (d.callN h69 h72).addE (e := RowA c66 rv62) h65
 refine rz0 2 s rfl fun a s => ?_
 obtain ⟨e184, h453, u⟩ := bt u
 refine wp_join (fun a w => ∃ c185 p186 k187 Sv188, Sl 81 [(6, sl p37 k38 rv36), (7, sl p48 k49 rv47), (8, sl p186 k187 e184), (9, .slice none ([] : List Span).length 0)] a ∧ Wd ⟨w0, S0, []⟩ Sv188 [.row p186 e184.length k187 c185 45 2] [Sq p37 k38 rv36, Sq p48 k49 rv47, Sq none 0 ([] : List Span), RowA c185 e184] w) ?_ ?_
 ·refine wp_block ?_
  have d := (d.nilRow Span 45).addE (e := SlA (α := Span) none 0 0 []) nil_sl
  refine wp_while (fun sv73 a w => ∃ c144 p145 k146 Sv147, Sl 81 [(6, sl p37 k38 rv36), (7, sl p48 k49 rv47), (8, sl p145 k146 sv73.1), (9, .slice none ([] : List Span).length 0), (32, sl p63 k64 rv62), (33, iv (rv62.length : Int)), (34, iv sv73.2)] a ∧ Wd ⟨w0, S0, []⟩ Sv147 [.row p145 sv73.1.length k146 c144 45 2, .row p63 rv62.length k64 c66 35 12] [Sq p37 k38 rv36, Sq p48 k49 rv47, Sq none 0 ([] : List Span), RowA c144 sv73.1, RowA c66 rv62] w) (([] : List Span), 0) h453 ⟨[], none, 0, Sv68, wj s d [0, 1] [6, 5, 0, 1, 2]⟩ ?_
  clear h453
  repeat clear u
  rintro sv73 a w tv182 ⟨c144, p145, k146, Sv147, s, d⟩ u hd181
  refine sz0 1 s rfl fun a s => ?_
  refine wp_seq (cd s u rfl (fun u => ?_) fun u => ?_)
  ·refine sk (wp_seq (wp_block (sr ?_)))
   obtain ⟨x225, h223, u⟩ := bt u
   obtain ⟨b232, q229, c230, h233, h226, h227, h231, h224⟩ := d.elemRV (α := Record) 1 rfl 4 rfl h223
   have hsv234 := s
   have hwv235 := d
   subst h233
   have s := hsv234
   have d := hwv235
   obtain ⟨_, _, _, _, _, _, _, _, _, _, _, _, rfl, rfl, rfl, rfl, rfl, rfl, rfl, rfl, rfl, rfl, rfl, rfl, ⟨p236, n237, k238, rfl, h239⟩⟩ := h224
   obtain rfl := h239.1
   have d := d.addE (e := SlA p236 _ k238 x225.Samples) h239
   refine sv s (y_indexAt runUnderlying27 sizeOf35 rfl rfl h226.1 h226.2 h227) rfl fun a s => ?_
   refine sv s (y_loadQA (j := 0) (d.ownAt 1 rfl) rfl isAgg35 sizeOf35 h231 rfl rfl) rfl fun a s => ?_
   refine wa Z4 s d zeroValue35 fun b240 a w s d => ?_
   refine ws (C35 x225 p236 k238) s d 0 rfl rfl rfl sizeOf35 fun a w s d => ?_
   refine nl (wp_region_lit (rn 2 [0] s d rfl rfl fun a s => ?_))
   obtain ⟨rv242, h241, u⟩ := bt u
   refine cV s d (compose_extent_ok h241 d.bdom (d.bE 0 rfl)) (do_call call59 rfl) rfl fun a w s d => ?_
   refine w_litSlice (α := Span) (vs := [V45 rv242]) (cs := (C45 rv242)) (xs := ([rv242] : List Span)) s d El52 rfl rfl rfl rfl rfl rfl ⟨⟨_, _, rfl, rfl, rfl⟩, rfl⟩ rfl trivial rfl fun b249 a w s d => ?_
   obtain ⟨l251, h250, u⟩ := bt u
   refine w_appendR (α := Span) s d El52 2 rfl rfl rfl 5 rfl 0 rfl 0 rfl h250 rfl trivial ?_
   intro p252 k253 c254 a w s d
   refine av s rfl rfl fun a s => ?_
   refine wpList_nil ?_
   refine blk_normal (tn (wp_region_lit (rz0 2 s rfl fun a s => ?_)))
   exact ⟨_, io u, c254, p252, k253, Sv147, wj s d [2, 3] [3, 4, 5, 0, 7]⟩
  refine wp_exit (then_exit (then_exit (blk_exit ?_)))
  obtain rfl := oi u
  have h255 := hd181 _ rfl
  subst h255
  exact tn ⟨c144, p145, k146, Sv147, wj s d [0] [0, 1, 2, 3]⟩
 rintro a w ⟨c185, p186, k187, Sv188, s, d⟩
 refine tn (sn0 1 s rfl fun a s => ?_)
 obtain ⟨rv257, h256, u⟩ := bt u
 refine cR s (compose_samples_ok h256 d.dom (d.envAt 1 rfl)) (do_call call64 rfl) rfl ?_
 rintro v262 Sv259 w a h260 ⟨b258, rfl, h263⟩ s
 have d := d.callN h260 h263
 refine rz0 1 s rfl fun a s => ?_
 refine wp_seq (sn0 1 s rfl fun a s => ?_)
 obtain ⟨rv265, h264, u⟩ := bt u
 refine cR s (compose_samples_ok h264 d.dom (d.envAt 0 rfl)) (do_call call64 rfl) rfl ?_
 rintro v270 Sv267 w a h268 ⟨b266, rfl, h271⟩ s
 have d := d.callN h268 h271
 refine w_rangeO (α := Compose_sample) s d 0 rfl underlying92 underlying3 rfl trivial rfl ?_
 intro o272 b273 a w _ s d
 refine nl (wp_block ?_)
 have d := d.nilRow Span 45
 refine wp_range (fun (v346 : List (Int × Compose_sample)) sv344 a w => ∃ c392 p393 k394 Sv395, Sl 81 [(8, sl p186 k187 e184), (9, sl p393 k394 sv344), (12, .map (some b258)), (48, pt b273)] a ∧ Wd ⟨w0, S0, []⟩ Sv395 [moR Tryz.prog 3 b258 rv257, .ob b266 (fun o => o = o272), itR Tryz.prog 3 o272 b266 b273 rv265 v346, .row p186 e184.length k187 c185 45 2, .row p393 sv344.length k394 c392 45 2] [RowA c185 e184, RowA c392 sv344] w) ([] : List Span) u ⟨[], none, 0, Sv267, wj s d [3, 2, 1, 4, 0] [4, 0]⟩ ?_
 repeat clear u
 rintro v346 sv344 a w _ hd348 hm349 ⟨c392, p393, k394, Sv395, s, d⟩
 refine sr (w_nextO (α := Compose_sample) (ve := fun e345 => V95 e345.2) s d 2 1 rfl rfl underlying3 rfl trivial rfl (fun _ => rfl) ?_ ?_)
 ·intro a hp s
  have u := hd348 hp
  clear hd348 hm349
  refine rz0 1 s rfl fun a s => ?_
  refine wp_seq (wp_cond_false (s.ev rfl) ?_)
  refine wp_exit (then_exit (then_exit (blk_exit (tn (sn0 2 s rfl fun a s => ?_)))))
  obtain ⟨rv397, h396, u⟩ := bt u
  obtain ⟨Sv402, d⟩ := w_share (α := Span) d 3 rfl 0 rfl
  obtain ⟨Sv403, d⟩ := w_share (α := Span) d 3 rfl 2 rfl
  refine cR s (span_Minus_ok h396 d.dom (d.envAt 1 rfl) (d.envAt 0 rfl)) (do_call call65 rfl) rfl ?_
  rintro v407 Sv404 w a h405 ⟨p398, k399, c401, rfl, h408, h400⟩ s
  have d := (d.callN h405 h408).addE (e := RowA c401 rv397) h400
  refine rz0 2 s rfl fun a s => ?_
  obtain rfl := oi u
  exact wp_ret (ret2 s rfl (rv_tmp rfl) (rv_tmp rfl) (d.ret ⟨p398, k399, c401, rfl, (d.outs [0] (by decide) rfl), (d.envAt 0 rfl)⟩))
 intro e345 a w _ hc350 s d
 obtain ⟨tv347, u⟩ := hm349 e345 hc350
 have hf351 := u
 refine rz0 1 s rfl fun a s => ?_
 refine wp_seq (wp_cond_true (s.ev rfl) ?_)
 refine sk (wp_block (sr (sv s (y_entryO (α := Compose_sample) (vv := V95 e345.2) (d.ownAt 2 rfl) (d.ownAt 1 rfl) rfl rfl) rfl fun a s => ?_)))
 refine rn0 2 s rfl fun a s => ?_
 refine wa [iv 0, iv 0, iv 0] s d zeroValue95 fun b427 a w s d => ?_
 refine av s rfl rfl fun a s => ?_
 refine ws (C95 e345.2) s d 0 rfl rfl rfl sizeOf95 fun a w s d => ?_
 refine nl (sn0 2 s rfl fun a s => ?_)
 obtain ⟨g429, h428, u⟩ := bt u
 refine sv s (y_lookO (α := Compose_sample) (vv := V95 g429.1) (d.ownAt 1 rfl) underlying92 underlying3 zeroValue95 rfl rfl rfl h428 rfl) rfl fun a s => ?_
 refine rn0 3 s rfl fun a s => ?_
 refine wa [iv 0, iv 0, iv 0] s d zeroValue95 fun b430 a w s d => ?_
 refine ws (C95 g429.1) s d 0 rfl rfl rfl sizeOf95 fun a w s d => ?_
 refine rz0 1 s rfl fun a s => ?_
 refine sn0 2 s rfl fun a s => ?_
 refine rA 6 61 [0, 1] s d rfl rfl rfl rfl rfl fun a s => ?_
 refine nl (wp_join (fun a w => ∃ (same444 : (List Span)) (c440 p441 k442 Sv443 : _), compose_Latest_j2 same444 = some tv347 ∧ Sl 81 [(8, sl p186 k187 e184), (9, sl p441 k442 same444), (12, .map (some b258)), (48, pt b273)] a ∧ Wd ⟨w0, S0, []⟩ Sv443 [moR Tryz.prog 3 b258 rv257, .ob b266 (fun o => o = o272), itR Tryz.prog 3 o272 b266 b273 rv265 (e345 :: v346), .row p186 e184.length k187 c185 45 2, .row p441 same444.length k442 c440 45 2] [RowA c185 e184, RowA c440 same444] w) ?_ ?_)
 ·refine cd s u rfl (fun u => ?_) fun u => ?_
  ·refine wp_region_lit (rn 7 [1, 0] s d rfl rfl fun a s => ?_)
   refine sv s (y_build (vs := [(0, iv e345.1), (1, iv (min e345.2.to_ g429.1.to_))]) Bld45 rfl rfl) rfl fun a s => ?_
   refine w_litSlice (α := Span) (vs := [.agg #[iv e345.1, iv (min e345.2.to_ g429.1.to_)]]) (cs := [iv e345.1, iv (min e345.2.to_ g429.1.to_)]) (xs := ([(⟨e345.1, (min e345.2.to_ g429.1.to_)⟩ : Span)] : List Span)) s d El52 rfl rfl rfl rfl rfl rfl ⟨⟨_, _, rfl, rfl, rfl⟩, rfl⟩ rfl trivial rfl fun b447 a w s d => ?_
   obtain ⟨l449, h448, u⟩ := bt u
   refine w_appendR (α := Span) s d El52 7 rfl rfl rfl 2 rfl 0 rfl 0 rfl h448 rfl trivial ?_
   intro p450 k451 c452 a w s d
   refine rz0 1 s rfl fun a s => ?_
   exact ⟨l449, c452, p450, k451, Sv395, u, wj s d [3, 4, 5, 6, 7] [2, 0]⟩
  exact sk ⟨sv344, c392, p393, k394, Sv395, u, wj s d [2, 3, 4, 5, 6] [0, 1]⟩
 rintro a w ⟨same444, c440, p441, k442, Sv443, u, s, d⟩
 exact blk_normal (tn ⟨e345, _, hc350, hf351.trans u.symm, c440, p441, k442, Sv443, wj s d [0, 1, 2, 3, 4] [0, 1]⟩)
theorem ref03_code_ok {w0 S0 s1 lo2 hi3 r} (u : ref03_code s1 lo2 hi3 = some r) (hS : Dm S0 w0) : Ck Tryz.prog 106 #[.string s1, iv lo2, iv hi3] w0 S0 [] made_Light_rd r := by
 refine en 47 func106 rfl hS rfl rfl rfl fun a s d => ?_
 refine sz0 1 s rfl fun a s => ?_
 refine wp_seq (sz0 1 s rfl fun a s => ?_)
 refine wp_block (wp_while (fun sv111 a w => ∃ Sv181, Sl 47 [(0, .string s1), (1, iv lo2), (2, iv hi3), (7, iv sv111)] a ∧ Wd ⟨w0, S0, []⟩ Sv181 [] [] w) 0 u ⟨S0, wj s d [] []⟩ ?_)
 repeat clear u
 rintro sv111 a w tv217 ⟨Sv181, s, d⟩ u hd216
 refine wp_seq (sz0 4 s rfl fun a s => ?_)
 refine cd s u rfl (fun u => ?_) fun u => ?_
 ·refine sk (wp_seq (wp_block (sn0 2 s rfl fun a s => ?_)))
  obtain ⟨c254, h253, u⟩ := bt u
  refine sv s (y_indexSM runUnderlying9 rfl rfl h253) rfl fun a s => ?_
  refine sv s (y_geq (rfl) rfl) rfl fun a s => ?_
  refine mv s rfl rfl fun a s => ?_
  obtain ⟨c258, hc258, u⟩ := bt u
  refine wpl_join 5 (fun a w => ∃ Sv259, Sl 47 [(0, .string s1), (1, iv lo2), (2, iv hi3), (7, iv sv111), (23, .bool c258)] a ∧ Wd ⟨w0, S0, []⟩ Sv259 [] [] w) ?_ ?_
  ·rcases Bool.eq_false_or_eq_true (decide (65 ≤ c254)) with h257 | h257
   ·have s := s.bT 18 rfl h257
    have u := ite_t hc258 h257
    refine rn0 2 s rfl fun a s => ?_
    obtain ⟨c261, h260, u⟩ := bt u
    refine st_val s (y_indexSM runUnderlying9 rfl rfl h260) ⟨_, rfl, rfl⟩ rfl rfl fun a s => ?_
    refine st_val s (y_leq (rfl) rfl) ⟨_, rfl, rfl⟩ rfl rfl fun a s => ?_
    refine sv s (y_pickT rfl rfl) rfl fun a s => ?_
    refine wpList_nil ?_
    obtain rfl := oi u
    exact tn ⟨Sv181, wj s d [] []⟩
   have s := s.bF 18 rfl h257
   have u := ite_f hc258 h257
   refine rn0 5 s rfl fun a s => ?_
   refine wpList_nil ?_
   obtain rfl := oi u
   exact tn ⟨Sv181, wj s d [] []⟩
  rintro a w ⟨Sv259, s, d⟩
  refine mv s rfl rfl fun a s => ?_
  obtain ⟨c272, hc272, u⟩ := bt u
  refine wpl_join 11 (fun a w => ∃ Sv273, Sl 47 [(0, .string s1), (1, iv lo2), (2, iv hi3), (7, iv sv111), (35, .bool c272)] a ∧ Wd ⟨w0, S0, []⟩ Sv273 [] [] w) ?_ ?_
  ·rcases Bool.eq_false_or_eq_true c258 with h271 | h271
   ·have s := s.bT 24 rfl h271
    have u := ite_t hc272 h271
    refine rn0 11 s rfl fun a s => ?_
    refine wpList_nil ?_
    obtain rfl := oi u
    exact tn ⟨Sv259, wj s d [] []⟩
   have s := s.bF 24 rfl h271
   have u := ite_f hc272 h271
   refine rn0 2 s rfl fun a s => ?_
   obtain ⟨c275, h274, u⟩ := bt u
   refine st_val s (y_indexSM runUnderlying9 rfl rfl h274) ⟨_, rfl, rfl⟩ rfl rfl fun a s => ?_
   refine st_val s (y_geq (rfl) rfl) ⟨_, rfl, rfl⟩ rfl rfl fun a s => ?_
   refine st_val s (y_move rfl) ⟨_, rfl, rfl⟩ rfl rfl fun a s => ?_
   obtain ⟨c279, hc279, u⟩ := bt u
   refine wpl_join 5 (fun a w => ∃ Sv280, Sl 47 [(0, .string s1), (1, iv lo2), (2, iv hi3), (7, iv sv111), (24, .bool false), (34, .bool c279)] a ∧ Wd ⟨w0, S0, []⟩ Sv280 [] [] w) ?_ ?_
   ·rcases Bool.eq_false_or_eq_true (decide (48 ≤ c275)) with h278 | h278
    ·have s := s.bT 29 rfl h278
     have u := ite_t hc279 h278
     refine rn0 2 s rfl fun a s => ?_
     obtain ⟨c282, h281, u⟩ := bt u
     refine st_val s (y_indexSM runUnderlying9 rfl rfl h281) ⟨_, rfl, rfl⟩ rfl rfl fun a s => ?_
     refine st_val s (y_leq (rfl) rfl) ⟨_, rfl, rfl⟩ rfl rfl fun a s => ?_
     refine st_val s (y_pickT rfl rfl) ⟨_, rfl, rfl⟩ rfl rfl fun a s => ?_
     refine wpList_nil ?_
     obtain rfl := oi u
     exact tn ⟨Sv259, wj s d [] []⟩
    have s := s.bF 29 rfl h278
    have u := ite_f hc279 h278
    refine rn0 5 s rfl fun a s => ?_
    refine wpList_nil ?_
    obtain rfl := oi u
    exact tn ⟨Sv259, wj s d [] []⟩
   rintro a w ⟨Sv280, s, d⟩
   refine sv s (y_pickF rfl rfl) rfl fun a s => ?_
   refine wpList_nil ?_
   obtain rfl := oi u
   exact tn ⟨Sv280, wj s d [] []⟩
  rintro a w ⟨Sv273, s, d⟩
  refine rz0 1 s rfl fun a s => ?_
  refine cd s u rfl (fun u => ?_) fun u => ?_
  ·refine sz0 1 s rfl fun a s => ?_
   obtain rfl := oi u
   have h285 := hd216 _ rfl
   subst h285
   exact wp_ret (blk_ret (then_ret (then_ret (blk_ret (then_ret (rt s rfl (d.ret rfl)))))))
  refine wp_skip (blk_normal (tn (wp_region_lit (rn0 2 s rfl fun a s => ?_))))
  obtain ⟨i287, h286, u⟩ := bt u
  refine sv s (y_assignI rfl h286) rfl fun a s => ?_
  exact nl ⟨_, io u, Sv273, wj s d [] []⟩
 obtain ⟨rv289, u, h290⟩ := map_t u
 have h290 := (hd216 _ h290.symm).symm
 subst h290
 refine wp_exit (then_exit (then_exit (blk_exit (tn (sn0 5 s rfl fun a s => ?_)))))
 refine rA 5 41 [] s d rfl rfl rfl rfl rfl fun a s => ?_
 refine rz0 1 s rfl fun a s => ?_
 obtain rfl := oi u
 exact q1 s rfl (d.ret rfl)
theorem ref03_Valid_ok {w0 S0 s1 r} (u : ref03_Valid s1 = some r) (hS : Dm S0 w0) : Ck Tryz.prog 76 #[V31 s1] w0 S0 [] made_Light_rd r := by
 refine en 26 func76 rfl hS rfl rfl rfl fun a s d => ?_
 refine sr (wb (C31 s1) s d rfl fun b2 a w s d => ?_)
 refine rz0 1 s rfl fun a s => ?_
 refine sn 2 [0] s d rfl rfl fun a s => ?_
 obtain ⟨rv4, h3, u⟩ := bt u
 refine cV s d (ref03_code_ok h3 d.bdom) (do_call call106 rfl) rfl fun a w s d => ?_
 refine mv s rfl rfl fun a s => ?_
 obtain ⟨c18, hc18, u⟩ := bt u
 refine wpl_join 4 (fun a w => ∃ Sv19, Sl 26 [(1, pt b2), (10, .bool c18)] a ∧ Wd ⟨w0, S0, []⟩ Sv19 [.box b2 (C31 s1) 31] [] w) ?_ ?_
 ·rcases Bool.eq_false_or_eq_true rv4 with h17 | h17
  ·have s := s.bT 6 rfl h17
   have u := ite_t hc18 h17
   refine rn 2 [0] s d rfl rfl fun a s => ?_
   obtain ⟨rv21, h20, u⟩ := bt u
   refine st_callR s (ref03_code_ok h20 d.bdom) (do_call call106 rfl) ⟨_, rfl, rfl⟩ rfl rfl ?_
   rintro v25 Sv22 w a h23 rfl s
   have d := d.callB h23
   refine sv s (y_pickT rfl rfl) rfl fun a s => ?_
   refine wpList_nil ?_
   obtain rfl := oi u
   exact tn ⟨S0, wj s d [0] []⟩
  have s := s.bF 6 rfl h17
  have u := ite_f hc18 h17
  refine rn0 4 s rfl fun a s => ?_
  refine wpList_nil ?_
  obtain rfl := oi u
  exact tn ⟨S0, wj s d [0] []⟩
 rintro a w ⟨Sv19, s, d⟩
 refine mv s rfl rfl fun a s => ?_
 obtain ⟨c45, hc45, u⟩ := bt u
 refine wpl_join 9 (fun a w => ∃ Sv46, Sl 26 [(1, pt b2), (20, .bool c45)] a ∧ Wd ⟨w0, S0, []⟩ Sv46 [.box b2 (C31 s1) 31] [] w) ?_ ?_
 ·rcases Bool.eq_false_or_eq_true c18 with h44 | h44
  ·have s := s.bT 11 rfl h44
   have u := ite_t hc45 h44
   refine rn 2 [0] s d rfl rfl fun a s => ?_
   refine st_val s (y_eqlS rfl rfl) ⟨_, rfl, rfl⟩ rfl rfl fun a s => ?_
   refine st_val s (y_move rfl) ⟨_, rfl, rfl⟩ rfl rfl fun a s => ?_
   obtain ⟨c55, hc55, u⟩ := bt u
   refine wpl_join 4 (fun a w => ∃ Sv56, Sl 26 [(1, pt b2), (11, .bool true), (19, .bool c55)] a ∧ Wd ⟨w0, S0, []⟩ Sv56 [.box b2 (C31 s1) 31] [] w) ?_ ?_
   ·rcases Bool.eq_false_or_eq_true (s1.Location.toList == (⟨#[]⟩ : ByteArray).toList) with h54 | h54
    ·have s := s.bT 15 rfl h54
     have u := ite_t hc55 h54
     refine rn0 4 s rfl fun a s => ?_
     refine wpList_nil ?_
     obtain rfl := oi u
     exact tn ⟨Sv19, wj s d [0] []⟩
    have s := s.bF 15 rfl h54
    have u := ite_f hc55 h54
    refine rn 2 [0] s d rfl rfl fun a s => ?_
    obtain ⟨rv58, h57, u⟩ := bt u
    refine st_callR s (ref03_code_ok h57 d.bdom) (do_call call106 rfl) ⟨_, rfl, rfl⟩ rfl rfl ?_
    rintro v62 Sv59 w a h60 rfl s
    have d := d.callB h60
    refine st_val s (y_pickF rfl rfl) ⟨_, rfl, rfl⟩ rfl rfl fun a s => ?_
    refine wpList_nil ?_
    obtain rfl := oi u
    exact tn ⟨Sv19, wj s d [0] []⟩
   rintro a w ⟨Sv56, s, d⟩
   refine sv s (y_pickT rfl rfl) rfl fun a s => ?_
   refine wpList_nil ?_
   obtain rfl := oi u
   exact tn ⟨Sv56, wj s d [0] []⟩
  have s := s.bF 11 rfl h44
  have u := ite_f hc45 h44
  refine rn0 9 s rfl fun a s => ?_
  refine wpList_nil ?_
  obtain rfl := oi u
  exact tn ⟨Sv19, wj s d [0] []⟩
 rintro a w ⟨Sv46, s, d⟩
 refine mv s rfl rfl fun a s => ?_
 obtain ⟨c72, hc72, u⟩ := bt u
 refine wpl_join 4 (fun a w => ∃ Sv73, Sl 26 [(25, .bool c72)] a ∧ Wd ⟨w0, S0, []⟩ Sv73 [] [] w) ?_ ?_
 ·rcases Bool.eq_false_or_eq_true c45 with h71 | h71
  ·have s := s.bT 21 rfl h71
   have u := ite_t hc72 h71
   refine rn 2 [0] s d rfl rfl fun a s => ?_
   obtain ⟨rv75, h74, u⟩ := bt u
   refine st_callR s (ref03_code_ok h74 d.bdom) (do_call call106 rfl) ⟨_, rfl, rfl⟩ rfl rfl ?_
   rintro v79 Sv76 w a h77 rfl s
   have d := d.callB h77
   refine sv s (y_pickT rfl rfl) rfl fun a s => ?_
   refine wpList_nil ?_
   obtain rfl := oi u
   exact tn ⟨Sv46, wj s d [] []⟩
  have s := s.bF 21 rfl h71
  have u := ite_f hc72 h71
  refine rn0 4 s rfl fun a s => ?_
  refine wpList_nil ?_
  obtain rfl := oi u
  exact tn ⟨Sv46, wj s d [] []⟩
 rintro a w ⟨Sv73, s, d⟩
 refine rz0 1 s rfl fun a s => ?_
 obtain rfl := oi u
 exact q1 s rfl (d.ret rfl)
theorem ref02_Valid_ok {w0 S0 r1 r} (u : ref02_Valid r1 = some r) (hS : Dm S0 w0) : Ck Tryz.prog 77 #[V33 r1] w0 S0 [] made_Light_rd r := by
 refine en 19 func77 rfl hS rfl rfl rfl fun a s d => ?_
 refine sr (wb (C33 r1) s d rfl fun b2 a w s d => ?_)
 refine rz0 1 s rfl fun a s => ?_
 refine sn 2 [0] s d rfl rfl fun a s => ?_
 obtain ⟨rv4, h3, u⟩ := bt u
 refine cV s d (ref01_In_ok h3 d.bdom) (do_call call55 rfl) rfl fun a w s d => ?_
 refine mv s rfl rfl fun a s => ?_
 obtain ⟨c18, hc18, u⟩ := bt u
 refine wpl_join 4 (fun a w => ∃ Sv19, Sl 19 [(1, pt b2), (10, .bool c18)] a ∧ Wd ⟨w0, S0, []⟩ Sv19 [.box b2 (C33 r1) 33] [] w) ?_ ?_
 ·rcases Bool.eq_false_or_eq_true rv4 with h17 | h17
  ·have s := s.bT 6 rfl h17
   have u := ite_t hc18 h17
   refine rn 2 [0] s d rfl rfl fun a s => ?_
   obtain ⟨rv21, h20, u⟩ := bt u
   refine st_callR s (ref01_In_ok h20 d.bdom) (do_call call55 rfl) ⟨_, rfl, rfl⟩ rfl rfl ?_
   rintro v25 Sv22 w a h23 rfl s
   have d := d.callB h23
   refine sv s (y_pickT rfl rfl) rfl fun a s => ?_
   refine wpList_nil ?_
   obtain rfl := oi u
   exact tn ⟨S0, wj s d [0] []⟩
  have s := s.bF 6 rfl h17
  have u := ite_f hc18 h17
  refine rn0 4 s rfl fun a s => ?_
  refine wpList_nil ?_
  obtain rfl := oi u
  exact tn ⟨S0, wj s d [0] []⟩
 rintro a w ⟨Sv19, s, d⟩
 refine mv s rfl rfl fun a s => ?_
 obtain ⟨c35, hc35, u⟩ := bt u
 refine wpl_join 7 (fun a w => ∃ Sv36, Sl 19 [(18, .bool c35)] a ∧ Wd ⟨w0, S0, []⟩ Sv36 [] [] w) ?_ ?_
 ·rcases Bool.eq_false_or_eq_true c18 with h34 | h34
  ·have s := s.bT 11 rfl h34
   have u := ite_t hc35 h34
   refine rn 4 [0, 0] s d rfl rfl fun a s => ?_
   obtain ⟨rv38, h37, u⟩ := bt u
   refine st_callR s (ref02_gcd_ok h37 d.bdom) (do_call call70 rfl) ⟨_, rfl, rfl⟩ rfl rfl ?_
   rintro v42 Sv39 w a h40 rfl s
   have d := d.callB h40
   refine rn0 2 s rfl fun a s => ?_
   refine wpList_nil ?_
   obtain rfl := oi u
   exact tn ⟨Sv19, wj s d [] []⟩
  have s := s.bF 11 rfl h34
  have u := ite_f hc35 h34
  refine rn0 7 s rfl fun a s => ?_
  refine wpList_nil ?_
  obtain rfl := oi u
  exact tn ⟨Sv19, wj s d [] []⟩
 rintro a w ⟨Sv36, s, d⟩
 refine rz0 1 s rfl fun a s => ?_
 obtain rfl := oi u
 exact q1 s rfl (d.ret rfl)
theorem ref05_Sample_ok {w0 S0 n1 r} (u : ref05_Sample n1 = some r) (hS : Dm S0 w0) : Ck Tryz.prog 107 #[iv n1] w0 S0 [] made_Light_rd r := by
 refine en 5 func107 rfl hS rfl rfl rfl fun a s d => ?_
 refine sz0 1 s rfl fun a s => ?_
 refine sn0 1 s rfl fun a s => ?_
 obtain ⟨rv3, h2, u⟩ := bt u
 refine cV s d (ref01_In_ok h2 d.bdom) (do_call call55 rfl) rfl fun a w s d => ?_
 refine rz0 1 s rfl fun a s => ?_
 obtain rfl := oi u
 exact q1 s rfl (d.ret rfl)
theorem ref05_InRange_ok {w0 S0 p2 k3 l1 r} (u : ref05_InRange l1 = some r) (hS : Dm S0 w0) (h4 : (Sq p2 k3 l1).p S0 w0) : Ck Tryz.prog 78 #[sl p2 k3 l1] w0 S0 [] made_Light_rd r := by
 refine en 16 func78 rfl hS rfl rfl rfl fun a s d => ?_
 have d := d.addE h4
 refine sz0 1 s rfl fun a s => ?_
 refine wp_seq (sz0 1 s rfl fun a s => ?_)
 refine wp_block (wp_while (fun sv82 a w => ∃ Sv132, Sl 16 [(0, sl p2 k3 l1), (3, iv sv82)] a ∧ Wd ⟨w0, S0, []⟩ Sv132 [] [Sq p2 k3 l1] w) 0 u ⟨S0, wj s d [] [0]⟩ ?_)
 repeat clear u
 rintro sv82 a w tv158 ⟨Sv132, s, d⟩ u hd157
 refine wp_seq (sz0 4 s rfl fun a s => ?_)
 refine cd s u rfl (fun u => ?_) fun u => ?_
 ·refine sk (wp_seq (wp_block (sn0 2 s rfl fun a s => ?_)))
  obtain ⟨x186, h184, u⟩ := bt u
  obtain ⟨b192, o193, q190, c191, h194, h187, h188, h189, h185⟩ := d.elemV 0 rfl h184
  have hsv195 := s
  have hwv196 := d
  subst h194
  have s := hsv195
  have d := hwv196
  obtain ⟨_, rfl, rfl⟩ := h185
  have d := d.addE h189
  refine sv s (y_indexAt runUnderlying22 sizeOf3 rfl rfl h187.1 h187.2 h188) rfl fun a s => ?_
  refine sv s (y_loadE1 (j := 0) (d.ceAt 0 rfl) rfl isAgg3 rfl) rfl fun a s => ?_
  obtain ⟨rv198, h197, u⟩ := bt u
  refine cV s d (ref05_Sample_ok h197 d.bdom) (do_call call107 rfl) rfl fun a w s d => ?_
  refine rz0 1 s rfl fun a s => ?_
  refine cd s u rfl (fun u => ?_) fun u => ?_
  ·refine sz0 1 s rfl fun a s => ?_
   obtain rfl := oi u
   have h206 := hd157 _ rfl
   subst h206
   exact wp_ret (blk_ret (then_ret (then_ret (blk_ret (then_ret (rt s rfl (d.ret rfl)))))))
  refine wp_skip (blk_normal (tn (wp_region_lit (rn0 2 s rfl fun a s => ?_))))
  obtain ⟨i208, h207, u⟩ := bt u
  refine sv s (y_assignI rfl h207) rfl fun a s => ?_
  exact nl ⟨_, io u, Sv132, wj s d [] [1]⟩
 obtain ⟨rv209, u, h210⟩ := map_t u
 have h210 := (hd157 _ h210.symm).symm
 subst h210
 refine wp_exit (then_exit (then_exit (blk_exit (tn (sz0 1 s rfl fun a s => ?_)))))
 obtain rfl := oi u
 exact q1 s rfl (d.ret rfl)
theorem ref02_Time_ok {w0 S0 start1 r2 k3 r} (u : ref02_Time start1 r2 k3 = some r) (hS : Dm S0 w0) : Ck Tryz.prog 79 #[iv start1, V33 r2, iv k3] w0 S0 [] rate_Time_rd r := by
 refine en 29 func79 rfl hS rfl rfl rfl fun a s d => ?_
 refine sr (wb (C33 r2) s d rfl fun b4 a w s d => ?_)
 refine rz0 2 s rfl fun a s => ?_
 refine wp_seq (sn 1 [0] s d rfl rfl fun a s => ?_)
 obtain ⟨rv6, h5, u⟩ := bt u
 refine cV s d (ref02_Valid_ok h5 d.bdom) (do_call call77 rfl) rfl fun a w s d => ?_
 refine rz0 1 s rfl fun a s => ?_
 refine cd s u rfl (fun u => ?_) fun u => ?_
 ·refine sz0 2 s rfl fun a s => ?_
  obtain rfl := oi u
  exact wp_ret (then_ret (ret2 s rfl (rv_tmp rfl) (rv_tmp rfl) (d.ret rfl)))
 refine sk (wp_seq (sn0 1 s rfl fun a s => ?_))
 obtain ⟨rv15, h14, u⟩ := bt u
 refine cV s d (ref01_In_ok h14 d.bdom) (do_call call55 rfl) rfl fun a w s d => ?_
 refine rn0 2 s rfl fun a s => ?_
 obtain ⟨c29, hc29, u⟩ := bt u
 refine wpl_join 4 (fun a w => ∃ Sv30, Sl 29 [(0, iv start1), (2, iv k3), (4, pt b4), (18, .bool c29)] a ∧ Wd ⟨w0, S0, []⟩ Sv30 [.box b4 (C33 r2) 33] [] w) ?_ ?_
 ·rcases Bool.eq_false_or_eq_true (!rv15) with h28 | h28
  ·have s := s.bT 14 rfl h28
   have u := ite_t hc29 h28
   refine rn0 4 s rfl fun a s => ?_
   refine wpList_nil ?_
   obtain rfl := oi u
   exact tn ⟨S0, wj s d [0] []⟩
  have s := s.bF 14 rfl h28
  have u := ite_f hc29 h28
  refine st_val s (y_move rfl) ⟨_, rfl, rfl⟩ rfl rfl fun a s => ?_
  obtain ⟨rv32, h31, u⟩ := bt u
  refine st_callR s (ref01_In_ok h31 d.bdom) (do_call call55 rfl) ⟨_, rfl, rfl⟩ rfl rfl ?_
  rintro v36 Sv33 w a h34 rfl s
  have d := d.callB h34
  refine rn0 2 s rfl fun a s => ?_
  refine wpList_nil ?_
  obtain rfl := oi u
  exact tn ⟨S0, wj s d [0] []⟩
 rintro a w ⟨Sv30, s, d⟩
 refine nl (cd s u rfl (fun u => ?_) fun u => ?_)
 ·refine sz0 2 s rfl fun a s => ?_
  obtain rfl := oi u
  exact wp_ret (then_ret (ret2 s rfl (rv_tmp rfl) (rv_tmp rfl) (d.ret rfl)))
 refine sk (sn 8 [0, 0] s d rfl rfl fun a s => ?_)
 obtain ⟨quo41, h40, u⟩ := bt u
 refine sv s (y_quoM rfl rfl h40) rfl fun a s => ?_
 refine sv s (y_add rfl rfl) rfl fun a s => ?_
 obtain ⟨x43, h42, u⟩ := bt u
 refine sv s (y_assignI rfl h42) rfl fun a s => ?_
 refine rz0 1 s rfl fun a s => ?_
 obtain rfl := oi u
 exact wp_ret (ret2 s rfl (rv_tmp rfl) (rv_tmp rfl) (d.ret rfl))
theorem ref14_Time_ok {w0 S0 p2 k3 r1 i5 r} (u : ref14_Time r1 i5 = some r) (hS : Dm S0 w0) (h4 : (Sq p2 k3 r1.Samples).p S0 w0) : Ck Tryz.prog 52 #[V35 r1 p2 k3, iv i5] w0 S0 [] slices_IndexFunc_Lapi_Record_api_Record_rd r := by
 refine en 20 func52 rfl hS rfl rfl rfl fun a s d => ?_
 have d := d.addE h4
 refine sr (wb (C35 r1 p2 k3) s d rfl fun b6 a w s d => ?_)
 refine rz0 1 s rfl fun a s => ?_
 refine sn 8 [0, 0, 0] s d rfl rfl fun a s => ?_
 obtain ⟨rv8, h7, u⟩ := bt u
 refine cV s d (ref02_Time_ok h7 d.bdom) (do_call call79 rfl) rfl fun a w s d => ?_
 refine rz0 5 s rfl fun a s => ?_
 refine sz0 2 s rfl fun a s => ?_
 obtain rfl := oi u
 exact q1 s rfl (d.ret rfl)
theorem ref14_Valid_ok {w0 S0 p2 k3 r1 r} (u : ref14_Valid r1 = some r) (hS : Dm S0 w0) (h4 : (Sq p2 k3 r1.Samples).p S0 w0) : Ck Tryz.prog 51 #[V35 r1 p2 k3] w0 S0 [] made_Light_rd r := by
 refine en 68 func51 rfl hS rfl rfl rfl fun a s d => ?_
 have d := d.addE h4
 refine sr (wb (C35 r1 p2 k3) s d rfl fun b5 a w s d => ?_)
 refine rz0 1 s rfl fun a s => ?_
 refine wp_seq (sn 2 [0] s d rfl rfl fun a s => ?_)
 obtain ⟨rv7, h6, u⟩ := bt u
 refine cV s d (ref03_Valid_ok h6 d.bdom) (do_call call76 rfl) rfl fun a w s d => ?_
 refine rn0 2 s rfl fun a s => ?_
 obtain ⟨c21, hc21, u⟩ := bt u
 refine wpl_join 5 (fun a w => ∃ Sv22, Sl 68 [(1, pt b5), (12, .bool c21)] a ∧ Wd ⟨w0, S0, []⟩ Sv22 [.box b5 (C35 r1 p2 k3) 35] [Sq p2 k3 r1.Samples] w) ?_ ?_
 ·rcases Bool.eq_false_or_eq_true (!rv7) with h20 | h20
  ·have s := s.bT 7 rfl h20
   have u := ite_t hc21 h20
   refine rn0 5 s rfl fun a s => ?_
   refine wpList_nil ?_
   obtain rfl := oi u
   exact tn ⟨S0, wj s d [0] [0]⟩
  have s := s.bF 7 rfl h20
  have u := ite_f hc21 h20
  refine rn 2 [0] s d rfl rfl fun a s => ?_
  obtain ⟨rv24, h23, u⟩ := bt u
  refine st_callR s (ref02_Valid_ok h23 d.bdom) (do_call call77 rfl) ⟨_, rfl, rfl⟩ rfl rfl ?_
  rintro v28 Sv25 w a h26 rfl s
  have d := d.callB h26
  refine rn0 2 s rfl fun a s => ?_
  refine wpList_nil ?_
  obtain rfl := oi u
  exact tn ⟨S0, wj s d [0] [0]⟩
 rintro a w ⟨Sv22, s, d⟩
 refine mv s rfl rfl fun a s => ?_
 obtain ⟨c38, hc38, u⟩ := bt u
 refine wpl_join 5 (fun a w => ∃ Sv39, Sl 68 [(1, pt b5), (18, .bool c38)] a ∧ Wd ⟨w0, S0, []⟩ Sv39 [.box b5 (C35 r1 p2 k3) 35] [Sq p2 k3 r1.Samples] w) ?_ ?_
 ·rcases Bool.eq_false_or_eq_true c21 with h37 | h37
  ·have s := s.bT 13 rfl h37
   have u := ite_t hc38 h37
   refine rn0 5 s rfl fun a s => ?_
   refine wpList_nil ?_
   obtain rfl := oi u
   exact tn ⟨Sv22, wj s d [0] [0]⟩
  have s := s.bF 13 rfl h37
  have u := ite_f hc38 h37
  refine rn 2 [0] s d rfl rfl fun a s => ?_
  obtain ⟨rv41, h40, u⟩ := bt u
  refine st_callR s (ref01_In_ok h40 d.bdom) (do_call call55 rfl) ⟨_, rfl, rfl⟩ rfl rfl ?_
  rintro v45 Sv42 w a h43 rfl s
  have d := d.callB h43
  refine rn0 2 s rfl fun a s => ?_
  refine wpList_nil ?_
  obtain rfl := oi u
  exact tn ⟨Sv22, wj s d [0] [0]⟩
 rintro a w ⟨Sv39, s, d⟩
 refine mv s rfl rfl fun a s => ?_
 obtain ⟨c55, hc55, u⟩ := bt u
 refine wpl_join 5 (fun a w => ∃ Sv56, Sl 68 [(1, pt b5), (24, .bool c55)] a ∧ Wd ⟨w0, S0, []⟩ Sv56 [.box b5 (C35 r1 p2 k3) 35] [Sq p2 k3 r1.Samples] w) ?_ ?_
 ·rcases Bool.eq_false_or_eq_true c38 with h54 | h54
  ·have s := s.bT 19 rfl h54
   have u := ite_t hc55 h54
   refine rn0 5 s rfl fun a s => ?_
   refine wpList_nil ?_
   obtain rfl := oi u
   exact tn ⟨Sv39, wj s d [0] [0]⟩
  have s := s.bF 19 rfl h54
  have u := ite_f hc55 h54
  refine rn 2 [0] s d rfl rfl fun a s => ?_
  obtain ⟨rv58, h57, u⟩ := bt u
  refine st_callR s (ref01_In_ok h57 d.bdom) (do_call call55 rfl) ⟨_, rfl, rfl⟩ rfl rfl ?_
  rintro v62 Sv59 w a h60 rfl s
  have d := d.callB h60
  refine rn0 2 s rfl fun a s => ?_
  refine wpList_nil ?_
  obtain rfl := oi u
  exact tn ⟨Sv39, wj s d [0] [0]⟩
 rintro a w ⟨Sv56, s, d⟩
 refine mv s rfl rfl fun a s => ?_
 obtain ⟨c72, hc72, u⟩ := bt u
 refine wpl_join 6 (fun a w => ∃ Sv73, Sl 68 [(1, pt b5), (31, .bool c72)] a ∧ Wd ⟨w0, S0, []⟩ Sv73 [.box b5 (C35 r1 p2 k3) 35] [Sq p2 k3 r1.Samples] w) ?_ ?_
 ·rcases Bool.eq_false_or_eq_true c55 with h71 | h71
  ·have s := s.bT 25 rfl h71
   have u := ite_t hc72 h71
   refine rn0 6 s rfl fun a s => ?_
   refine wpList_nil ?_
   obtain rfl := oi u
   exact tn ⟨Sv56, wj s d [0] [0]⟩
  have s := s.bF 25 rfl h71
  have u := ite_f hc72 h71
  refine rn 3 [0] s d rfl rfl fun a s => ?_
  obtain ⟨rv75, h74, u⟩ := bt u
  refine st_callR s (ref01_In_ok h74 d.bdom) (do_call call55 rfl) ⟨_, rfl, rfl⟩ rfl rfl ?_
  rintro v79 Sv76 w a h77 rfl s
  have d := d.callB h77
  refine rn0 2 s rfl fun a s => ?_
  refine wpList_nil ?_
  obtain rfl := oi u
  exact tn ⟨Sv56, wj s d [0] [0]⟩
 rintro a w ⟨Sv73, s, d⟩
 refine mv s rfl rfl fun a s => ?_
 refine rO 8 32 [0, 0] s d rfl rfl rfl rfl rfl fun a s => ?_
 refine mv s rfl rfl fun a s => ?_
 obtain ⟨c90, hc90, u⟩ := bt u
 refine wpl_join 5 (fun a w => ∃ Sv91, Sl 68 [(1, pt b5), (46, .bool c90)] a ∧ Wd ⟨w0, S0, []⟩ Sv91 [.box b5 (C35 r1 p2 k3) 35] [Sq p2 k3 r1.Samples] w) ?_ ?_
 ·rcases Bool.eq_false_or_eq_true (c72 || (decide (16777216 < (w64 (r1.First + (r1.Samples.length : Int)))))) with h89 | h89
  ·have s := s.bT 41 rfl h89
   have u := ite_t hc90 h89
   refine rn0 5 s rfl fun a s => ?_
   refine wpList_nil ?_
   obtain rfl := oi u
   exact tn ⟨Sv73, wj s d [0] [0]⟩
  have s := s.bF 41 rfl h89
  have u := ite_f hc90 h89
  refine rn 2 [0] s d rfl rfl fun a s => ?_
  obtain ⟨rv93, h92, u⟩ := bt u
  refine st_callR s (ref05_InRange_ok h92 d.bdom (d.bE 0 rfl)) (do_call call78 rfl) ⟨_, rfl, rfl⟩ rfl rfl ?_
  rintro v97 Sv94 w a h95 rfl s
  have d := d.callB h95
  refine rn0 2 s rfl fun a s => ?_
  refine wpList_nil ?_
  obtain rfl := oi u
  exact tn ⟨Sv73, wj s d [0] [0]⟩
 rintro a w ⟨Sv91, s, d⟩
 refine nl (cd s u rfl (fun u => ?_) fun u => ?_)
 ·refine sz0 1 s rfl fun a s => ?_
  obtain rfl := oi u
  exact wp_ret (then_ret (rt s rfl (d.ret rfl)))
 refine sk (sn 2 [0] s d rfl rfl fun a s => ?_)
 obtain ⟨rv102, h101, u⟩ := bt u
 refine cV s d (ref01_In_ok h101 d.bdom) (do_call call55 rfl) rfl fun a w s d => ?_
 refine mv s rfl rfl fun a s => ?_
 obtain ⟨c116, hc116, u⟩ := bt u
 refine wpl_join 4 (fun a w => ∃ Sv117, Sl 68 [(1, pt b5), (54, .bool c116)] a ∧ Wd ⟨w0, S0, []⟩ Sv117 [.box b5 (C35 r1 p2 k3) 35] [Sq p2 k3 r1.Samples] w) ?_ ?_
 ·rcases Bool.eq_false_or_eq_true rv102 with h115 | h115
  ·have s := s.bT 50 rfl h115
   have u := ite_t hc116 h115
   refine rn 2 [0] s d rfl rfl fun a s => ?_
   obtain ⟨rv119, h118, u⟩ := bt u
   refine st_callR s (ref01_In_ok h118 d.bdom) (do_call call55 rfl) ⟨_, rfl, rfl⟩ rfl rfl ?_
   rintro v123 Sv120 w a h121 rfl s
   have d := d.callB h121
   refine sv s (y_pickT rfl rfl) rfl fun a s => ?_
   refine wpList_nil ?_
   obtain rfl := oi u
   exact tn ⟨Sv91, wj s d [0] [0]⟩
  have s := s.bF 50 rfl h115
  have u := ite_f hc116 h115
  refine rn0 4 s rfl fun a s => ?_
  refine wpList_nil ?_
  obtain rfl := oi u
  exact tn ⟨Sv91, wj s d [0] [0]⟩
 rintro a w ⟨Sv117, s, d⟩
 refine mv s rfl rfl fun a s => ?_
 obtain ⟨c133, hc133, u⟩ := bt u
 refine wpl_join 4 (fun a w => ∃ Sv134, Sl 68 [(1, pt b5), (59, .bool c133)] a ∧ Wd ⟨w0, S0, []⟩ Sv134 [.box b5 (C35 r1 p2 k3) 35] [Sq p2 k3 r1.Samples] w) ?_ ?_
 ·rcases Bool.eq_false_or_eq_true c116 with h132 | h132
  ·have s := s.bT 55 rfl h132
   have u := ite_t hc133 h132
   refine rn 2 [0] s d rfl rfl fun a s => ?_
   obtain ⟨rv136, h135, u⟩ := bt u
   refine st_callR s (ref01_In_ok h135 d.bdom) (do_call call55 rfl) ⟨_, rfl, rfl⟩ rfl rfl ?_
   rintro v140 Sv137 w a h138 rfl s
   have d := d.callB h138
   refine sv s (y_pickT rfl rfl) rfl fun a s => ?_
   refine wpList_nil ?_
   obtain rfl := oi u
   exact tn ⟨Sv117, wj s d [0] [0]⟩
  have s := s.bF 55 rfl h132
  have u := ite_f hc133 h132
  refine rn0 4 s rfl fun a s => ?_
  refine wpList_nil ?_
  obtain rfl := oi u
  exact tn ⟨Sv117, wj s d [0] [0]⟩
 rintro a w ⟨Sv134, s, d⟩
 refine mv s rfl rfl fun a s => ?_
 obtain ⟨c150, hc150, u⟩ := bt u
 refine wpl_join 7 (fun a w => ∃ Sv151, Sl 68 [(67, .bool c150)] a ∧ Wd ⟨w0, S0, []⟩ Sv151 [] [] w) ?_ ?_
 ·rcases Bool.eq_false_or_eq_true c133 with h149 | h149
  ·have s := s.bT 60 rfl h149
   have u := ite_t hc150 h149
   refine rn 4 [0, 0] s d rfl rfl fun a s => ?_
   obtain ⟨rv153, h152, u⟩ := bt u
   refine st_callR s (ref14_Time_ok h152 d.bdom (d.bE 0 rfl)) (do_call call52 rfl) ⟨_, rfl, rfl⟩ rfl rfl ?_
   rintro v157 Sv154 w a h155 rfl s
   have d := d.callB h155
   refine rn0 2 s rfl fun a s => ?_
   refine wpList_nil ?_
   obtain rfl := oi u
   exact tn ⟨Sv134, wj s d [] []⟩
  have s := s.bF 60 rfl h149
  have u := ite_f hc150 h149
  refine rn0 7 s rfl fun a s => ?_
  refine wpList_nil ?_
  obtain rfl := oi u
  exact tn ⟨Sv134, wj s d [] []⟩
 rintro a w ⟨Sv151, s, d⟩
 refine rz0 1 s rfl fun a s => ?_
 obtain rfl := oi u
 exact q1 s rfl (d.ret rfl)
abbrev ref14_Span_rd (w0 : World) (X : List Nat) (r : (Span × Int)) : Rd := fun S w v => v = .tuple #[V45 r.1, iv r.2]
theorem ref14_Span_ok {w0 S0 p2 k3 r1 r} (u : ref14_Span r1 = some r) (hS : Dm S0 w0) (h4 : (Sq p2 k3 r1.Samples).p S0 w0) : Ck Tryz.prog 22 #[V35 r1 p2 k3] w0 S0 [] ref14_Span_rd r := by
 refine en 16 func22 rfl hS rfl rfl rfl fun a s d => ?_
 have d := d.addE h4
 refine sr (wb (C35 r1 p2 k3) s d rfl fun b5 a w s d => ?_)
 refine wa [iv 0, iv 0] s d zeroValue45 fun b6 a w s d => ?_
 refine rz0 1 s rfl fun a s => ?_
 refine wp_seq (sn 1 [1] s d rfl rfl fun a s => ?_)
 obtain ⟨rv8, h7, u⟩ := bt u
 refine cV s d (ref14_Valid_ok h7 d.bdom (d.bE 0 rfl)) (do_call call51 rfl) rfl fun a w s d => ?_
 refine rz0 1 s rfl fun a s => ?_
 refine cd s u rfl (fun u => ?_) fun u => ?_
 ·refine sr (sv s (y_build (vs := []) Bld45 rfl rfl) rfl fun a s => ?_)
  refine ws [iv 0, iv 0] s d 0 rfl rfl rfl sizeOf45 fun a w s d => ?_
  refine rz0 1 s rfl fun a s => ?_
  obtain rfl := oi u
  exact wp_ret (then_ret (ret2 s rfl (rv_cell d 0 rfl rfl isAgg45 sizeOf45 rfl) (rv_tmp rfl) (d.ret rfl)))
 refine sk (wp_seq ?_)
 obtain ⟨rv17, h16, u⟩ := bt u
 obtain ⟨rv19, h18, u⟩ := bt u
 refine wp_only (fun a w => ∃ Sv20, Sl 16 [(2, pt b6), (3, iv 0)] a ∧ Wd ⟨w0, S0, []⟩ Sv20 [.box b6 [iv rv17, iv rv19] 45] [] w) ?_ ?_
 ·refine h_c [1] [] d rfl rfl (by kernel_rfl) rfl fun hC d => ?_
  refine gn 5 [0, 2, 3, 4, 5] [0, 0, 0] s hC rfl rfl rfl fun a s => ?_
  refine ho 1 rfl ?_
  refine cV s d (ref14_Time_ok h16 d.bdom (d.bE 0 rfl)) (do_call call52 rfl) rfl fun a w s d => ?_
  refine h_n [1] [] d rfl rfl fun hC => ?_
  refine ho 6 rfl ?_
  refine cV s d (ref14_Time_ok h18 d.bdom (d.bE 0 rfl)) (do_call call52 rfl) rfl fun a w s d => ?_
  refine h_n [1] [] d rfl rfl fun hC => ?_
  refine gv s 7 rfl rfl hC (fun w hC => y_build (vs := [(0, iv rv17), (1, iv rv19)]) Bld45 rfl rfl) fun a s => ?_
  refine ho 8 rfl ?_
  refine ws [iv rv17, iv rv19] s d 0 rfl rfl rfl sizeOf45 fun a w s d => ?_
  refine h_n [1] [] d rfl rfl fun hC => ?_
  refine gv s 9 rfl rfl hC (fun w hC => y_assign rfl) fun a s => ?_
  refine h_done (by kernel_rfl) ?_
  exact ⟨S0, wj s d [0] []⟩
 rintro a w ⟨Sv20, s, d⟩
 refine tn ?_
 obtain rfl := oi u
 exact wp_ret (ret2 s rfl (rv_cell d 0 rfl rfl isAgg45 sizeOf45 rfl) (rv_tmp rfl) (d.ret rfl))
theorem ref14_At_ok {w0 S0 p2 k3 r1 i5 r} (u : ref14_At r1 i5 = some r) (hS : Dm S0 w0) (h4 : (Sq p2 k3 r1.Samples).p S0 w0) : Ck Tryz.prog 23 #[V35 r1 p2 k3, iv i5] w0 S0 [] rate_Time_rd r := by
 refine en 18 func23 rfl hS rfl rfl rfl fun a s d => ?_
 have d := d.addE h4
 refine sr (wb (C35 r1 p2 k3) s d rfl fun b6 a w s d => ?_)
 refine rz0 2 s rfl fun a s => ?_
 refine wp_seq (sn 1 [0] s d rfl rfl fun a s => ?_)
 obtain ⟨rv8, h7, u⟩ := bt u
 refine cV s d (ref14_Valid_ok h7 d.bdom (d.bE 0 rfl)) (do_call call51 rfl) rfl fun a w s d => ?_
 refine rz0 1 s rfl fun a s => ?_
 refine cd s u rfl (fun u => ?_) fun u => ?_
 ·refine sz0 2 s rfl fun a s => ?_
  obtain rfl := oi u
  exact wp_ret (then_ret (ret2 s rfl (rv_tmp rfl) (rv_tmp rfl) (d.ret rfl)))
 refine sk (wp_seq (sn 4 [0] s d rfl rfl fun a s => ?_))
 obtain ⟨rv17, h16, u⟩ := bt u
 refine cV s d (ref01_In_ok h16 d.bdom) (do_call call55 rfl) rfl fun a w s d => ?_
 refine rz0 1 s rfl fun a s => ?_
 refine cd s u rfl (fun u => ?_) fun u => ?_
 ·refine sz0 2 s rfl fun a s => ?_
  obtain rfl := oi u
  exact wp_ret (then_ret (ret2 s rfl (rv_tmp rfl) (rv_tmp rfl) (d.ret rfl)))
 refine sk (sn 2 [0] s d rfl rfl fun a s => ?_)
 obtain ⟨rv26, h25, u⟩ := bt u
 refine cV s d (ref14_Time_ok h25 d.bdom (d.bE 0 rfl)) (do_call call52 rfl) rfl fun a w s d => ?_
 refine rz0 2 s rfl fun a s => ?_
 obtain rfl := oi u
 exact wp_ret (ret2 s rfl (rv_tmp rfl) (rv_tmp rfl) (d.ret rfl))
theorem ref08_Normal_ok {w0 S0 p2 k3 l1 r} (u : ref08_Normal l1 = some r) (hS : Dm S0 w0) (h4 : (Sq p2 k3 l1).p S0 w0) : Ck Tryz.prog 58 #[sl p2 k3 l1] w0 S0 [] slices_Clone_Lapi_Span_api_Span_rd r := by
 refine en 117 func58 rfl hS rfl rfl rfl fun a s d => ?_
 have d := d.addE h4
 refine sz0 1 s rfl fun a s => ?_
 refine sz0 1 s rfl fun a s => ?_
 refine wp_seq (sz0 1 s rfl fun a s => ?_)
 obtain ⟨e539, h1541, u⟩ := bt u
 refine wp_join (fun a w => ∃ c540 p541 k542 Sv543, Sl 117 [(3, sl p541 k542 e539)] a ∧ Wd ⟨w0, S0, []⟩ Sv543 [.row p541 e539.length k542 c540 45 2] [RowA c540 e539] w) ?_ ?_
 ·refine wp_block ?_
  have d := d.nilRow Span 45
  refine wp_while (fun sv5 a w => ∃ c358 p359 k360 Sv361, Sl 117 [(0, sl p2 k3 l1), (3, sl p359 k360 sv5.1), (4, iv sv5.2)] a ∧ Wd ⟨w0, S0, []⟩ Sv361 [.row p359 sv5.1.length k360 c358 45 2] [Sq p2 k3 l1, RowA c358 sv5.1] w) (([] : List Span), 0) h1541 ⟨[], none, 0, S0, wj s d [0] [1, 0]⟩ ?_
  clear h1541
  repeat clear u
  rintro sv5 a w tv537 ⟨c358, p359, k360, Sv361, s, d⟩ u hd536
  refine wp_seq (sz0 4 s rfl fun a s => ?_)
  refine cd s u rfl (fun u => ?_) fun u => ?_
  ·refine sk (wp_seq (wp_join (fun a w => ∃ (sorted716 : (List Span)) (c712 p713 k714 Sv715 : _), ref08_Normal_j1 sv5 sorted716 = some tv537 ∧ Sl 117 [(0, sl p2 k3 l1), (3, sl p713 k714 sorted716), (4, iv sv5.2)] a ∧ Wd ⟨w0, S0, []⟩ Sv715 [.row p713 sorted716.length k714 c712 45 2] [Sq p2 k3 l1, RowA c712 sorted716] w) ?_ ?_))
   ·refine wp_block (wp_seq (wp_seq ?_))
    obtain ⟨x721, h719, u⟩ := bt u
    obtain ⟨b727, o728, q725, c726, h729, h722, h723, h724, h720⟩ := d.elemV 0 rfl h719
    have hsv730 := s
    have hwv731 := d
    subst h729
    have s := hsv730
    have d := hwv731
    obtain ⟨_, _, rfl, rfl, rfl⟩ := h720
    have d := d.addE h724
    obtain ⟨x734, h732, u⟩ := bt u
    obtain ⟨q738, c739, h735, h736, h737, h733⟩ := d.elemK 1 rfl h732
    obtain ⟨_, _, rfl, rfl, rfl⟩ := h733
    have d := d.addE h737
    refine wp_only (fun a w => ∃ Sv740, Sl 117 [(0, sl (some ⟨b727, o728, none⟩) k3 l1), (3, sl p359 k360 sv5.1), (4, iv sv5.2), (25, .bool (decide (x734.To ≤ x721.From)))] a ∧ Wd ⟨w0, S0, []⟩ Sv740 [.row p359 sv5.1.length k360 c358 45 2] [Sq (some ⟨b727, o728, none⟩) k3 l1, RowA c358 sv5.1] w) ?_ ?_
    ·refine h_c [0] [0, 1] d rfl rfl (by kernel_rfl) rfl fun hC d => ?_
     refine gn 2 [0, 1] [] s hC rfl rfl rfl fun a s => ?_
     refine gx s 2 rfl trivial rfl hC runUnderlying52 sizeOf45 rfl rfl h722 h723 fun a s => ?_
     refine gv s 3 rfl rfl hC (fun w hC => y_fieldAddr (o' := q725 + 0) runUnderlying45 rfl sizeOf3 rfl rfl rfl) fun a s => ?_
     refine gv s 4 rfl rfl hC (fun w hC => y_loadE1 (j := 0) (hC.ceAt 1 rfl) rfl isAgg3 rfl) fun a s => ?_
     refine gn 2 [5, 6] [] s hC rfl rfl rfl fun a s => ?_
     refine gx s 7 rfl trivial rfl hC runUnderlying52 sizeOf45 rfl rfl h735 h736 fun a s => ?_
     refine gv s 8 rfl rfl hC (fun w hC => y_fieldAddr (o' := q738 + 1) runUnderlying45 rfl sizeOf3 rfl rfl rfl) fun a s => ?_
     refine gv s 9 rfl rfl hC (fun w hC => y_loadE1 (j := 1) (hC.ceAt 0 rfl) rfl isAgg3 rfl) fun a s => ?_
     refine gv s 10 rfl rfl hC (fun w hC => y_geq rfl rfl) fun a s => ?_
     refine h_done (by kernel_rfl) ?_
     exact ⟨Sv361, wj s d [0] [2, 3]⟩
    rintro a w ⟨Sv740, s, d⟩
    refine tn (cd s u rfl (fun u => ?_) fun u => ?_)
    ·exact wp_exit (then_exit (blk_exit (tn ⟨sv5.1, c358, p359, k360, Sv740, u, wj s d [0] [0, 1]⟩)))
    refine sk (sn0 2 s rfl fun a s => ?_)
    obtain ⟨k744, h743, u⟩ := bt u
    refine sv s (y_assignI rfl h743) rfl fun a s => ?_
    refine nl (wp_seq ?_)
    obtain ⟨e829, h943, u⟩ := bt u
    refine wp_join (fun a w => ∃ Sv830, Sl 117 [(0, sl (some ⟨b727, o728, none⟩) k3 l1), (3, sl p359 k360 sv5.1), (4, iv sv5.2), (5, iv e829)] a ∧ Wd ⟨w0, S0, []⟩ Sv830 [.row p359 sv5.1.length k360 c358 45 2] [Sq (some ⟨b727, o728, none⟩) k3 l1, RowA c358 sv5.1] w) ?_ ?_
    ·refine wp_block (wp_while (fun sv745 a w => ∃ Sv799, Sl 117 [(0, sl (some ⟨b727, o728, none⟩) k3 l1), (3, sl p359 k360 sv5.1), (4, iv sv5.2), (5, iv sv745)] a ∧ Wd ⟨w0, S0, []⟩ Sv799 [.row p359 sv5.1.length k360 c358 45 2] [Sq (some ⟨b727, o728, none⟩) k3 l1, RowA c358 sv5.1] w) k744 h943 ⟨Sv740, wj s d [0] [0, 1]⟩ ?_)
     clear h943
     repeat clear u
     rintro sv745 a w tv827 ⟨Sv799, s, d⟩ u hd826
     refine wp_seq (wp_seq ?_)
     obtain ⟨c852, hc852, u⟩ := bt u
     refine wp_only (fun a w => ∃ Sv853, Sl 117 [(0, sl (some ⟨b727, o728, none⟩) k3 l1), (3, sl p359 k360 sv5.1), (4, iv sv5.2), (5, iv sv745), (43, .bool c852)] a ∧ Wd ⟨w0, S0, []⟩ Sv853 [.row p359 sv5.1.length k360 c358 45 2] [Sq (some ⟨b727, o728, none⟩) k3 l1, RowA c358 sv5.1] w) ?_ ?_
     ·rcases Bool.eq_false_or_eq_true (decide (0 < sv745)) with h854 | h854
      ·have h855 := ite_t hc852 h854
       obtain ⟨x858, h856, h855⟩ := bind_t h855
       obtain ⟨b865, q862, c863, h866, h859, h860, h864, h857⟩ := d.elemRV (α := Span) 0 rfl 1 rfl h856
       have hsv867 := s
       have hwv868 := d
       subst h866
       have s := hsv867
       have d := hwv868
       obtain ⟨_, _, rfl, rfl, rfl⟩ := h857
       obtain ⟨x871, h869, h855⟩ := bind_t h855
       obtain ⟨q875, c876, h872, h873, h874, h870⟩ := d.elemK 0 rfl h869
       obtain ⟨_, _, rfl, rfl, rfl⟩ := h870
       have d := d.addE h874
       refine h_c [0] [0] d rfl rfl (by kernel_rfl) rfl fun hC d => ?_
       refine gn 3 [0, 1, 2] [] s hC rfl rfl rfl fun a s => ?_
       have s := s.bT 30 rfl h854
       refine gn 3 [3, 4, 5] [] s hC rfl rfl rfl fun a s => ?_
       refine gx s 6 rfl ⟨_, rfl, rfl⟩ rfl hC runUnderlying52 sizeOf45 rfl rfl h859 h860 fun a s => ?_
       refine gt s 7 rfl ⟨_, rfl, rfl⟩ rfl hC (fun w hC => y_fieldAddr (o' := q862 + 0) runUnderlying45 rfl sizeOf3 rfl rfl rfl) fun a s => ?_
       refine gt s 8 rfl ⟨_, rfl, rfl⟩ rfl hC (fun w hC => y_loadQ1 (j := 0) (hC.ownAt 0 rfl) rfl isAgg3 h864 rfl) fun a s => ?_
       refine gn 2 [9, 10] [] s hC rfl rfl rfl fun a s => ?_
       refine gx s 11 rfl ⟨_, rfl, rfl⟩ rfl hC runUnderlying52 sizeOf45 rfl rfl h872 h873 fun a s => ?_
       refine gt s 12 rfl ⟨_, rfl, rfl⟩ rfl hC (fun w hC => y_fieldAddr (o' := q875 + 0) runUnderlying45 rfl sizeOf3 rfl rfl rfl) fun a s => ?_
       refine gt s 13 rfl ⟨_, rfl, rfl⟩ rfl hC (fun w hC => y_loadE1 (j := 0) (hC.ceAt 0 rfl) rfl isAgg3 rfl) fun a s => ?_
       refine gt s 14 rfl ⟨_, rfl, rfl⟩ rfl hC (fun w hC => y_gtr rfl rfl) fun a s => ?_
       refine gT s 15 rfl rfl hC rfl rfl h855 fun a s => ?_
       refine h_done (by kernel_rfl) ?_
       exact ⟨Sv799, wj s d [0] [1, 2]⟩
      have h877 := ite_f hc852 h854
      refine h_c [0] [] d rfl rfl (by kernel_rfl) rfl fun hC d => ?_
      refine gn 3 [0, 1, 2] [] s hC rfl rfl rfl fun a s => ?_
      have s := s.bF 30 rfl h854
      refine gn 12 [3, 4, 5, 6, 7, 8, 9, 10, 11, 12, 13, 14] [] s hC rfl rfl rfl fun a s => ?_
      refine gF s 15 rfl rfl hC rfl rfl h877 fun a s => ?_
      refine h_done (by kernel_rfl) ?_
      exact ⟨Sv799, wj s d [0] [0, 1]⟩
     rintro a w ⟨Sv853, s, d⟩
     refine tn (cd s u rfl (fun u => ?_) fun u => ?_)
     ·refine sk (wp_block (wp_region_lit (rn0 2 s rfl fun a s => ?_)))
      obtain ⟨k883, h882, u⟩ := bt u
      refine sv s (y_assignI rfl h882) rfl fun a s => ?_
      refine wpList_nil ?_
      exact blk_normal (tn ⟨_, io u, Sv853, wj s d [0] [0, 1]⟩)
     refine wp_exit (then_exit (then_exit (blk_exit ?_)))
     obtain rfl := oi u
     have h884 := hd826 _ rfl
     subst h884
     exact tn ⟨Sv853, wj s d [0] [0, 1]⟩
    rintro a w ⟨Sv830, s, d⟩
    refine tn (sn0 3 s rfl fun a s => ?_)
    obtain ⟨x887, h885, u⟩ := bt u
    obtain ⟨q891, c892, h888, h889, h890, h886⟩ := d.elemK 0 rfl h885
    obtain ⟨_, _, rfl, rfl, rfl⟩ := h886
    have d := d.addE h890
    refine sv s (y_indexAt runUnderlying52 sizeOf45 rfl rfl h888.1 h888.2 h889) rfl fun a s => ?_
    refine sv s (y_loadEA (j := 0) (d.ceAt 0 rfl) rfl isAgg45 sizeOf45 rfl rfl) rfl fun a s => ?_
    refine w_litSlice (α := Span) (vs := [V45 x887]) (cs := (C45 x887)) (xs := ([x887] : List Span)) s d El52 rfl rfl rfl rfl rfl rfl ⟨⟨_, _, rfl, rfl, rfl⟩, rfl⟩ rfl trivial rfl fun b894 a w s d => ?_
    obtain ⟨l896, h895, u⟩ := bt u
    refine w_appendR (α := Span) s d El52 1 rfl rfl rfl 3 rfl 0 rfl 0 rfl h895 rfl trivial ?_
    intro p897 k898 c899 a w s d
    refine rz0 1 s rfl fun a s => ?_
    refine wp_seq ?_
    obtain ⟨l904, h900, u⟩ := bt u
    obtain ⟨p902, k903, h901⟩ := row_sub (α := Span) d 1 rfl h900
    obtain ⟨l909, h905, u⟩ := bt u
    obtain ⟨p907, k908, h906⟩ := row_sub (α := Span) d 1 rfl h905
    obtain ⟨l910, h911, u⟩ := bt u
    refine wp_only (fun a w => ∃ Sv914 c912, Sl 117 [(0, sl (some ⟨b727, o728, none⟩) k3 l1), (3, sl p897 k898 l910), (4, iv sv5.2), (5, iv e829)] a ∧ Wd ⟨w0, S0, []⟩ Sv914 [.row p897 l910.length k898 c912 45 2] [Sq (some ⟨b727, o728, none⟩) k3 l1, RowA c912 l910] w) ?_ ?_
    ·refine h_c [0] [2] d rfl rfl (by kernel_rfl) rfl fun hC d => ?_
     refine gn 3 [0, 1, 2] [] s hC rfl rfl rfl fun a s => ?_
     refine gv s 3 rfl rfl hC (fun w hC => y_slc runUnderlying52 sizeOf45 rfl ⟨_, rfl⟩ (by exact rfl) h901) fun a s => ?_
     refine gn 2 [4, 5] [] s hC rfl rfl rfl fun a s => ?_
     refine gv s 6 rfl rfl hC (fun w hC => y_slc runUnderlying52 sizeOf45 rfl ⟨_, rfl⟩ (by exact rfl) h906) fun a s => ?_
     refine ho 7 rfl ?_
     obtain ⟨ds_, h917⟩ := src_vw (d.ownAt 1 rfl) (d.envAt 0 rfl) h905 h906
     refine w_copyC (α := Span) s d 1 rfl 0 rfl runUnderlying52 runUnderlying52 sizeOf45 (by decide) h900 h901 rfl rfl rfl h917.1 h917.2.1 h917.2.2 rfl trivial ?_
     intro c912 a w s d
     rw [Option.some.inj h911] at d
     have h913 := (copy_lenS h900 h911)
     try have s := s.fl 3 rfl h913
     try have s := s.fl 53 rfl h913
     try have s := s.fl 57 rfl h913
     refine h_n [0] [3] d rfl rfl fun hC => ?_
     refine h_done (by kernel_rfl) ?_
     exact ⟨Sv830, c912, wj s d [1] [4, 0]⟩
    rintro a w ⟨Sv914, c912, s, d⟩
    refine tn (wp_region_lit (rn0 4 s rfl fun a s => ?_))
    obtain ⟨x920, h918, u⟩ := bt u
    obtain ⟨q924, c925, h921, h922, h923, h919⟩ := d.elemK 0 rfl h918
    obtain ⟨_, _, rfl, rfl, rfl⟩ := h919
    have d := d.addE h923
    refine sv s (y_indexAt runUnderlying52 sizeOf45 rfl rfl h921.1 h921.2 h922) rfl fun a s => ?_
    refine sv s (y_loadEA (j := 0) (d.ceAt 0 rfl) rfl isAgg45 sizeOf45 rfl rfl) rfl fun a s => ?_
    obtain ⟨x928, h926, u⟩ := bt u
    obtain ⟨b935, q932, c933, h936, h929, h930, h934, h927⟩ := d.elemRV (α := Span) 0 rfl 2 rfl h926
    have hsv937 := s
    have hwv938 := d
    subst h936
    have s := hsv937
    have d := hwv938
    obtain ⟨_, _, rfl, rfl, rfl⟩ := h927
    refine sv s (y_indexAt runUnderlying52 sizeOf45 rfl rfl h929.1 h929.2 h930) rfl fun a s => ?_
    obtain ⟨l940, h939, u⟩ := bt u
    refine w_storeF (α := Span) s d 0 rfl 2 rfl h930 rfl rfl sizeOf45 rfl h939 ⟨_, _, rfl, rfl, rfl⟩ trivial ?_
    intro c941 a w s d
    have h942 := setM_len h939
    try have s := s.fl 3 rfl h942
    try have s := s.fl 61 rfl h942
    refine wpList_nil ?_
    exact blk_normal (tn ⟨l940, c941, (ad b935), k898, Sv914, u, wj s d [0] [2, 0]⟩)
   rintro a w ⟨sorted716, c712, p713, k714, Sv715, u, s, d⟩
   refine tn (wp_region_lit (rn0 2 s rfl fun a s => ?_))
   obtain ⟨i718, h717, u⟩ := bt u
   refine sv s (y_assignI rfl h717) rfl fun a s => ?_
   exact nl ⟨_, io u, c712, p713, k714, Sv715, wj s d [0] [0, 1]⟩
  refine wp_exit (then_exit (then_exit (blk_exit ?_)))
  obtain rfl := oi u
  have h944 := hd536 _ rfl
  subst h944
  exact tn ⟨c358, p359, k360, Sv361, wj s d [0] [1]⟩
 rintro a w ⟨c540, p541, k542, Sv543, s, d⟩
 refine tn (sz0 1 s rfl fun a s => ?_)
 refine wp_seq (sz0 1 s rfl fun a s => ?_)
 obtain ⟨e1248, h1540, u⟩ := bt u
 refine wp_join (fun a w => ∃ c1249 p1250 k1251 Sv1252, Sl 117 [(6, sl p1250 k1251 e1248)] a ∧ Wd ⟨w0, S0, []⟩ Sv1252 [.row p1250 e1248.length k1251 c1249 45 2] [RowA c1249 e1248] w) ?_ ?_
 ·refine wp_block ?_
  have d := d.nilRow Span 45
  refine wp_while (fun sv945 a w => ∃ c1142 p1143 k1144 Sv1145, Sl 117 [(3, sl p541 k542 e539), (6, sl p1143 k1144 sv945.1), (7, iv sv945.2)] a ∧ Wd ⟨w0, S0, []⟩ Sv1145 [.row p541 e539.length k542 c540 45 2, .row p1143 sv945.1.length k1144 c1142 45 2] [RowA c540 e539, RowA c1142 sv945.1] w) (([] : List Span), 0) h1540 ⟨[], none, 0, Sv543, wj s d [1, 0] [1, 0]⟩ ?_
  clear h1540
  repeat clear u
  rintro sv945 a w tv1246 ⟨c1142, p1143, k1144, Sv1145, s, d⟩ u hd1245
  refine wp_seq (sz0 4 s rfl fun a s => ?_)
  refine cd s u rfl (fun u => ?_) fun u => ?_
  ·refine sk (wp_seq (wp_block (sn0 2 s rfl fun a s => ?_)))
   obtain ⟨n1352, h1351, u⟩ := bt u
   refine sv s (y_assignI rfl h1351) rfl fun a s => ?_
   refine nl (wp_seq ?_)
   obtain ⟨c1379, hc1379, u⟩ := bt u
   refine wp_only (fun a w => ∃ Sv1380, Sl 117 [(3, sl p541 k542 e539), (6, sl p1143 k1144 sv945.1), (7, iv sv945.2), (8, iv n1352), (91, .bool c1379)] a ∧ Wd ⟨w0, S0, []⟩ Sv1380 [.row p541 e539.length k542 c540 45 2, .row p1143 sv945.1.length k1144 c1142 45 2] [RowA c540 e539, RowA c1142 sv945.1] w) ?_ ?_
   ·rcases Bool.eq_false_or_eq_true (decide (0 < n1352)) with h1381 | h1381
    ·have h1382 := ite_t hc1379 h1381
     obtain ⟨x1385, h1383, h1382⟩ := bind_t h1382
     obtain ⟨b1392, q1389, c1390, h1393, h1386, h1387, h1391, h1384⟩ := d.elemRV (α := Span) 0 rfl 0 rfl h1383
     have hsv1394 := s
     have hwv1395 := d
     subst h1393
     have s := hsv1394
     have d := hwv1395
     obtain ⟨_, _, rfl, rfl, rfl⟩ := h1384
     obtain ⟨x1398, h1396, h1382⟩ := bind_t h1382
     obtain ⟨b1405, q1402, c1403, h1406, h1399, h1400, h1404, h1397⟩ := d.elemRV (α := Span) 1 rfl 1 rfl h1396
     have hsv1407 := s
     have hwv1408 := d
     subst h1406
     have s := hsv1407
     have d := hwv1408
     obtain ⟨_, _, rfl, rfl, rfl⟩ := h1397
     refine h_c [0, 1] [] d rfl rfl (by kernel_rfl) rfl fun hC d => ?_
     refine gn 3 [0, 1, 2] [] s hC rfl rfl rfl fun a s => ?_
     have s := s.bT 78 rfl h1381
     refine gn 2 [3, 4] [] s hC rfl rfl rfl fun a s => ?_
     refine gx s 5 rfl ⟨_, rfl, rfl⟩ rfl hC runUnderlying52 sizeOf45 rfl rfl h1386 h1387 fun a s => ?_
     refine gt s 6 rfl ⟨_, rfl, rfl⟩ rfl hC (fun w hC => y_fieldAddr (o' := q1389 + 0) runUnderlying45 rfl sizeOf3 rfl rfl rfl) fun a s => ?_
     refine gt s 7 rfl ⟨_, rfl, rfl⟩ rfl hC (fun w hC => y_loadQ1 (j := 0) (hC.ownAt 0 rfl) rfl isAgg3 h1391 rfl) fun a s => ?_
     refine gn 3 [8, 9, 10] [] s hC rfl rfl rfl fun a s => ?_
     refine gx s 11 rfl ⟨_, rfl, rfl⟩ rfl hC runUnderlying52 sizeOf45 rfl rfl h1399 h1400 fun a s => ?_
     refine gt s 12 rfl ⟨_, rfl, rfl⟩ rfl hC (fun w hC => y_fieldAddr (o' := q1402 + 1) runUnderlying45 rfl sizeOf3 rfl rfl rfl) fun a s => ?_
     refine gt s 13 rfl ⟨_, rfl, rfl⟩ rfl hC (fun w hC => y_loadQ1 (j := 1) (hC.ownAt 1 rfl) rfl isAgg3 h1404 rfl) fun a s => ?_
     refine gt s 14 rfl ⟨_, rfl, rfl⟩ rfl hC (fun w hC => y_leq rfl rfl) fun a s => ?_
     refine gT s 15 rfl rfl hC rfl rfl h1382 fun a s => ?_
     refine h_done (by kernel_rfl) ?_
     exact ⟨Sv1145, wj s d [0, 1] [0, 1]⟩
    have h1409 := ite_f hc1379 h1381
    refine h_c [0, 1] [] d rfl rfl (by kernel_rfl) rfl fun hC d => ?_
    refine gn 3 [0, 1, 2] [] s hC rfl rfl rfl fun a s => ?_
    have s := s.bF 78 rfl h1381
    refine gn 12 [3, 4, 5, 6, 7, 8, 9, 10, 11, 12, 13, 14] [] s hC rfl rfl rfl fun a s => ?_
    refine gF s 15 rfl rfl hC rfl rfl h1409 fun a s => ?_
    refine h_done (by kernel_rfl) ?_
    exact ⟨Sv1145, wj s d [0, 1] [0, 1]⟩
   rintro a w ⟨Sv1380, s, d⟩
   refine tn (wp_join (fun a w => ∃ (out1475 : (List Span)) (c1471 p1472 k1473 Sv1474 : _), ref08_Normal_j4 sv945 out1475 = some tv1246 ∧ Sl 117 [(3, sl p541 k542 e539), (6, sl p1472 k1473 out1475), (7, iv sv945.2)] a ∧ Wd ⟨w0, S0, []⟩ Sv1474 [.row p541 e539.length k542 c540 45 2, .row p1472 out1475.length k1473 c1471 45 2] [RowA c540 e539, RowA c1471 out1475] w) ?_ ?_)
   ·refine cd s u rfl (fun u => ?_) fun u => ?_
    ·obtain ⟨x1481, h1479, u⟩ := bt u
     obtain ⟨b1488, q1485, c1486, h1489, h1482, h1483, h1487, h1480⟩ := d.elemRV (α := Span) 1 rfl 1 rfl h1479
     have hsv1490 := s
     have hwv1491 := d
     subst h1489
     have s := hsv1490
     have d := hwv1491
     obtain ⟨_, _, rfl, rfl, rfl⟩ := h1480
     obtain ⟨x1494, h1492, u⟩ := bt u
     obtain ⟨b1501, q1498, c1499, h1502, h1495, h1496, h1500, h1493⟩ := d.elemRV (α := Span) 0 rfl 0 rfl h1492
     have hsv1503 := s
     have hwv1504 := d
     subst h1502
     have s := hsv1503
     have d := hwv1504
     obtain ⟨_, _, rfl, rfl, rfl⟩ := h1493
     obtain ⟨x1507, h1505, u⟩ := bt u
     obtain ⟨q1511, c1512, h1508, h1509, h1513, h1506⟩ := d.elemRK (α := Span) 1 rfl 1 rfl h1505
     obtain ⟨_, _, rfl, rfl, rfl⟩ := h1506
     obtain ⟨l1515, h1514, u⟩ := bt u
     refine wp_only (fun a w => ∃ Sv1518 c1516, Sl 117 [(3, sl (ad b1501) k542 e539), (6, sl (ad b1488) k1144 l1515), (7, iv sv945.2)] a ∧ Wd ⟨w0, S0, []⟩ Sv1518 [.row (ad b1501) e539.length k542 c540 45 2, .row (ad b1488) l1515.length k1144 c1516 45 2] [RowA c540 e539, RowA c1516 l1515] w) ?_ ?_
     ·refine h_c [0] [] d rfl rfl (by kernel_rfl) rfl fun hC d => ?_
      refine gn 6 [0, 1, 2, 3, 4, 5] [] s hC rfl rfl rfl fun a s => ?_
      refine gx s 6 rfl trivial rfl hC runUnderlying52 sizeOf45 rfl rfl h1482 h1483 fun a s => ?_
      refine gn 3 [7, 9, 10] [] s hC rfl rfl rfl fun a s => ?_
      refine gx s 11 rfl trivial rfl hC runUnderlying52 sizeOf45 rfl rfl h1495 h1496 fun a s => ?_
      refine gv s 12 rfl rfl hC (fun w hC => y_fieldAddr (o' := q1498 + 1) runUnderlying45 rfl sizeOf3 rfl rfl rfl) fun a s => ?_
      refine gv s 13 rfl rfl hC (fun w hC => y_loadQ1 (j := 1) (hC.ownAt 0 rfl) rfl isAgg3 h1500 rfl) fun a s => ?_
      refine ho 8 rfl ?_
      refine sv s (y_loadQ1 (j := 1) (d.ownAt 1 rfl) rfl isAgg3 h1487 rfl) rfl fun a s => ?_
      refine h_n [0] [] d rfl rfl fun hC => ?_
      refine gv s 14 rfl rfl hC (fun w hC => y_max rfl rfl) fun a s => ?_
      refine gx s 15 rfl trivial rfl hC runUnderlying52 sizeOf45 rfl rfl h1508 h1509 fun a s => ?_
      refine gv s 16 rfl rfl hC (fun w hC => y_fieldAddr (o' := q1511 + 1) runUnderlying45 rfl sizeOf3 rfl rfl rfl) fun a s => ?_
      refine ho 17 rfl ?_
      refine w_storeR (α := Span) (f := 1) (m := 1) s d 1 rfl 1 rfl h1509 rfl rfl sizeOf3 rfl rfl rfl h1514 (fun es he => by rw [h1513] at he; subst he; exact ⟨_, _, rfl, rfl, rfl⟩) trivial ?_
      intro c1516 a w s d
      have h1517 := setM_len h1514
      try have s := s.fl 6 rfl h1517
      try have s := s.fl 92 rfl h1517
      try have s := s.fl 95 rfl h1517
      refine h_n [0] [] d rfl rfl fun hC => ?_
      refine h_done (by kernel_rfl) ?_
      exact ⟨Sv1380, c1516, wj s d [0, 1] [1, 0]⟩
     rintro a w ⟨Sv1518, c1516, s, d⟩
     exact tn ⟨l1515, c1516, (ad b1488), k1144, Sv1518, u, wj s d [0, 1] [0, 1]⟩
    refine wp_region_lit (rn0 3 s rfl fun a s => ?_)
    obtain ⟨x1521, h1519, u⟩ := bt u
    obtain ⟨b1528, q1525, c1526, h1529, h1522, h1523, h1527, h1520⟩ := d.elemRV (α := Span) 0 rfl 0 rfl h1519
    have hsv1530 := s
    have hwv1531 := d
    subst h1529
    have s := hsv1530
    have d := hwv1531
    obtain ⟨_, _, rfl, rfl, rfl⟩ := h1520
    refine sv s (y_indexAt runUnderlying52 sizeOf45 rfl rfl h1522.1 h1522.2 h1523) rfl fun a s => ?_
    refine sv s (y_loadQA (j := 0) (d.ownAt 0 rfl) rfl isAgg45 sizeOf45 h1527 rfl rfl) rfl fun a s => ?_
    refine w_litSlice (α := Span) (vs := [V45 x1521]) (cs := (C45 x1521)) (xs := ([x1521] : List Span)) s d El52 rfl rfl rfl rfl rfl rfl ⟨⟨_, _, rfl, rfl, rfl⟩, rfl⟩ rfl trivial rfl fun b1533 a w s d => ?_
    obtain ⟨l1535, h1534, u⟩ := bt u
    refine w_appendR (α := Span) s d El52 2 rfl rfl rfl 2 rfl 0 rfl 0 rfl h1534 rfl trivial ?_
    intro p1536 k1537 c1538 a w s d
    refine rz0 1 s rfl fun a s => ?_
    exact ⟨l1535, c1538, p1536, k1537, Sv1380, u, wj s d [1, 2] [2, 0]⟩
   rintro a w ⟨out1475, c1471, p1472, k1473, Sv1474, u, s, d⟩
   refine blk_normal (tn (wp_region_lit (rn0 2 s rfl fun a s => ?_)))
   obtain ⟨i1477, h1476, u⟩ := bt u
   refine sv s (y_assignI rfl h1476) rfl fun a s => ?_
   exact nl ⟨_, io u, c1471, p1472, k1473, Sv1474, wj s d [0, 1] [0, 1]⟩
  refine wp_exit (then_exit (then_exit (blk_exit ?_)))
  obtain rfl := oi u
  have h1539 := hd1245 _ rfl
  subst h1539
  exact tn ⟨c1142, p1143, k1144, Sv1145, wj s d [1] [1]⟩
 rintro a w ⟨c1249, p1250, k1251, Sv1252, s, d⟩
 refine tn (sz0 2 s rfl fun a s => ?_)
 obtain rfl := oi u
 exact q1 s rfl (d.ret ⟨p1250, k1251, c1249, rfl, (d.outs [0] (by decide) rfl), (d.envAt 0 rfl)⟩)
theorem ref08_Minus_ok {w0 S0 p2 k3 p6 k7 a1 b5 r} (u : ref08_Minus a1 b5 = some r) (hS : Dm S0 w0) (h4 : (Sq p2 k3 a1).p S0 w0) (h8 : (Sq p6 k7 b5).p S0 w0) : Ck Tryz.prog 36 #[sl p2 k3 a1, sl p6 k7 b5] w0 S0 [] slices_Clone_Lapi_Span_api_Span_rd r := by
 refine en 94 func36 rfl hS rfl rfl rfl fun a s d => ?_
 have d := (d.addE h4).addE h8
 refine sz0 1 s rfl fun a s => ?_
 refine sn0 1 s rfl fun a s => ?_
 obtain ⟨rv10, h9, u⟩ := bt u
 refine cR s (ref08_Normal_ok h9 d.dom (d.envAt 1 rfl)) (do_call call58 rfl) rfl ?_
 rintro v18 Sv15 w a h16 ⟨p11, k12, c14, rfl, h19, h13⟩ s
 have d := (d.callN h16 h19).addE (e := RowA c14 rv10) h13
 refine mv s rfl rfl fun a s => ?_
 obtain ⟨rv21, h20, u⟩ := bt u
 refine cR s (ref08_Normal_ok h20 d.dom (d.envAt 1 rfl)) (do_call call58 rfl) rfl ?_
 rintro v29 Sv26 w a h27 ⟨p22, k23, c25, rfl, h30, h24⟩ s
 have d := (d.callN h27 h30).addE (e := RowA c25 rv21) h24
 refine rz0 2 s rfl fun a s => ?_
 refine sz0 1 s rfl fun a s => ?_
 refine wp_seq (sz0 1 s rfl fun a s => ?_)
 obtain ⟨e1000, h1862, u⟩ := bt u
 refine wp_join (fun a w => ∃ c1001 p1002 k1003 Sv1004, Sl 94 [(7, sl p1002 k1003 e1000)] a ∧ Wd ⟨w0, S0, []⟩ Sv1004 [.row p1002 e1000.length k1003 c1001 45 2] [RowA c1001 e1000] w) ?_ ?_
 ·refine wp_block ?_
  have d := d.nilRow Span 45
  refine wp_while (fun sv31 a w => ∃ c674 p675 k676 Sv677, Sl 94 [(5, sl p11 k12 rv10), (6, sl p22 k23 rv21), (7, sl p675 k676 sv31.1), (8, iv sv31.2)] a ∧ Wd ⟨w0, S0, []⟩ Sv677 [.row p11 rv10.length k12 c14 45 2, .row p22 rv21.length k23 c25 45 2, .row p675 sv31.1.length k676 c674 45 2] [RowA c14 rv10, RowA c25 rv21, RowA c674 sv31.1] w) (([] : List Span), 0) h1862 ⟨[], none, 0, Sv26, wj s d [2, 1, 0] [2, 1, 0]⟩ ?_
  clear h1862
  repeat clear u
  rintro sv31 a w tv998 ⟨c674, p675, k676, Sv677, s, d⟩ u hd997
  refine wp_seq (sz0 4 s rfl fun a s => ?_)
  refine cd s u rfl (fun u => ?_) fun u => ?_
  ·refine sk (wp_seq (wp_block (sn0 2 s rfl fun a s => ?_)))
   obtain ⟨x1325, h1323, u⟩ := bt u
   obtain ⟨b1332, q1329, c1330, h1333, h1326, h1327, h1331, h1324⟩ := d.elemRV (α := Span) 0 rfl 0 rfl h1323
   have hsv1334 := s
   have hwv1335 := d
   subst h1333
   have s := hsv1334
   have d := hwv1335
   obtain ⟨_, _, rfl, rfl, rfl⟩ := h1324
   refine sv s (y_indexAt runUnderlying52 sizeOf45 rfl rfl h1326.1 h1326.2 h1327) rfl fun a s => ?_
   refine sv s (y_fieldAddr (o' := q1329 + 0) runUnderlying45 rfl sizeOf3 rfl rfl rfl) rfl fun a s => ?_
   refine sv s (y_loadQ1 (j := 0) (d.ownAt 0 rfl) rfl isAgg3 h1331 rfl) rfl fun a s => ?_
   refine rz0 1 s rfl fun a s => ?_
   refine wp_seq (sz0 1 s rfl fun a s => ?_)
   obtain ⟨e1603, h1860, u⟩ := bt u
   refine wp_join (fun a w => ∃ c1604 p1605 k1606 Sv1607, Sl 94 [(5, sl (ad b1332) k12 rv10), (6, sl p22 k23 rv21), (7, sl p1605 k1606 e1603.1), (8, iv sv31.2), (9, iv e1603.2)] a ∧ Wd ⟨w0, S0, []⟩ Sv1607 [.row (ad b1332) rv10.length k12 c14 45 2, .row p22 rv21.length k23 c25 45 2, .row p1605 e1603.1.length k1606 c1604 45 2] [RowA c14 rv10, RowA c25 rv21, RowA c1604 e1603.1] w) ?_ ?_
   ·refine wp_block (wp_while (fun sv1336 a w => ∃ c1511 p1512 k1513 Sv1514, Sl 94 [(5, sl (ad b1332) k12 rv10), (6, sl p22 k23 rv21), (7, sl p1512 k1513 sv1336.1), (8, iv sv31.2), (9, iv sv1336.2.1), (10, iv sv1336.2.2)] a ∧ Wd ⟨w0, S0, []⟩ Sv1514 [.row (ad b1332) rv10.length k12 c14 45 2, .row p22 rv21.length k23 c25 45 2, .row p1512 sv1336.1.length k1513 c1511 45 2] [RowA c14 rv10, RowA c25 rv21, RowA c1511 sv1336.1] w) (sv31.1, x1325.From, 0) h1860 ⟨c674, p675, k676, Sv677, wj s d [0, 1, 2] [0, 1, 2]⟩ ?_)
    clear h1860
    repeat clear u
    rintro sv1336 a w tv1601 ⟨c1511, p1512, k1513, Sv1514, s, d⟩ u hd1600
    refine wp_seq (sz0 4 s rfl fun a s => ?_)
    refine cd s u rfl (fun u => ?_) fun u => ?_
    ·refine sk (wp_seq (wp_join (fun a w => ∃ (out1690 : (List Span)) (fromv1691 : Int) (c1686 p1687 k1688 Sv1689 : _), ref08_Minus_j1 sv1336 out1690 fromv1691 = some tv1601 ∧ Sl 94 [(5, sl (ad b1332) k12 rv10), (6, sl p22 k23 rv21), (7, sl p1687 k1688 out1690), (8, iv sv31.2), (9, iv fromv1691), (10, iv sv1336.2.2)] a ∧ Wd ⟨w0, S0, []⟩ Sv1689 [.row (ad b1332) rv10.length k12 c14 45 2, .row p22 rv21.length k23 c25 45 2, .row p1687 out1690.length k1688 c1686 45 2] [RowA c14 rv10, RowA c25 rv21, RowA c1686 out1690] w) ?_ ?_))
     ·refine wp_block (wp_seq (wp_seq ?_))
      obtain ⟨x1696, h1694, u⟩ := bt u
      obtain ⟨b1703, q1700, c1701, h1704, h1697, h1698, h1702, h1695⟩ := d.elemRV (α := Span) 1 rfl 1 rfl h1694
      have hsv1705 := s
      have hwv1706 := d
      subst h1704
      have s := hsv1705
      have d := hwv1706
      obtain ⟨_, _, rfl, rfl, rfl⟩ := h1695
      obtain ⟨c1725, hc1725, u⟩ := bt u
      refine wp_only (fun a w => ∃ Sv1726, Sl 94 [(5, sl (ad b1332) k12 rv10), (6, sl (ad b1703) k23 rv21), (7, sl p1512 k1513 sv1336.1), (8, iv sv31.2), (9, iv sv1336.2.1), (10, iv sv1336.2.2), (51, .bool c1725)] a ∧ Wd ⟨w0, S0, []⟩ Sv1726 [.row (ad b1332) rv10.length k12 c14 45 2, .row (ad b1703) rv21.length k23 c25 45 2, .row p1512 sv1336.1.length k1513 c1511 45 2] [RowA c14 rv10, RowA c25 rv21, RowA c1511 sv1336.1] w) ?_ ?_
      ·rcases Bool.eq_false_or_eq_true (decide (x1696.To ≤ sv1336.2.1)) with h1727 | h1727
       ·have h1728 := ite_t hc1725 h1727
        refine h_c [0, 1, 2] [] d rfl rfl (by kernel_rfl) rfl fun hC d => ?_
        refine gn 2 [0, 1] [] s hC rfl rfl rfl fun a s => ?_
        refine gx s 2 rfl trivial rfl hC runUnderlying52 sizeOf45 rfl rfl h1697 h1698 fun a s => ?_
        refine gv s 3 rfl rfl hC (fun w hC => y_fieldAddr (o' := q1700 + 1) runUnderlying45 rfl sizeOf3 rfl rfl rfl) fun a s => ?_
        refine gv s 4 rfl rfl hC (fun w hC => y_loadQ1 (j := 1) (hC.ownAt 1 rfl) rfl isAgg3 h1702 rfl) fun a s => ?_
        refine gn 3 [5, 6, 7] [] s hC rfl rfl rfl fun a s => ?_
        have s := s.bT 39 rfl h1727
        refine gn 11 [8, 9, 10, 11, 12, 13, 14, 15, 16, 17, 18] [] s hC rfl rfl rfl fun a s => ?_
        refine gT s 19 rfl rfl hC rfl rfl h1728 fun a s => ?_
        refine h_done (by kernel_rfl) ?_
        exact ⟨Sv1514, wj s d [0, 1, 2] [0, 1, 2]⟩
       have h1729 := ite_f hc1725 h1727
       obtain ⟨x1732, h1730, h1729⟩ := bind_t h1729
       obtain ⟨q1736, c1737, h1733, h1734, h1738, h1731⟩ := d.elemRK (α := Span) 1 rfl 1 rfl h1730
       obtain ⟨_, _, rfl, rfl, rfl⟩ := h1731
       obtain ⟨x1741, h1739, h1729⟩ := bind_t h1729
       obtain ⟨q1745, c1746, h1742, h1743, h1747, h1740⟩ := d.elemRK (α := Span) 0 rfl 0 rfl h1739
       obtain ⟨_, _, rfl, rfl, rfl⟩ := h1740
       refine h_c [0, 1, 2] [] d rfl rfl (by kernel_rfl) rfl fun hC d => ?_
       refine gn 2 [0, 1] [] s hC rfl rfl rfl fun a s => ?_
       refine gx s 2 rfl trivial rfl hC runUnderlying52 sizeOf45 rfl rfl h1697 h1698 fun a s => ?_
       refine gv s 3 rfl rfl hC (fun w hC => y_fieldAddr (o' := q1700 + 1) runUnderlying45 rfl sizeOf3 rfl rfl rfl) fun a s => ?_
       refine gv s 4 rfl rfl hC (fun w hC => y_loadQ1 (j := 1) (hC.ownAt 1 rfl) rfl isAgg3 h1702 rfl) fun a s => ?_
       refine gn 3 [5, 6, 7] [] s hC rfl rfl rfl fun a s => ?_
       have s := s.bF 39 rfl h1727
       refine gn 2 [8, 9] [] s hC rfl rfl rfl fun a s => ?_
       refine gx s 10 rfl ⟨_, rfl, rfl⟩ rfl hC runUnderlying52 sizeOf45 rfl rfl h1733 h1734 fun a s => ?_
       refine gt s 11 rfl ⟨_, rfl, rfl⟩ rfl hC (fun w hC => y_fieldAddr (o' := q1736 + 0) runUnderlying45 rfl sizeOf3 rfl rfl rfl) fun a s => ?_
       refine gt s 12 rfl ⟨_, rfl, rfl⟩ rfl hC (fun w hC => y_loadQ1 (j := 0) (hC.ownAt 1 rfl) rfl isAgg3 h1738 rfl) fun a s => ?_
       refine gn 2 [13, 14] [] s hC rfl rfl rfl fun a s => ?_
       refine gx s 15 rfl ⟨_, rfl, rfl⟩ rfl hC runUnderlying52 sizeOf45 rfl rfl h1742 h1743 fun a s => ?_
       refine gt s 16 rfl ⟨_, rfl, rfl⟩ rfl hC (fun w hC => y_fieldAddr (o' := q1745 + 1) runUnderlying45 rfl sizeOf3 rfl rfl rfl) fun a s => ?_
       refine gt s 17 rfl ⟨_, rfl, rfl⟩ rfl hC (fun w hC => y_loadQ1 (j := 1) (hC.ownAt 0 rfl) rfl isAgg3 h1747 rfl) fun a s => ?_
       refine gt s 18 rfl ⟨_, rfl, rfl⟩ rfl hC (fun w hC => y_geq rfl rfl) fun a s => ?_
       refine gF s 19 rfl rfl hC rfl rfl h1729 fun a s => ?_
       refine h_done (by kernel_rfl) ?_
       exact ⟨Sv1514, wj s d [0, 1, 2] [0, 1, 2]⟩
      rintro a w ⟨Sv1726, s, d⟩
      refine tn (cd s u rfl (fun u => ?_) fun u => ?_)
      ·exact wp_exit (then_exit (blk_exit (tn ⟨sv1336.1, sv1336.2.1, c1511, p1512, k1513, Sv1726, u, wj s d [0, 1, 2] [0, 1, 2]⟩)))
      refine sk (wp_seq (sn0 2 s rfl fun a s => ?_))
      obtain ⟨x1752, h1750, u⟩ := bt u
      obtain ⟨q1756, c1757, h1753, h1754, h1758, h1751⟩ := d.elemRK (α := Span) 1 rfl 1 rfl h1750
      obtain ⟨_, _, rfl, rfl, rfl⟩ := h1751
      refine sv s (y_indexAt runUnderlying52 sizeOf45 rfl rfl h1753.1 h1753.2 h1754) rfl fun a s => ?_
      refine sv s (y_fieldAddr (o' := q1756 + 0) runUnderlying45 rfl sizeOf3 rfl rfl rfl) rfl fun a s => ?_
      refine sv s (y_loadQ1 (j := 0) (d.ownAt 1 rfl) rfl isAgg3 h1758 rfl) rfl fun a s => ?_
      refine rz0 2 s rfl fun a s => ?_
      refine wp_join (fun a w => ∃ (out1780 : (List Span)) (c1776 p1777 k1778 Sv1779 : _), ref08_Minus_j2 rv21 sv1336 out1780 = some tv1601 ∧ Sl 94 [(5, sl (ad b1332) k12 rv10), (6, sl (ad b1703) k23 rv21), (7, sl p1777 k1778 out1780), (8, iv sv31.2), (9, iv sv1336.2.1), (10, iv sv1336.2.2)] a ∧ Wd ⟨w0, S0, []⟩ Sv1779 [.row (ad b1332) rv10.length k12 c14 45 2, .row (ad b1703) rv21.length k23 c25 45 2, .row p1777 out1780.length k1778 c1776 45 2] [RowA c14 rv10, RowA c25 rv21, RowA c1776 out1780] w) ?_ ?_
      ·refine cd s u rfl (fun u => ?_) fun u => ?_
       ·refine wp_region_lit (rn0 4 s rfl fun a s => ?_)
        obtain ⟨x1795, h1793, u⟩ := bt u
        obtain ⟨q1799, c1800, h1796, h1797, h1801, h1794⟩ := d.elemRK (α := Span) 1 rfl 1 rfl h1793
        obtain ⟨_, _, rfl, rfl, rfl⟩ := h1794
        refine sv s (y_indexAt runUnderlying52 sizeOf45 rfl rfl h1796.1 h1796.2 h1797) rfl fun a s => ?_
        refine sv s (y_fieldAddr (o' := q1799 + 0) runUnderlying45 rfl sizeOf3 rfl rfl rfl) rfl fun a s => ?_
        refine sv s (y_loadQ1 (j := 0) (d.ownAt 1 rfl) rfl isAgg3 h1801 rfl) rfl fun a s => ?_
        refine sv s (y_build (vs := [(0, iv sv1336.2.1), (1, iv x1795.From)]) Bld45 rfl rfl) rfl fun a s => ?_
        refine w_litSlice (α := Span) (vs := [.agg #[iv sv1336.2.1, iv x1795.From]]) (cs := [iv sv1336.2.1, iv x1795.From]) (xs := ([(⟨sv1336.2.1, x1795.From⟩ : Span)] : List Span)) s d El52 rfl rfl rfl rfl rfl rfl ⟨⟨_, _, rfl, rfl, rfl⟩, rfl⟩ rfl trivial rfl fun b1803 a w s d => ?_
        obtain ⟨l1805, h1804, u⟩ := bt u
        refine w_appendR (α := Span) s d El52 3 rfl rfl rfl 3 rfl 0 rfl 0 rfl h1804 rfl trivial ?_
        intro p1806 k1807 c1808 a w s d
        refine rz0 1 s rfl fun a s => ?_
        exact ⟨l1805, c1808, p1806, k1807, Sv1726, u, wj s d [1, 2, 3] [2, 3, 0]⟩
       exact sk ⟨sv1336.1, c1511, p1512, k1513, Sv1726, u, wj s d [0, 1, 2] [0, 1, 2]⟩
      rintro a w ⟨out1780, c1776, p1777, k1778, Sv1779, u, s, d⟩
      refine tn (wp_region_lit (rn0 3 s rfl fun a s => ?_))
      obtain ⟨x1783, h1781, u⟩ := bt u
      obtain ⟨q1787, c1788, h1784, h1785, h1789, h1782⟩ := d.elemRK (α := Span) 1 rfl 1 rfl h1781
      obtain ⟨_, _, rfl, rfl, rfl⟩ := h1782
      refine sv s (y_indexAt runUnderlying52 sizeOf45 rfl rfl h1784.1 h1784.2 h1785) rfl fun a s => ?_
      refine sv s (y_fieldAddr (o' := q1787 + 1) runUnderlying45 rfl sizeOf3 rfl rfl rfl) rfl fun a s => ?_
      refine sv s (y_loadQ1 (j := 1) (d.ownAt 1 rfl) rfl isAgg3 h1789 rfl) rfl fun a s => ?_
      refine sv s (y_max rfl rfl) rfl fun a s => ?_
      obtain ⟨fromv1791, h1790, u⟩ := bt u
      refine sv s (y_assignI rfl h1790) rfl fun a s => ?_
      refine wpList_nil ?_
      exact blk_normal (tn ⟨out1780, fromv1791, c1776, p1777, k1778, Sv1779, u, wj s d [0, 1, 2] [0, 1, 2]⟩)
     rintro a w ⟨out1690, fromv1691, c1686, p1687, k1688, Sv1689, u, s, d⟩
     refine tn (wp_region_lit (rn0 2 s rfl fun a s => ?_))
     obtain ⟨k1693, h1692, u⟩ := bt u
     refine sv s (y_assignI rfl h1692) rfl fun a s => ?_
     exact nl ⟨_, io u, c1686, p1687, k1688, Sv1689, wj s d [0, 1, 2] [0, 1, 2]⟩
    refine wp_exit (then_exit (then_exit (blk_exit ?_)))
    obtain rfl := oi u
    have h1809 := hd1600 _ rfl
    subst h1809
    exact tn ⟨c1511, p1512, k1513, Sv1514, wj s d [0, 1, 2] [0, 1, 2]⟩
   rintro a w ⟨c1604, p1605, k1606, Sv1607, s, d⟩
   refine tn (sn0 3 s rfl fun a s => ?_)
   obtain ⟨x1812, h1810, u⟩ := bt u
   obtain ⟨q1816, c1817, h1813, h1814, h1818, h1811⟩ := d.elemRK (α := Span) 0 rfl 0 rfl h1810
   obtain ⟨_, _, rfl, rfl, rfl⟩ := h1811
   refine sv s (y_indexAt runUnderlying52 sizeOf45 rfl rfl h1813.1 h1813.2 h1814) rfl fun a s => ?_
   refine sv s (y_fieldAddr (o' := q1816 + 1) runUnderlying45 rfl sizeOf3 rfl rfl rfl) rfl fun a s => ?_
   refine sv s (y_loadQ1 (j := 1) (d.ownAt 0 rfl) rfl isAgg3 h1818 rfl) rfl fun a s => ?_
   refine rz0 1 s rfl fun a s => ?_
   refine wp_join (fun a w => ∃ (out1840 : (List Span)) (c1836 p1837 k1838 Sv1839 : _), ref08_Minus_j4 sv31 out1840 = some tv998 ∧ Sl 94 [(5, sl (ad b1332) k12 rv10), (6, sl p22 k23 rv21), (7, sl p1837 k1838 out1840), (8, iv sv31.2)] a ∧ Wd ⟨w0, S0, []⟩ Sv1839 [.row (ad b1332) rv10.length k12 c14 45 2, .row p22 rv21.length k23 c25 45 2, .row p1837 out1840.length k1838 c1836 45 2] [RowA c14 rv10, RowA c25 rv21, RowA c1836 out1840] w) ?_ ?_
   ·refine cd s u rfl (fun u => ?_) fun u => ?_
    ·refine wp_region_lit (rn0 4 s rfl fun a s => ?_)
     obtain ⟨x1846, h1844, u⟩ := bt u
     obtain ⟨q1850, c1851, h1847, h1848, h1852, h1845⟩ := d.elemRK (α := Span) 0 rfl 0 rfl h1844
     obtain ⟨_, _, rfl, rfl, rfl⟩ := h1845
     refine sv s (y_indexAt runUnderlying52 sizeOf45 rfl rfl h1847.1 h1847.2 h1848) rfl fun a s => ?_
     refine sv s (y_fieldAddr (o' := q1850 + 1) runUnderlying45 rfl sizeOf3 rfl rfl rfl) rfl fun a s => ?_
     refine sv s (y_loadQ1 (j := 1) (d.ownAt 0 rfl) rfl isAgg3 h1852 rfl) rfl fun a s => ?_
     refine sv s (y_build (vs := [(0, iv e1603.2), (1, iv x1846.To)]) Bld45 rfl rfl) rfl fun a s => ?_
     refine w_litSlice (α := Span) (vs := [.agg #[iv e1603.2, iv x1846.To]]) (cs := [iv e1603.2, iv x1846.To]) (xs := ([(⟨e1603.2, x1846.To⟩ : Span)] : List Span)) s d El52 rfl rfl rfl rfl rfl rfl ⟨⟨_, _, rfl, rfl, rfl⟩, rfl⟩ rfl trivial rfl fun b1854 a w s d => ?_
     obtain ⟨l1856, h1855, u⟩ := bt u
     refine w_appendR (α := Span) s d El52 3 rfl rfl rfl 3 rfl 0 rfl 0 rfl h1855 rfl trivial ?_
     intro p1857 k1858 c1859 a w s d
     refine rz0 1 s rfl fun a s => ?_
     exact ⟨l1856, c1859, p1857, k1858, Sv1607, u, wj s d [1, 2, 3] [2, 3, 0]⟩
    exact sk ⟨e1603.1, c1604, p1605, k1606, Sv1607, u, wj s d [0, 1, 2] [0, 1, 2]⟩
   rintro a w ⟨out1840, c1836, p1837, k1838, Sv1839, u, s, d⟩
   refine blk_normal (tn (wp_region_lit (rn0 2 s rfl fun a s => ?_)))
   obtain ⟨i1842, h1841, u⟩ := bt u
   refine sv s (y_assignI rfl h1841) rfl fun a s => ?_
   exact nl ⟨_, io u, c1836, p1837, k1838, Sv1839, wj s d [0, 1, 2] [0, 1, 2]⟩
  refine wp_exit (then_exit (then_exit (blk_exit ?_)))
  obtain rfl := oi u
  have h1861 := hd997 _ rfl
  subst h1861
  exact tn ⟨c674, p675, k676, Sv677, wj s d [2] [2]⟩
 rintro a w ⟨c1001, p1002, k1003, Sv1004, s, d⟩
 refine tn (sz0 2 s rfl fun a s => ?_)
 obtain rfl := oi u
 exact q1 s rfl (d.ret ⟨p1002, k1003, c1001, rfl, (d.outs [0] (by decide) rfl), (d.envAt 0 rfl)⟩)
theorem law15_ComposeLocal_ok {w0 S0 p2 k3 t1 r} (u : law15_ComposeLocal t1 = some r) (hS : Dm S0 w0) (h4 : (Sq p2 k3 t1).p S0 w0) : Ck Tryz.prog 8 #[sl p2 k3 t1] w0 S0 [] made_Light_rd r := by
 refine en 112 func8 rfl hS rfl rfl rfl fun a s d => ?_
 have d := d.addE h4
 refine sz0 1 s rfl fun a s => ?_
 refine wp_seq (sn0 1 s rfl fun a s => ?_)
 obtain ⟨rv6, h5, u⟩ := bt u
 refine cV s d (made_Light_ok h5 d.bdom (d.bE 0 rfl)) (do_call call11 rfl) rfl fun a w s d => ?_
 refine rz0 1 s rfl fun a s => ?_
 refine cd s u rfl (fun u => ?_) fun u => ?_
 ·refine sr ?_
  obtain ⟨rv22, h21, u⟩ := bt u
  refine cV s d (law15_sane_ok h21 d.bdom) (do_call call12 rfl) rfl fun a w s d => ?_
  refine rz0 1 s rfl fun a s => ?_
  obtain rfl := oi u
  exact wp_ret (then_ret (rt s rfl (d.ret rfl)))
 refine sk (sn0 1 s rfl fun a s => ?_)
 obtain ⟨rv29, h28, u⟩ := bt u
 refine cR s (made_Roll_ok h28 d.dom (d.envAt 0 rfl)) (do_call call13 rfl) rfl ?_
 rintro v37 Sv34 w a h35 ⟨b30, p31, k32, rfl, h38, h33⟩ s
 have d := (d.callN h35 h38).addE (e := Sq p31 k32 rv29.L) h33
 refine rz0 1 s rfl fun a s => ?_
 refine sn0 1 s rfl fun a s => ?_
 obtain ⟨rv40, h39, u⟩ := bt u
 refine cR s (made_Dice_Records_ok h39 d.dom (d.ins [0] (by decide) rfl) (d.envAt 0 rfl)) (do_call call14 rfl) rfl ?_
 rintro v51 Sv48 w a h49 ⟨p41, k42, c44, p45, k46, rfl, h52, h43, h47⟩ s
 have d := ((d.callO [0] [] (by decide) rfl h49 h52).addE (e := RowA c44 rv40.1) h43).addE (e := Sq p45 k46 rv40.2.L) h47
 refine rz0 1 s rfl fun a s => ?_
 refine wp_seq (sz0 3 s rfl fun a s => ?_)
 refine cd s u rfl (fun u => ?_) fun u => ?_
 ·refine sr ?_
  obtain ⟨rv63, h62, u⟩ := bt u
  refine cV s d (law15_sane_ok h62 d.bdom) (do_call call12 rfl) rfl fun a w s d => ?_
  refine rz0 1 s rfl fun a s => ?_
  obtain rfl := oi u
  exact wp_ret (then_ret (rt s rfl (d.ret rfl)))
 refine sk (sn0 2 s rfl fun a s => ?_)
 obtain ⟨x71, h69, u⟩ := bt u
 obtain ⟨b78, q75, c76, h79, h72, h73, h77, h70⟩ := d.elemRV (α := Record) 0 rfl 1 rfl h69
 have hsv80 := s
 have hwv81 := d
 subst h79
 have s := hsv80
 have d := hwv81
 obtain ⟨_, _, _, _, _, _, _, _, _, _, _, _, rfl, rfl, rfl, rfl, rfl, rfl, rfl, rfl, rfl, rfl, rfl, rfl, ⟨p82, n83, k84, rfl, h85⟩⟩ := h70
 obtain rfl := h85.1
 have d := d.addE (e := SlA p82 _ k84 x71.Samples) h85
 refine sv s (y_indexAt runUnderlying27 sizeOf35 rfl rfl h72.1 h72.2 h73) rfl fun a s => ?_
 refine sv s (y_fieldAddr (o' := q75 + 0) runUnderlying35 rfl sizeOf31 rfl rfl rfl) rfl fun a s => ?_
 refine sv s (y_loadQA (j := 0) (d.ownAt 0 rfl) rfl isAgg31 sizeOf31 h77 rfl rfl) rfl fun a s => ?_
 obtain ⟨rv87, h86, u⟩ := bt u
 refine cR s (made_Dice_Record_ok h86 d.dom (d.ins [1] (by decide) rfl) (d.envAt 1 rfl)) (do_call call16 rfl) rfl ?_
 rintro v98 Sv95 w a h96 ⟨p88, k89, c91, p92, k93, rfl, h99, h90, h94⟩ s
 have d := ((d.callO [1] [0] (by decide) rfl h96 h99).addE (e := RowA c91 rv87.1.Samples) h90).addE (e := Sq p92 k93 rv87.2.L) h94
 refine wa Z4 s d zeroValue35 fun b100 a w s d => ?_
 refine ws (C35 rv87.1 p88 k89) s d 0 rfl rfl rfl sizeOf35 fun a w s d => ?_
 refine nl (wp_seq ?_)
 obtain ⟨l102, h101, u⟩ := bt u
 obtain ⟨l109, h108, u⟩ := bt u
 refine wp_only (fun a w => ∃ Sv113 c112 k111 p110, Sl 112 [(4, sl (ad b78) k42 rv40.1), (5, pt b100), (6, sl p110 k111 l109)] a ∧ Wd ⟨w0, S0, []⟩ Sv113 [.box b100 (C35 rv87.1 p88 k89) 35, .row (ad b78) rv40.1.length k42 c44 35 12, .row p110 l109.length k111 c112 35 12] [Sq p88 k89 rv87.1.Samples, RowA c44 rv40.1, RowA c112 l109] w) ?_ ?_
 ·refine h_c [0, 2, 3] [] d rfl rfl (by kernel_rfl) rfl fun hC d => ?_
  refine gn 2 [0, 2] [0] s hC rfl rfl rfl fun a s => ?_
  refine h_all (rs := [1, 3]) (by kernel_rfl) rfl ?_
  refine AllH.cons rfl ?_ ?_
  ·have d := d.nilRow Record 35
   refine w_appendR (α := Record) s d El27 0 rfl rfl rfl 0 rfl 4 rfl 5 rfl h101 rfl trivial ?_
   intro p103 k104 c105 a w s d
   refine h_n [1, 3, 4] [] d rfl rfl fun hC => ?_
   refine ho 3 rfl ?_
   obtain ⟨Sv114, d⟩ := w_share (α := Int) d 2 rfl 3 rfl
   refine w_litSlice (α := Record) (vs := [V35 rv87.1 p88 k89]) (cs := (C35 rv87.1 p88 k89)) (xs := ([rv87.1] : List Record)) s d El27 rfl rfl rfl rfl rfl rfl ⟨⟨_, _, _, _, _, _, _, _, _, _, _, _, rfl, rfl, rfl, rfl, rfl, rfl, rfl, rfl, rfl, rfl, rfl, rfl, ⟨_, _, _, rfl, d.envAt 0 rfl⟩⟩, rfl⟩ rfl trivial rfl fun b107 a w s d => ?_
   refine h_n [2, 3, 4] [] d rfl rfl fun hC => ?_
   refine h_d [2, 3, 4, 0] [] [0, 1, 2] [] d rfl rfl rfl rfl fun hC => ?_
   refine ho 4 rfl ?_
   refine w_appendR (α := Record) s d El27 1 rfl rfl rfl 2 rfl 0 rfl 0 rfl h108 rfl trivial ?_
   intro p110 k111 c112 a w s d
   refine h_n [2, 3, 4, 0] [] d rfl rfl fun hC => ?_
   refine gv s 5 rfl rfl hC (fun w hC => y_assign rfl) fun a s => ?_
   refine h_done (by kernel_rfl) ?_
   exact ⟨Sv114, c112, k111, p110, wj s d [2, 4, 1] [2, 9, 0]⟩
  refine AllH.cons rfl ?_ ?_
  ·obtain ⟨Sv115, d⟩ := w_share (α := Int) d 1 rfl 1 rfl
   refine w_litSlice (α := Record) (vs := [V35 rv87.1 p88 k89]) (cs := (C35 rv87.1 p88 k89)) (xs := ([rv87.1] : List Record)) s d El27 rfl rfl rfl rfl rfl rfl ⟨⟨_, _, _, _, _, _, _, _, _, _, _, _, rfl, rfl, rfl, rfl, rfl, rfl, rfl, rfl, rfl, rfl, rfl, rfl, ⟨_, _, _, rfl, d.envAt 0 rfl⟩⟩, rfl⟩ rfl trivial rfl fun b107 a w s d => ?_
   refine h_n [1, 2, 3] [] d rfl rfl fun hC => ?_
   refine h_d [1, 2, 3, 0] [] [0, 1, 2] [] d rfl rfl rfl rfl fun hC => ?_
   refine ho 1 rfl ?_
   have d := d.nilRow Record 35
   refine w_appendR (α := Record) s d El27 0 rfl rfl rfl 0 rfl 4 rfl 7 rfl h101 rfl trivial ?_
   intro p103 k104 c105 a w s d
   refine h_n [2, 3, 4, 1] [] d rfl rfl fun hC => ?_
   refine ho 4 rfl ?_
   refine w_appendR (α := Record) s d El27 0 rfl rfl rfl 0 rfl 1 rfl 2 rfl h108 rfl trivial ?_
   intro p110 k111 c112 a w s d
   refine h_n [2, 3, 4, 1] [] d rfl rfl fun hC => ?_
   refine gv s 5 rfl rfl hC (fun w hC => y_assign rfl) fun a s => ?_
   refine h_done (by kernel_rfl) ?_
   exact ⟨Sv115, c112, k111, p110, wj s d [2, 4, 0] [4, 9, 0]⟩
  exact AllH.nil
 rintro a w ⟨Sv113, c112, k111, p110, s, d⟩
 refine tn (sn0 2 s rfl fun a s => ?_)
 obtain ⟨rv120, h119, u⟩ := bt u
 obtain ⟨Sv125, d⟩ := w_share (α := Record) d 1 rfl 1 rfl
 obtain ⟨Sv126, d⟩ := w_share (α := Record) d 1 rfl 3 rfl
 refine cR s (compose_Latest_ok h119 d.dom (d.envAt 1 rfl) (d.envAt 0 rfl)) (do_call call35 rfl) rfl ?_
 rintro v130 Sv127 w a h128 ⟨p121, k122, c124, rfl, h131, h123⟩ s
 have d := (d.callN h128 h131).addE (e := RowA c124 rv120.1) h123
 refine rz0 5 s rfl fun a s => ?_
 refine sn 1 [1] s d rfl rfl fun a s => ?_
 obtain ⟨rv133, h132, u⟩ := bt u
 refine cV s d (ref14_Span_ok h132 d.bdom (d.bE 3 rfl)) (do_call call22 rfl) rfl fun a w s d => ?_
 refine rn0 3 s rfl fun a s => ?_
 refine wa [iv 0, iv 0] s d zeroValue45 fun b139 a w s d => ?_
 refine ws (C45 rv133.1) s d 0 rfl rfl rfl sizeOf45 fun a w s d => ?_
 refine rz0 1 s rfl fun a s => ?_
 refine wp_seq (sn0 3 s rfl fun a s => ?_)
 refine rO 3 55 [] s d rfl rfl rfl rfl rfl fun a s => ?_
 refine nl (cd s u rfl (fun u => ?_) fun u => ?_)
 ·refine sz0 1 s rfl fun a s => ?_
  obtain rfl := oi u
  exact wp_ret (then_ret (rt s rfl (d.ret rfl)))
 refine sk (sn 1 [0] s d rfl rfl fun a s => ?_)
 refine w_litSlice (α := Span) (vs := [V45 rv133.1]) (cs := (C45 rv133.1)) (xs := ([rv133.1] : List Span)) s d El52 rfl rfl rfl rfl rfl rfl ⟨⟨_, _, rfl, rfl, rfl⟩, rfl⟩ rfl trivial rfl fun b144 a w s d => ?_
 refine rz0 1 s rfl fun a s => ?_
 refine wp_seq (sz0 3 s rfl fun a s => ?_)
 obtain ⟨e526, h876, u⟩ := bt u
 refine wp_join (fun a w => ∃ c527 p528 k529 Sv530, Sl 112 [(7, sl p121 k122 rv120.1), (11, sl p528 k529 e526)] a ∧ Wd ⟨w0, S0, []⟩ Sv530 [.row p121 rv120.1.length k122 c124 45 2, .row p528 e526.length k529 c527 45 2] [RowA c124 rv120.1, RowA c527 e526] w) ?_ ?_
 ·refine wp_block (wp_while (fun sv145 a w => ∃ c396 p397 k398 Sv399, Sl 112 [(7, sl p121 k122 rv120.1), (9, pt b139), (11, sl p397 k398 sv145.1), (61, sl p110 k111 l109), (62, iv (l109.length : Int)), (63, iv sv145.2)] a ∧ Wd ⟨w0, S0, []⟩ Sv399 [.box b139 (C45 rv133.1) 45, .row p121 rv120.1.length k122 c124 45 2, .row p397 sv145.1.length k398 c396 45 2] [Sq p110 k111 l109, RowA c124 rv120.1, RowA c396 sv145.1] w) (([rv133.1] : List Span), 0) h876 ⟨(C45 rv133.1), (ad b144), ([rv133.1] : List Span).length, Sv127, wj s d [1, 2, 0] [2, 1, 0]⟩ ?_)
  clear h876
  repeat clear u
  rintro sv145 a w tv524 ⟨c396, p397, k398, Sv399, s, d⟩ u hd523
  refine sz0 1 s rfl fun a s => ?_
  refine wp_seq (cd s u rfl (fun u => ?_) fun u => ?_)
  ·refine sk (wp_seq (wp_block (sr ?_)))
   obtain ⟨x657, h655, u⟩ := bt u
   obtain ⟨b663, o664, q661, c662, h665, h658, h659, h660, h656⟩ := d.elemV 0 rfl h655
   have hsv666 := s
   have hwv667 := d
   subst h665
   have s := hsv666
   have d := hwv667
   obtain ⟨_, _, _, _, _, _, _, _, _, _, _, _, rfl, rfl, rfl, rfl, rfl, rfl, rfl, rfl, rfl, rfl, rfl, rfl, ⟨p668, n669, k670, rfl, h671⟩⟩ := h656
   obtain rfl := h671.1
   have d := (d.addE (e := SlA p668 _ k670 x657.Samples) h671).addE h660
   refine sv s (y_indexAt runUnderlying27 sizeOf35 rfl rfl h658.1 h658.2 h659) rfl fun a s => ?_
   refine sv s (y_loadEA (j := 0) (d.ceAt 0 rfl) rfl isAgg35 sizeOf35 rfl rfl) rfl fun a s => ?_
   refine wa Z4 s d zeroValue35 fun b672 a w s d => ?_
   refine ws (C35 x657 p668 k670) s d 0 rfl rfl rfl sizeOf35 fun a w s d => ?_
   refine nl (sz 4 [0] s d rfl rfl fun a s => ?_)
   obtain ⟨e772, h844, u⟩ := bt u
   refine wp_join (fun a w => ∃ c773 p774 k775 Sv776, Sl 112 [(7, sl p121 k122 rv120.1), (9, pt b139), (11, sl p774 k775 e772), (61, sl (some ⟨b663, o664, none⟩) k111 l109), (62, iv (l109.length : Int)), (63, iv sv145.2)] a ∧ Wd ⟨w0, S0, []⟩ Sv776 [.box b139 (C45 rv133.1) 45, .row p121 rv120.1.length k122 c124 45 2, .row p774 e772.length k775 c773 45 2] [Sq (some ⟨b663, o664, none⟩) k111 l109, RowA c124 rv120.1, RowA c773 e772] w) ?_ ?_
   ·refine wp_block (wp_while (fun sv673 a w => ∃ c736 p737 k738 Sv739, Sl 112 [(7, sl p121 k122 rv120.1), (9, pt b139), (11, sl p737 k738 sv673.1), (13, pt b672), (61, sl (some ⟨b663, o664, none⟩) k111 l109), (62, iv (l109.length : Int)), (63, iv sv145.2), (69, iv (x657.Samples.length : Int)), (70, iv sv673.2)] a ∧ Wd ⟨w0, S0, []⟩ Sv739 [.box b139 (C45 rv133.1) 45, .box b672 (C35 x657 p668 k670) 35, .row p121 rv120.1.length k122 c124 45 2, .row p737 sv673.1.length k738 c736 45 2] [Sq (some ⟨b663, o664, none⟩) k111 l109, Sq p668 k670 x657.Samples, RowA c124 rv120.1, RowA c736 sv673.1] w) (sv145.1, 0) h844 ⟨c396, p397, k398, Sv399, wj s d [1, 0, 2, 3] [2, 1, 3, 4]⟩ ?_)
    clear h844
    repeat clear u
    rintro sv673 a w tv770 ⟨c736, p737, k738, Sv739, s, d⟩ u hd769
    refine sz0 1 s rfl fun a s => ?_
    refine wp_seq (cd s u rfl (fun u => ?_) fun u => ?_)
    ·refine sk (wp_seq (wp_block (sz0 2 s rfl fun a s => ?_)))
     refine sn 2 [1] s d rfl rfl fun a s => ?_
     obtain ⟨rv808, h807, u⟩ := bt u
     refine cV s d (ref14_At_ok h807 d.bdom (d.bE 1 rfl)) (do_call call23 rfl) rfl fun a w s d => ?_
     refine rz0 5 s rfl fun a s => ?_
     refine sn 3 [1] s d rfl rfl fun a s => ?_
     obtain ⟨rv815, h814, u⟩ := bt u
     refine cV s d (ref14_At_ok h814 d.bdom (d.bE 1 rfl)) (do_call call23 rfl) rfl fun a w s d => ?_
     refine rz0 5 s rfl fun a s => ?_
     refine sn 5 [0] s d rfl rfl fun a s => ?_
     refine rA 5 90 [0] s d rfl rfl rfl rfl rfl fun a s => ?_
     refine nl (wp_join (fun a w => ∃ (near834 : (List Span)) (c830 p831 k832 Sv833 : _), law15_ComposeLocal_j1 sv673 near834 = some tv770 ∧ Sl 112 [(7, sl p121 k122 rv120.1), (9, pt b139), (11, sl p831 k832 near834), (13, pt b672), (61, sl (some ⟨b663, o664, none⟩) k111 l109), (62, iv (l109.length : Int)), (63, iv sv145.2), (69, iv (x657.Samples.length : Int)), (70, iv sv673.2)] a ∧ Wd ⟨w0, S0, []⟩ Sv833 [.box b139 (C45 rv133.1) 45, .box b672 (C35 x657 p668 k670) 35, .row p121 rv120.1.length k122 c124 45 2, .row p831 near834.length k832 c830 45 2] [Sq (some ⟨b663, o664, none⟩) k111 l109, Sq p668 k670 x657.Samples, RowA c124 rv120.1, RowA c830 near834] w) ?_ ?_)
     ·refine cd s u rfl (fun u => ?_) fun u => ?_
      ·refine wp_region_lit (rn0 3 s rfl fun a s => ?_)
       refine sv s (y_build (vs := [(0, iv rv808.1), (1, iv rv815.1)]) Bld45 rfl rfl) rfl fun a s => ?_
       refine w_litSlice (α := Span) (vs := [.agg #[iv rv808.1, iv rv815.1]]) (cs := [iv rv808.1, iv rv815.1]) (xs := ([(⟨rv808.1, rv815.1⟩ : Span)] : List Span)) s d El52 rfl rfl rfl rfl rfl rfl ⟨⟨_, _, rfl, rfl, rfl⟩, rfl⟩ rfl trivial rfl fun b837 a w s d => ?_
       obtain ⟨l839, h838, u⟩ := bt u
       refine w_appendR (α := Span) s d El52 4 rfl rfl rfl 4 rfl 0 rfl 0 rfl h838 rfl trivial ?_
       intro p840 k841 c842 a w s d
       refine rz0 1 s rfl fun a s => ?_
       exact ⟨l839, c842, p840, k841, Sv739, u, wj s d [1, 2, 3, 4] [2, 3, 4, 0]⟩
      exact sk ⟨sv673.1, c736, p737, k738, Sv739, u, wj s d [0, 1, 2, 3] [0, 1, 2, 3]⟩
     rintro a w ⟨near834, c830, p831, k832, Sv833, u, s, d⟩
     refine blk_normal (tn (wp_region_lit (rz0 2 s rfl fun a s => ?_)))
     exact ⟨_, io u, c830, p831, k832, Sv833, wj s d [0, 1, 2, 3] [0, 1, 2, 3]⟩
    refine wp_exit (then_exit (then_exit (blk_exit ?_)))
    obtain rfl := oi u
    have h843 := hd769 _ rfl
    subst h843
    exact tn ⟨c736, p737, k738, Sv739, wj s d [0, 2, 3] [0, 2, 3]⟩
   rintro a w ⟨c773, p774, k775, Sv776, s, d⟩
   refine blk_normal (tn (wp_region_lit (rz0 2 s rfl fun a s => ?_)))
   exact ⟨_, io u, c773, p774, k775, Sv776, wj s d [0, 1, 2] [0, 1, 2]⟩
  refine wp_exit (then_exit (then_exit (blk_exit ?_)))
  obtain rfl := oi u
  have h845 := hd523 _ rfl
  subst h845
  exact tn ⟨c396, p397, k398, Sv399, wj s d [1, 2] [1, 2]⟩
 rintro a w ⟨c527, p528, k529, Sv530, s, d⟩
 refine tn (sn0 2 s rfl fun a s => ?_)
 obtain ⟨rv847, h846, u⟩ := bt u
 obtain ⟨Sv852, d⟩ := w_share (α := Span) d 0 rfl 0 rfl
 obtain ⟨Sv853, d⟩ := w_share (α := Span) d 0 rfl 2 rfl
 refine cR s (ref08_Minus_ok h846 d.dom (d.envAt 1 rfl) (d.envAt 0 rfl)) (do_call call36 rfl) rfl ?_
 rintro v857 Sv854 w a h855 ⟨p848, k849, c851, rfl, h858, h850⟩ s
 have d := (d.callN h855 h858).addE (e := RowA c851 rv847) h850
 refine rn0 3 s rfl fun a s => ?_
 obtain ⟨c867, hc867, u⟩ := bt u
 refine wpl_join 2 (fun a w => ∃ Sv868, Sl 112 [(111, .bool c867)] a ∧ Wd ⟨w0, S0, []⟩ Sv868 [] [] w) ?_ ?_
 ·rcases Bool.eq_false_or_eq_true ((rv847.length : Int) == 0) with h866 | h866
  ·have s := s.bT 109 rfl h866
   have u := ite_t hc867 h866
   obtain ⟨rv870, h869, u⟩ := bt u
   refine st_callR s (law15_sane_ok h869 d.bdom) (do_call call12 rfl) ⟨_, rfl, rfl⟩ rfl rfl ?_
   rintro v874 Sv871 w a h872 rfl s
   have d := d.callB h872
   refine sv s (y_pickT rfl rfl) rfl fun a s => ?_
   refine wpList_nil ?_
   obtain rfl := oi u
   exact tn ⟨Sv854, wj s d [] []⟩
  have s := s.bF 109 rfl h866
  have u := ite_f hc867 h866
  refine rn0 2 s rfl fun a s => ?_
  refine wpList_nil ?_
  obtain rfl := oi u
  exact tn ⟨Sv854, wj s d [] []⟩
 rintro a w ⟨Sv868, s, d⟩
 refine rz0 1 s rfl fun a s => ?_
 obtain rfl := oi u
 exact q1 s rfl (d.ret rfl)
end Go.Proofs.YthdimlepjpnncaaGreat.Wk

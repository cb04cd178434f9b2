/- The walks of ContinuityExact, part 2: each Go function computes what its plain program computes. Printed by a program of ours. -/
import Derived.Test.YtdcafiefjakfeaaGreatProg
import Derived.Test.YtdcafiefjakfeaaGreatDat
import Derived.Test.YtdcafiefjakfeaaGreatSh
import Derived.Test.YtdcafiefjakfeaaGreatLa1
import Derived.KernelRfl
import Derived.Test.YtdcafiefjakfeaaGreatLb1
import Derived.Shelf.SlLaysF0
import Derived.Shelf.SlLaysM
import Derived.Test.YtdcafiefjakfeaaGreatWContinuityExact1
namespace Go.Proofs.YtdcafiefjakfeaaGreat.Wk
open Go Go.RowKit Go.Proofs Go.Proofs.YtdcafiefjakfeaaGreat.Sh Go.Proofs.Tryz
set_option linter.unusedVariables false
set_option linter.unusedSimpArgs false
set_option maxHeartbeats 4000000
set_option maxRecDepth 100000
abbrev b3I (w0:World) (X:List Nat) (r:(Rate × Int)):Rd:=fun S w v=>v=.tuple #[V54 r.1,iv r.2]
theorem b3H {w0 S0 num1 den2 r} (u:a8M num1 den2=some r) (hS:Dm S0 w0):Ck Tryz.prog 85 #[iv num1,iv den2] w0 S0 [] b3I r:=by
 refine en 26 func85 rfl hS rfl rfl rfl fun a s d=>?_
 refine sr (wa [iv 0,iv 0] s d zeroValue54 fun b3 a w s d=>?_)
 refine rz0 1 s rfl fun a s=>?_
 refine wp_seq (sn0 1 s rfl fun a s=>?_)
 obtain ⟨rv5,h4,u⟩:=bt u
 refine cV s d (O1 h4 d.bdom) (j3 call61 rfl) rfl fun a w s d=>?_
 refine rn0 2 s rfl fun a s=>?_
 obtain ⟨c19,hc19,u⟩:=bt u
 refine C7 4 (fun a w=>∃ Sv20,Sl 26 [(0,iv num1),(1,iv den2),(4,pt b3),(14,.bool c19)] a∧Wd ⟨w0,S0,[]⟩ Sv20 [.box b3 [iv 0,iv 0] 54] [] w) ?_ ?_
 ·rcases Bool.eq_false_or_eq_true (!rv5) with h18 | h18
  ·have s:=s.bT 10 rfl h18
   have u:=E9 hc19 h18
   refine rn0 4 s rfl fun a s=>?_
   refine wpList_nil ?_
   obtain rfl:=oi u
   exact tn ⟨S0,wj s d [0] []⟩
  have s:=s.bF 10 rfl h18
  have u:=F7 hc19 h18
  refine I6 s (O5 rfl) ⟨_,rfl,rfl⟩ rfl rfl fun a s=>?_
  obtain ⟨rv22,h21,u⟩:=bt u
  refine x9 s (O1 h21 d.bdom) (j3 call61 rfl) ⟨_,rfl,rfl⟩ rfl rfl ?_
  rintro v26 Sv23 w a h24 rfl s
  have d:=d.callB h24
  refine rn0 2 s rfl fun a s=>?_
  refine wpList_nil ?_
  obtain rfl:=oi u
  exact tn ⟨S0,wj s d [0] []⟩
 rintro a w ⟨Sv20,s,d⟩
 refine nl (cd s u rfl (fun u=>?_) fun u=>?_)
 ·refine sr (sv s (D7 (vs:=[]) b4b rfl rfl) rfl fun a s=>?_)
  refine ws [iv 0,iv 0] s d 0 rfl rfl rfl sizeOf54 fun a w s d=>?_
  refine rz0 1 s rfl fun a s=>?_
  obtain rfl:=oi u
  exact wp_ret (j6 (Q8 s rfl (K4 d 0 rfl rfl isAgg54 sizeOf54 rfl) (q9 rfl) (d.ret rfl)))
 refine sk (sn0 2 s rfl fun a s=>?_)
 obtain ⟨rv31,h30,u⟩:=bt u
 refine cV s d (b0b h30 d.bdom) (j3 call103 rfl) rfl fun a w s d=>?_
 refine rz0 1 s rfl fun a s=>?_
 refine wp_seq ?_
 obtain ⟨quo38,h37,u⟩:=bt u
 obtain ⟨quo40,h39,u⟩:=bt u
 refine A9 (fun a w=>∃ Sv41,Sl 26 [(4,pt b3),(5,iv 0)] a∧Wd ⟨w0,S0,[]⟩ Sv41 [.box b3 [iv quo38,iv quo40] 54] [] w) ?_ ?_
 ·refine h_c [] [] d rfl rfl (by kernel_rfl) rfl fun hC d=>?_
  refine gn 2 [0,1] [] s hC rfl rfl rfl fun a s=>?_
  refine gv s 2 rfl rfl hC (fun w hC=>b0W rfl rfl h37) fun a s=>?_
  refine gn 2 [3,4] [] s hC rfl rfl rfl fun a s=>?_
  refine gv s 5 rfl rfl hC (fun w hC=>b0W rfl rfl h39) fun a s=>?_
  refine gv s 6 rfl rfl hC (fun w hC=>D7 (vs:=[(0,iv quo38),(1,iv quo40)]) b4b rfl rfl) fun a s=>?_
  refine ho 7 rfl ?_
  refine ws [iv quo38,iv quo40] s d 0 rfl rfl rfl sizeOf54 fun a w s d=>?_
  refine h_n [] [] d rfl rfl fun hC=>?_
  refine gv s 8 rfl rfl hC (fun w hC=>R8 rfl) fun a s=>?_
  refine y7 (by kernel_rfl) ?_
  exact ⟨Sv20,wj s d [0] []⟩
 rintro a w ⟨Sv41,s,d⟩
 refine tn ?_
 obtain rfl:=oi u
 exact wp_ret (Q8 s rfl (K4 d 0 rfl rfl isAgg54 sizeOf54 rfl) (q9 rfl) (d.ret rfl))
abbrev a8U (w0:World) (X:List Nat) (b2:Nat) (r:(Record × Dice)):(Nat→Prop)→World→Value→Prop:=fun S w v=>∃ p0_11 k0_11 c0_11 pq0_0 kq0_0,v=V56 r.1 p0_11 k0_11∧Outs X w0 S w [.row p0_11 r.1.Samples.length k0_11 c0_11 3 1,.box b2 (C87 r.2 pq0_0 kq0_0) 87]∧(l7 c0_11 r.1.Samples).p S w∧(Sq pq0_0 kq0_0 r.2.L).p S w
abbrev D47t1 (b2:Nat) (b43:Nat) (b8:Nat) (b9:Nat) (n7:Int):E8:=[(0,pt b2),(2,iv n7),(4,pt b8),(6,pt b9),(7,pt b43)]
abbrev D47t2 (b2:Nat) (b50:Nat) (b57:Nat) (b73:Nat) (rv37:(Rate × Int)) (rv45:(Int × Dice)) (rv52:(Int × Dice)) (rv59:(Int × Dice)) (rv64:(Int × Dice)) (rv69:(Int × Dice)) (s6:SourceID):Vs:=[(0,21,V52 s6),(1,22,pt b2),(2,23,iv rv45.1),(3,24,iv (w64 (250000 * rv45.1))),(4,25,iv (w64 (1000000000000+(w64 (250000 * rv45.1))))),(5,26,pt b2),(6,27,sl (ad b50) ([0,0,3]:List Int).length ([0,0,3]:List Int)),(7,28,iv rv52.1),(8,29,V54 rv37.1),(9,30,pt b2),(10,31,sl (ad b57) ([0,0,10,500]:List Int).length ([0,0,10,500]:List Int)),(11,32,iv rv59.1),(12,33,pt b2),(13,34,iv rv64.1),(14,35,pt b2),(15,36,iv rv69.1),(16,37,.agg #[.string s6.Network,.string s6.Station,.string s6.Location,.string s6.Channel,iv (w64 (1000000000000+(w64 (250000 * rv45.1)))),iv rv52.1,iv rv37.1.Num,iv rv37.1.Den,iv rv59.1,iv rv64.1,iv rv69.1,.slice none ([]:List Int).length 0]),(17,9,pt b73)]
abbrev D47t3:List Value:=[iv 0,iv 0,iv 3]
abbrev D47t4:List Int:=([0,0,3]:List Int)
abbrev D47t5:List Value:=Z7
abbrev D47t6:List Int:=([0,0,10,500]:List Int)
abbrev E47_1 (s6:SourceID) (rv45:(Int × Dice)) (rv52:(Int × Dice)) (rv37:(Rate × Int)) (rv59:(Int × Dice)) (rv64:(Int × Dice)) (rv69:(Int × Dice)) (p263:Option Addr) (k264:Nat) (l262:(List Int)):List Value:=[.string s6.Network,.string s6.Station,.string s6.Location,.string s6.Channel,iv (w64 (1000000000000+(w64 (250000 * rv45.1)))),iv rv52.1,iv rv37.1.Num,iv rv37.1.Den,iv rv59.1,iv rv64.1,iv rv69.1,sl p263 k264 l262]
abbrev b4c (s6:SourceID) (rv45:(Int × Dice)) (rv52:(Int × Dice)) (rv37:(Rate × Int)) (rv59:(Int × Dice)) (rv64:(Int × Dice)) (rv69:(Int × Dice)):List Value:=[.string s6.Network,.string s6.Station,.string s6.Location,.string s6.Channel,iv (w64 (1000000000000+(w64 (250000 * rv45.1)))),iv rv52.1,iv rv37.1.Num,iv rv37.1.Den,iv rv59.1,iv rv64.1,iv rv69.1,.slice none ([]:List Int).length 0]
theorem a8T {w0 S0 b2 p3 k4 d1 s6 n7 r} (u:a2T d1 s6 n7=some r) (hS:Dm S0 w0) (hin:Ins S0 w0 [.box b2 (C87 d1 p3 k4) 87]) (h5:(Sq p3 k4 d1.L).p S0 w0):Calls Tryz.prog 47 #[pt b2,V52 s6,iv n7] w0 (Ret (I8 [.box b2 (C87 d1 p3 k4) 87]) w0 S0 (a8U w0 (I8 [.box b2 (C87 d1 p3 k4) 87]) b2 r)):=by
 refine enI 54 func47 rfl hS hin rfl rfl rfl fun a s d=>?_
 have d:=d.addE h5
 refine sr (wb (C52 s6) s d rfl fun b8 a w s d=>?_)
 refine wa Z0 s d zeroValue56 fun b9 a w s d=>?_
 refine nl (sn0 1 s rfl fun a s=>?_)
 refine o7 (α:=Int) (vs:=Z8) (cs:=Z8) (xs:=([1,2,2,3]:List Int)) s d S9 rfl rfl rfl rfl rfl rfl ⟨⟨_,rfl,rfl⟩,⟨⟨_,rfl,rfl⟩,⟨⟨_,rfl,rfl⟩,⟨⟨_,rfl,rfl⟩,rfl⟩⟩⟩⟩ rfl trivial rfl fun b11 a w s d=>?_
 obtain ⟨rv13,h12,u⟩:=bt u
 obtain ⟨Sv17,d⟩:=D6 (α:=Int) d 0 rfl 0 rfl
 refine cR s (D8 h12 d.dom (d.ins [2] (by decide) rfl) (d.envAt 2 rfl) (d.envAt 0 rfl)) (j3 call24 rfl) rfl ?_
 rintro v21 Sv18 w a h19 ⟨p14,k15,rfl,h22,h16⟩ s
 have d:=(d.callO [2] [0,1] (by decide) rfl h19 h22).addE (e:=Sq p14 k15 rv13.2.L) h16
 refine mv s rfl rfl fun a s=>?_
 refine o7 (α:=Int) (vs:=Z9) (cs:=Z9) (xs:=([1,1,1,3]:List Int)) s d S9 rfl rfl rfl rfl rfl rfl ⟨⟨_,rfl,rfl⟩,⟨⟨_,rfl,rfl⟩,⟨⟨_,rfl,rfl⟩,⟨⟨_,rfl,rfl⟩,rfl⟩⟩⟩⟩ rfl trivial rfl fun b24 a w s d=>?_
 obtain ⟨rv26,h25,u⟩:=bt u
 obtain ⟨Sv30,d⟩:=D6 (α:=Int) d 0 rfl 0 rfl
 refine cR s (D8 h25 d.dom (d.ins [0] (by decide) rfl) (d.envAt 2 rfl) (d.envAt 0 rfl)) (j3 call24 rfl) rfl ?_
 rintro v34 Sv31 w a h32 ⟨p27,k28,rfl,h35,h29⟩ s
 have d:=(d.callO [0] [1,2] (by decide) rfl h32 h35).addE (e:=Sq p27 k28 rv26.2.L) h29
 obtain ⟨rv37,h36,u⟩:=bt u
 refine cV s d (b3H h36 d.bdom) (j3 call85 rfl) rfl fun a w s d=>?_
 refine rn0 3 s rfl fun a s=>?_
 refine wa [iv 0,iv 0] s d zeroValue54 fun b43 a w s d=>?_
 refine ws (C54 rv37.1) s d 0 rfl rfl rfl sizeOf54 fun a w s d=>?_
 refine rz0 1 s rfl fun a s=>?_
 refine wp_seq ?_
 obtain ⟨rv45,h44,u⟩:=bt u
 obtain ⟨rv52,h51,u⟩:=bt u
 obtain ⟨rv59,h58,u⟩:=bt u
 obtain ⟨rv64,h63,u⟩:=bt u
 obtain ⟨rv69,h68,u⟩:=bt u
 refine A9 (fun a w=>∃ Sv74 b73 k71 p70,Sl 54 [(0,pt b2),(2,iv n7),(6,pt b9),(9,pt b73)] a∧Wd ⟨w0,S0,I8 [.box b2 (C87 d1 p3 k4) 87]⟩ Sv74 [.box b2 (C87 rv69.2 p70 k71) 87,.box b9 Z0 56,.box b73 (b4c s6 rv45 rv52 rv37 rv59 rv64 rv69) 56] [Sq p70 k71 rv69.2.L,Sq none 0 ([]:List Int)] w) ?_ ?_
 ·refine a6U (n:=19) (Φ:=fun l a w=>∃ b50 b57 b73 k47 k54 k61 k66 k71 p46 p53 p60 p65 p70 S,SlF 54 (D47t1 b2 b43 b8 b9 n7) (D47t2 b2 b50 b57 b73 rv37 rv45 rv52 rv59 rv64 rv69 s6) l a∧Wd ⟨w0,S0,I8 [.box b2 (C87 d1 p3 k4) 87]⟩ S [.box b43 (C54 rv37.1) 54,((bif l 15 then .box b2 (C87 rv69.2 p70 k71) 87 else (bif l 13 then .box b2 (C87 rv64.2 p65 k66) 87 else (bif l 11 then .box b2 (C87 rv59.2 p60 k61) 87 else (bif l 7 then .box b2 (C87 rv52.2 p53 k54) 87 else (bif l 2 then .box b2 (C87 rv45.2 p46 k47) 87 else .box b2 (C87 rv26.2 p27 k28) 87))))):Res),.box b9 Z0 56,.box b8 (C52 s6) 52,((bif l 7 then emp else (bif l 6 then .row (ad b50) ([0,0,3]:List Int).length ([0,0,3]:List Int).length [iv 0,iv 0,iv 3] 3 1 else emp)):Res),((bif l 11 then emp else (bif l 10 then .row (ad b57) ([0,0,10,500]:List Int).length ([0,0,10,500]:List Int).length Z7 3 1 else emp)):Res),((bif l 18 then .box b73 (b4c s6 rv45 rv52 rv37 rv59 rv64 rv69) 56 else (bif l 17 then .box b73 Z0 56 else emp)):Res)] [Sq p27 k28 rv26.2.L,Sq (ad b24) ([1,1,1,3]:List Int).length ([1,1,1,3]:List Int),l7 Z9 ([1,1,1,3]:List Int),Sq p14 k15 rv13.2.L,Sq (ad b11) ([1,2,2,3]:List Int).length ([1,2,2,3]:List Int),l7 Z8 ([1,2,2,3]:List Int),Sq p3 k4 d1.L,a5u (l 2) (Sq p46 k47 rv45.2.L),a5u (l 6) (l7 [iv 0,iv 0,iv 3] ([0,0,3]:List Int)),a5u (l 7) (Sq (ad b50) ([0,0,3]:List Int).length ([0,0,3]:List Int)),a5u (l 7) (Sq p53 k54 rv52.2.L),a5u (l 10) (l7 Z7 ([0,0,10,500]:List Int)),a5u (l 11) (Sq (ad b57) ([0,0,10,500]:List Int).length ([0,0,10,500]:List Int)),a5u (l 11) (Sq p60 k61 rv59.2.L),a5u (l 13) (Sq p65 k66 rv64.2.L),a5u (l 15) (Sq p70 k71 rv69.2.L)] w) [1,1,2,3,4,1,1,3,1,1,1,4,1,5,1,6,7,1,8] (by kernel_rfl) rfl (by kernel_rfl) ?_ (O6.succ (O6.succ (O6.succ (O6.succ (O6.succ (O6.succ (O6.succ (O6.succ (O6.succ (O6.succ (O6.succ (O6.succ (O6.succ (O6.succ (O6.succ (O6.succ (O6.succ (O6.succ (O6.succ O6.zero ?_) ?_) ?_) ?_) ?_) ?_) ?_) ?_) ?_) ?_) ?_) ?_) ?_) ?_) ?_) ?_) ?_) ?_) ?_) ?_
  ·obtain ⟨b50,b57,b73,k47,k54,k61,k66,k71,p46,p53,p60,p65,p70,_⟩:∃ (b50:Nat) (b57:Nat) (b73:Nat) (k47:Nat) (k54:Nat) (k61:Nat) (k66:Nat) (k71:Nat) (p46:Option Addr) (p53:Option Addr) (p60:Option Addr) (p65:Option Addr) (p70:Option Addr),True:=⟨0,0,0,0,0,0,0,0,none,none,none,none,none,trivial⟩
   have d:=((d.drew).emp).emp
   have d:=((d.emp).noE (Sq p70 k71 rv69.2.L)).noE (Sq p65 k66 rv64.2.L)
   have d:=((d.noE (Sq p60 k61 rv59.2.L)).noE (Sq (ad b57) ([0,0,10,500]:List Int).length ([0,0,10,500]:List Int))).noE (l7 Z7 ([0,0,10,500]:List Int))
   have d:=((d.noE (Sq p53 k54 rv52.2.L)).noE (Sq (ad b50) ([0,0,3]:List Int).length ([0,0,3]:List Int))).noE (l7 [iv 0,iv 0,iv 3] ([0,0,3]:List Int))
   have d:=d.noE (Sq p46 k47 rv45.2.L)
   exact ⟨b50,b57,b73,k47,k54,k61,k66,k71,p46,p53,p60,p65,p70,Sv31,SlF.init (s.wk rfl) (by kernel_rfl),d.gt [3,4,5,6,0,1,2] [9,10,11,12,13,14,15,0,1,2,3,4,5,6,7,8] rfl rfl⟩
  ·intro l hi hp hc a w ⟨b50,b57,b73,k47,k54,k61,k66,k71,p46,p53,p60,p65,p70,S,hS,d⟩
   refine T9 hS (.b (t:=4) rfl .nil) rfl rfl trivial (a6k (d.ownAt 3 rfl) rfl isAgg52 sizeOf52 rfl rfl) (rfl) 0 rfl fun a hS=>⟨b50,b57,b73,k47,k54,k61,k66,k71,p46,p53,p60,p65,p70,S,hS,d⟩
  ·intro l hi hp hc a w ⟨b50,b57,b73,k47,k54,k61,k66,k71,p46,p53,p60,p65,p70,S,hS,d⟩
   refine T9 hS (.b (t:=0) rfl .nil) rfl rfl trivial (O5 rfl) (rfl) 1 rfl fun a hS=>⟨b50,b57,b73,k47,k54,k61,k66,k71,p46,p53,p60,p65,p70,S,hS,d⟩
  ·intro l hi hp hc a w ⟨b50,b57,b73,k47,k54,k61,k66,k71,p46,p53,p60,p65,p70,S,hS,d⟩
   have h_7:=N7 hc 7 hi rfl
   have h_11:=N7 hc 11 h_7 rfl
   have h_13:=N7 hc 13 h_11 rfl
   have h_15:=N7 hc 15 h_13 rfl
   have d:=d.fixR 1 (r':=.box b2 (C87 rv26.2 p27 k28) 87) rfl ((bF h_15).trans ((bF h_13).trans ((bF h_11).trans ((bF h_7).trans ((bF hi))))))
   have h_1:=hp 1 rfl
   refine a3m rfl ?_
   have s:=hS.open_ (.v (t:=22) 1 rfl h_1 .nil)
   refine cR s (y5 h44 d.dom (d.ins [1] (by decide) rfl) (d.envAt 0 rfl)) (j3 call30 rfl) rfl ?_
   rintro v110 Sv107 w a h108 ⟨p46,k47,rfl,h111,h48⟩ s
   have d:=((d.callO [1] [0,2,3,4,5,6] (by decide) rfl h108 h111).addE (e:=Sq p46 k47 rv45.2.L) h48).fixR 0 (r':=(bif l 15 then .box b2 (C87 rv69.2 p70 k71) 87 else (bif l 13 then .box b2 (C87 rv64.2 p65 k66) 87 else (bif l 11 then .box b2 (C87 rv59.2 p60 k61) 87 else (bif l 7 then .box b2 (C87 rv52.2 p53 k54) 87 else .box b2 (C87 rv45.2 p46 k47) 87))))) rfl ((bF h_15).trans ((bF h_13).trans ((bF h_11).trans ((bF h_7))))).symm
   have d:=d.opt 0 rfl true
   exact nl ⟨b50,b57,b73,k47,k54,k61,k66,k71,p46,p53,p60,p65,p70,Sv107,hS.close (.v (t:=22) 1 rfl h_1 .nil) s rfl (.same (.same (.here (.same (.same (.same (.same (.same (.same (.same (.same (.same (.same (.same (.same (.same (.same (.same .nil)))))))))))))))))) 2 rfl,d.gt [1,0,2,3,4,5,6] [2,3,4,5,6,7,8,0,10,11,12,13,14,15,16,17] rfl rfl⟩
  ·intro l hi hp hc a w ⟨b50,b57,b73,k47,k54,k61,k66,k71,p46,p53,p60,p65,p70,S,hS,d⟩
   have h_2:=hp 2 rfl
   refine T9 hS (.v (t:=23) 2 rfl h_2 .nil) rfl rfl trivial (y_mul rfl rfl) (rfl) 3 rfl fun a hS=>⟨b50,b57,b73,k47,k54,k61,k66,k71,p46,p53,p60,p65,p70,S,hS,d⟩
  ·intro l hi hp hc a w ⟨b50,b57,b73,k47,k54,k61,k66,k71,p46,p53,p60,p65,p70,S,hS,d⟩
   have h_3:=hp 3 rfl
   refine T9 hS (.v (t:=24) 3 rfl h_3 .nil) rfl rfl trivial (a9j rfl rfl) (rfl) 4 rfl fun a hS=>⟨b50,b57,b73,k47,k54,k61,k66,k71,p46,p53,p60,p65,p70,S,hS,d⟩
  ·intro l hi hp hc a w ⟨b50,b57,b73,k47,k54,k61,k66,k71,p46,p53,p60,p65,p70,S,hS,d⟩
   refine T9 hS (.b (t:=0) rfl .nil) rfl rfl trivial (O5 rfl) (rfl) 5 rfl fun a hS=>⟨b50,b57,b73,k47,k54,k61,k66,k71,p46,p53,p60,p65,p70,S,hS,d⟩
  ·intro l hi hp hc a w ⟨b50,b57,b73,k47,k54,k61,k66,k71,p46,p53,p60,p65,p70,S,hS,d⟩
   refine a3m rfl ?_
   have s:=hS.open_ .nil
   refine o7 (α:=Int) (vs:=D47t3) (cs:=D47t3) (xs:=D47t4) s d S9 rfl rfl rfl rfl rfl rfl ⟨⟨_,rfl,rfl⟩,⟨⟨_,rfl,rfl⟩,⟨⟨_,rfl,rfl⟩,rfl⟩⟩⟩ rfl trivial rfl fun b50 a w s d=>?_
   have h_7:=N7 hc 7 hi rfl
   have d:=((d.fixR 0 (r':=(bif l 7 then emp else .row (ad b50) ([0,0,3]:List Int).length ([0,0,3]:List Int).length [iv 0,iv 0,iv 3] 3 1)) rfl ((bF h_7)).symm).opt 0 rfl true).noL h_7 (Sq (ad b50) ([0,0,3]:List Int).length ([0,0,3]:List Int))
   exact nl ⟨b50,b57,b73,k47,k54,k61,k66,k71,p46,p53,p60,p65,p70,S,hS.close .nil s rfl (.same (.same (.same (.same (.same (.same (.here (.same (.same (.same (.same (.same (.same (.same (.same (.same (.same (.same .nil)))))))))))))))))) 6 rfl,d.gt [1,2,3,4,0,6,7] [3,4,5,6,7,8,9,10,1,0,13,14,15,16,17,18] rfl rfl⟩
  ·intro l hi hp hc a w ⟨b50,b57,b73,k47,k54,k61,k66,k71,p46,p53,p60,p65,p70,S,hS,d⟩
   have h_11:=N7 hc 11 hi rfl
   have h_13:=N7 hc 13 h_11 rfl
   have h_15:=N7 hc 15 h_13 rfl
   have h_2:=hp 2 rfl
   have d:=d.fixR 1 (r':=.box b2 (C87 rv45.2 p46 k47) 87) rfl ((bF h_15).trans ((bF h_13).trans ((bF h_11).trans ((bF hi).trans ((bT h_2))))))
   have h_6:=hp 6 rfl
   have d:=((d.fixR 4 (r':=.row (ad b50) ([0,0,3]:List Int).length ([0,0,3]:List Int).length [iv 0,iv 0,iv 3] 3 1) rfl ((bF hi).trans ((bT h_6)))).yes 7 rfl h_2).yes 9 rfl h_6
   have h_5:=hp 5 rfl
   refine a3m rfl ?_
   have s:=hS.open_ (.v (t:=26) 5 rfl h_5 (.v (t:=27) 6 rfl h_6 .nil))
   obtain ⟨Sv118,d⟩:=D6 (α:=Int) d 4 rfl 0 rfl
   refine cR s (D8 h51 d.dom (d.ins [1] (by decide) rfl) (d.envAt 2 rfl) (d.envAt 0 rfl)) (j3 call24 rfl) rfl ?_
   rintro v122 Sv119 w a h120 ⟨p53,k54,rfl,h123,h55⟩ s
   have d:=((d.callO [1] [0,2,3,4,5] (by decide) rfl h120 h123).addE (e:=Sq p53 k54 rv52.2.L) h55).fixR 0 (r':=(bif l 15 then .box b2 (C87 rv69.2 p70 k71) 87 else (bif l 13 then .box b2 (C87 rv64.2 p65 k66) 87 else (bif l 11 then .box b2 (C87 rv59.2 p60 k61) 87 else .box b2 (C87 rv52.2 p53 k54) 87)))) rfl ((bF h_15).trans ((bF h_13).trans ((bF h_11)))).symm
   have d:=((d.emp).opt 1 rfl true).opt 1 rfl true
   exact nl ⟨b50,b57,b73,k47,k54,k61,k66,k71,p46,p53,p60,p65,p70,Sv119,hS.close (.v (t:=26) 5 rfl h_5 (.v (t:=27) 6 rfl h_6 .nil)) s rfl (.same (.same (.same (.same (.same (.same (.same (.here (.same (.same (.same (.same (.same (.same (.same (.same (.same (.same .nil)))))))))))))))))) 7 rfl,d.gt [2,1,3,4,0,5,6] [6,7,8,9,10,11,12,13,14,1,0,17,18,19,20,21] rfl rfl⟩
  ·intro l hi hp hc a w ⟨b50,b57,b73,k47,k54,k61,k66,k71,p46,p53,p60,p65,p70,S,hS,d⟩
   refine T9 hS (.b (t:=7) rfl .nil) rfl rfl trivial (a6k (d.ownAt 0 rfl) rfl isAgg54 sizeOf54 rfl rfl) (rfl) 8 rfl fun a hS=>⟨b50,b57,b73,k47,k54,k61,k66,k71,p46,p53,p60,p65,p70,S,hS,d⟩
  ·intro l hi hp hc a w ⟨b50,b57,b73,k47,k54,k61,k66,k71,p46,p53,p60,p65,p70,S,hS,d⟩
   refine T9 hS (.b (t:=0) rfl .nil) rfl rfl trivial (O5 rfl) (rfl) 9 rfl fun a hS=>⟨b50,b57,b73,k47,k54,k61,k66,k71,p46,p53,p60,p65,p70,S,hS,d⟩
  ·intro l hi hp hc a w ⟨b50,b57,b73,k47,k54,k61,k66,k71,p46,p53,p60,p65,p70,S,hS,d⟩
   refine a3m rfl ?_
   have s:=hS.open_ .nil
   refine o7 (α:=Int) (vs:=D47t5) (cs:=D47t5) (xs:=D47t6) s d S9 rfl rfl rfl rfl rfl rfl ⟨⟨_,rfl,rfl⟩,⟨⟨_,rfl,rfl⟩,⟨⟨_,rfl,rfl⟩,⟨⟨_,rfl,rfl⟩,rfl⟩⟩⟩⟩ rfl trivial rfl fun b57 a w s d=>?_
   have h_11:=N7 hc 11 hi rfl
   have d:=((d.fixR 0 (r':=(bif l 11 then emp else .row (ad b57) ([0,0,10,500]:List Int).length ([0,0,10,500]:List Int).length Z7 3 1)) rfl ((bF h_11)).symm).opt 0 rfl true).noL h_11 (Sq (ad b57) ([0,0,10,500]:List Int).length ([0,0,10,500]:List Int))
   exact nl ⟨b50,b57,b73,k47,k54,k61,k66,k71,p46,p53,p60,p65,p70,S,hS.close .nil s rfl (.same (.same (.same (.same (.same (.same (.same (.same (.same (.same (.here (.same (.same (.same (.same (.same (.same (.same .nil)))))))))))))))))) 10 rfl,d.gt [1,2,3,4,5,0,7] [3,4,5,6,7,8,9,10,11,12,13,1,0,16,17,18] rfl rfl⟩
  ·intro l hi hp hc a w ⟨b50,b57,b73,k47,k54,k61,k66,k71,p46,p53,p60,p65,p70,S,hS,d⟩
   have h_13:=N7 hc 13 hi rfl
   have h_15:=N7 hc 15 h_13 rfl
   have h_7:=hp 7 rfl
   have d:=d.fixR 1 (r':=.box b2 (C87 rv52.2 p53 k54) 87) rfl ((bF h_15).trans ((bF h_13).trans ((bF hi).trans ((bT h_7)))))
   have h_10:=hp 10 rfl
   have d:=((d.fixR 5 (r':=.row (ad b57) ([0,0,10,500]:List Int).length ([0,0,10,500]:List Int).length Z7 3 1) rfl ((bF hi).trans ((bT h_10)))).yes 10 rfl h_7).yes 12 rfl h_10
   have h_9:=hp 9 rfl
   refine a3m rfl ?_
   have s:=hS.open_ (.v (t:=30) 9 rfl h_9 (.v (t:=31) 10 rfl h_10 .nil))
   obtain ⟨Sv130,d⟩:=D6 (α:=Int) d 5 rfl 0 rfl
   refine cR s (D8 h58 d.dom (d.ins [1] (by decide) rfl) (d.envAt 2 rfl) (d.envAt 0 rfl)) (j3 call24 rfl) rfl ?_
   rintro v134 Sv131 w a h132 ⟨p60,k61,rfl,h135,h62⟩ s
   have d:=((d.callO [1] [0,2,3,4,5] (by decide) rfl h132 h135).addE (e:=Sq p60 k61 rv59.2.L) h62).fixR 0 (r':=(bif l 15 then .box b2 (C87 rv69.2 p70 k71) 87 else (bif l 13 then .box b2 (C87 rv64.2 p65 k66) 87 else .box b2 (C87 rv59.2 p60 k61) 87))) rfl ((bF h_15).trans ((bF h_13))).symm
   have d:=((d.emp).opt 1 rfl true).opt 1 rfl true
   exact nl ⟨b50,b57,b73,k47,k54,k61,k66,k71,p46,p53,p60,p65,p70,Sv131,hS.close (.v (t:=30) 9 rfl h_9 (.v (t:=31) 10 rfl h_10 .nil)) s rfl (.same (.same (.same (.same (.same (.same (.same (.same (.same (.same (.same (.here (.same (.same (.same (.same (.same (.same .nil)))))))))))))))))) 11 rfl,d.gt [2,1,3,4,5,0,6] [6,7,8,9,10,11,12,13,14,15,16,17,1,0,20,21] rfl rfl⟩
  ·intro l hi hp hc a w ⟨b50,b57,b73,k47,k54,k61,k66,k71,p46,p53,p60,p65,p70,S,hS,d⟩
   refine T9 hS (.b (t:=0) rfl .nil) rfl rfl trivial (O5 rfl) (rfl) 12 rfl fun a hS=>⟨b50,b57,b73,k47,k54,k61,k66,k71,p46,p53,p60,p65,p70,S,hS,d⟩
  ·intro l hi hp hc a w ⟨b50,b57,b73,k47,k54,k61,k66,k71,p46,p53,p60,p65,p70,S,hS,d⟩
   have h_15:=N7 hc 15 hi rfl
   have h_11:=hp 11 rfl
   have d:=(d.fixR 1 (r':=.box b2 (C87 rv59.2 p60 k61) 87) rfl ((bF h_15).trans ((bF hi).trans ((bT h_11))))).yes 13 rfl h_11
   have h_12:=hp 12 rfl
   refine a3m rfl ?_
   have s:=hS.open_ (.v (t:=33) 12 rfl h_12 .nil)
   refine cR s (y5 h63 d.dom (d.ins [1] (by decide) rfl) (d.envAt 0 rfl)) (j3 call30 rfl) rfl ?_
   rintro v144 Sv141 w a h142 ⟨p65,k66,rfl,h145,h67⟩ s
   have d:=((d.callO [1] [0,2,3,4,5,6] (by decide) rfl h142 h145).addE (e:=Sq p65 k66 rv64.2.L) h67).fixR 0 (r':=(bif l 15 then .box b2 (C87 rv69.2 p70 k71) 87 else .box b2 (C87 rv64.2 p65 k66) 87)) rfl ((bF h_15)).symm
   have d:=d.opt 0 rfl true
   exact nl ⟨b50,b57,b73,k47,k54,k61,k66,k71,p46,p53,p60,p65,p70,Sv141,hS.close (.v (t:=33) 12 rfl h_12 .nil) s rfl (.same (.same (.same (.same (.same (.same (.same (.same (.same (.same (.same (.same (.same (.here (.same (.same (.same (.same .nil)))))))))))))))))) 13 rfl,d.gt [1,0,2,3,4,5,6] [3,4,5,6,7,8,9,10,11,12,13,14,15,16,0,18] rfl rfl⟩
  ·intro l hi hp hc a w ⟨b50,b57,b73,k47,k54,k61,k66,k71,p46,p53,p60,p65,p70,S,hS,d⟩
   refine T9 hS (.b (t:=0) rfl .nil) rfl rfl trivial (O5 rfl) (rfl) 14 rfl fun a hS=>⟨b50,b57,b73,k47,k54,k61,k66,k71,p46,p53,p60,p65,p70,S,hS,d⟩
  ·intro l hi hp hc a w ⟨b50,b57,b73,k47,k54,k61,k66,k71,p46,p53,p60,p65,p70,S,hS,d⟩
   have h_13:=hp 13 rfl
   have d:=(d.fixR 1 (r':=.box b2 (C87 rv64.2 p65 k66) 87) rfl ((bF hi).trans ((bT h_13)))).yes 14 rfl h_13
   have h_14:=hp 14 rfl
   refine a3m rfl ?_
   have s:=hS.open_ (.v (t:=35) 14 rfl h_14 .nil)
   refine cR s (y5 h68 d.dom (d.ins [1] (by decide) rfl) (d.envAt 0 rfl)) (j3 call30 rfl) rfl ?_
   rintro v154 Sv151 w a h152 ⟨p70,k71,rfl,h155,h72⟩ s
   have d:=((d.callO [1] [0,2,3,4,5,6] (by decide) rfl h152 h155).addE (e:=Sq p70 k71 rv69.2.L) h72).opt 0 rfl true
   exact nl ⟨b50,b57,b73,k47,k54,k61,k66,k71,p46,p53,p60,p65,p70,Sv151,hS.close (.v (t:=35) 14 rfl h_14 .nil) s rfl (.same (.same (.same (.same (.same (.same (.same (.same (.same (.same (.same (.same (.same (.same (.same (.here (.same (.same .nil)))))))))))))))))) 15 rfl,d.gt [1,0,2,3,4,5,6] [3,4,5,6,7,8,9,10,11,12,13,14,15,16,17,0] rfl rfl⟩
  ·intro l hi hp hc a w ⟨b50,b57,b73,k47,k54,k61,k66,k71,p46,p53,p60,p65,p70,S,hS,d⟩
   have h_15:=hp 15 rfl
   have h_13:=hp 13 rfl
   have h_11:=hp 11 rfl
   have h_8:=hp 8 rfl
   have h_7:=hp 7 rfl
   have h_4:=hp 4 rfl
   have h_0:=hp 0 rfl
   refine T9 hS (.v (t:=21) 0 rfl h_0 (.v (t:=25) 4 rfl h_4 (.v (t:=28) 7 rfl h_7 (.v (t:=29) 8 rfl h_8 (.v (t:=32) 11 rfl h_11 (.v (t:=34) 13 rfl h_13 (.v (t:=36) 15 rfl h_15 .nil))))))) rfl rfl trivial (D7 (vs:=[(0,V52 s6),(1,iv (w64 (1000000000000+(w64 (250000 * rv45.1))))),(2,iv rv52.1),(3,V54 rv37.1),(4,iv rv59.1),(5,iv rv64.1),(6,iv rv69.1)]) a6s rfl rfl) (rfl) 16 rfl fun a hS=>⟨b50,b57,b73,k47,k54,k61,k66,k71,p46,p53,p60,p65,p70,S,hS,d⟩
  ·intro l hi hp hc a w ⟨b50,b57,b73,k47,k54,k61,k66,k71,p46,p53,p60,p65,p70,S,hS,d⟩
   refine a3m rfl ?_
   have s:=hS.open_ .nil
   refine wa Z0 s d zeroValue56 fun b73 a w s d=>?_
   have h_18:=N7 hc 18 hi rfl
   have d:=d.fixR 0 (r':=(bif l 18 then .box b73 (b4c s6 rv45 rv52 rv37 rv59 rv64 rv69) 56 else .box b73 Z0 56)) rfl ((bF h_18)).symm
   exact nl ⟨b50,b57,b73,k47,k54,k61,k66,k71,p46,p53,p60,p65,p70,S,hS.close .nil s rfl (.same (.same (.same (.same (.same (.same (.same (.same (.same (.same (.same (.same (.same (.same (.same (.same (.same (.here .nil)))))))))))))))))) 17 rfl,d.gt [1,2,3,4,5,6,0] [0,1,2,3,4,5,6,7,8,9,10,11,12,13,14,15] rfl rfl⟩
  ·intro l hi hp hc a w ⟨b50,b57,b73,k47,k54,k61,k66,k71,p46,p53,p60,p65,p70,S,hS,d⟩
   have h_17:=hp 17 rfl
   have d:=d.fixR 6 (r':=.box b73 Z0 56) rfl ((bF hi).trans ((bT h_17)))
   have h_16:=hp 16 rfl
   refine a3m rfl ?_
   have s:=hS.open_ (.v (t:=9) 17 rfl h_17 (.v (t:=37) 16 rfl h_16 .nil))
   refine ws (b4c s6 rv45 rv52 rv37 rv59 rv64 rv69) s d 6 rfl rfl rfl sizeOf56 fun a w s d=>?_
   exact nl ⟨b50,b57,b73,k47,k54,k61,k66,k71,p46,p53,p60,p65,p70,S,hS.close0 (.v (t:=9) 17 rfl h_17 (.v (t:=37) 16 rfl h_16 .nil)) s rfl,d.gt [0,1,2,3,4,5,6] [0,1,2,3,4,5,6,7,8,9,10,11,12,13,14,15] rfl rfl⟩
  intro l a w hl ⟨b50,b57,b73,k47,k54,k61,k66,k71,p46,p53,p60,p65,p70,S,hS,d⟩
  have d:=((d.yes 15 rfl (hl 15 (by decide))).fixR 1 (r':=.box b2 (C87 rv69.2 p70 k71) 87) rfl (bT (hl 15 (by decide)))).fixR 6 (r':=.box b73 (b4c s6 rv45 rv52 rv37 rv59 rv64 rv69) 56) rfl (bT (hl 18 (by decide)))
  have s:=hS.on (.b (t:=0) rfl (.b (t:=2) rfl (.b (t:=6) rfl (.v (t:=9) 17 rfl (hl 17 (by decide)) .nil))))
  have d:=d.addE (e:=SlA (α:=Int) none 0 0 []) a2i
  exact ⟨S,b73,k71,p70,wj s d [1,2,6] [1,0]⟩
 rintro a w ⟨Sv74,b73,k71,p70,s,d⟩
 refine tn (wp_seq (sn0 2 s rfl fun a s=>?_))
 obtain ⟨rv157,h156,u⟩:=bt u
 refine cR s (y5 h156 d.dom (d.ins [0] (by decide) rfl) (d.envAt 0 rfl)) (j3 call30 rfl) rfl ?_
 rintro v164 Sv161 w a h162 ⟨p158,k159,rfl,h165,h160⟩ s
 have d:=(d.callO [0] [1,2] (by decide) rfl h162 h165).addE (e:=Sq p158 k159 rv157.2.L) h160
 refine sv s (a9j rfl rfl) rfl fun a s=>?_
 obtain ⟨i167,h166,u⟩:=bt u
 refine sv s (o8 rfl h166) rfl fun a s=>?_
 refine nl ?_
 obtain ⟨e232,h295,u⟩:=bt u
 refine q8 (fun a w=>∃ p233 k234 c235 p236 k237 Sv238,Sl 54 [(6,pt b9),(9,pt b73)] a∧Wd ⟨w0,S0,I8 [.box b2 (C87 d1 p3 k4) 87]⟩ Sv238 [.box b2 [sl p233 k234 e232.1,iv e232.2.1] 87,.box b9 Z0 56,.box b73 [.string s6.Network,.string s6.Station,.string s6.Location,.string s6.Channel,iv (w64 (1000000000000+(w64 (250000 * rv45.1)))),iv rv52.1,iv rv37.1.Num,iv rv37.1.Den,iv rv59.1,iv rv64.1,iv rv69.1,sl p236 k237 e232.2.2] 56,.row p236 e232.2.2.length k237 c235 3 1] [Sq p233 k234 e232.1,Sq none 0 ([]:List Int),l7 c235 e232.2.2] w) ?_ ?_
 ·refine wp_block ?_
  have d:=d.nilRow Int 3
  refine u7 (fun sv168 a w=>∃ p207 k208 c209 p210 k211 Sv212,Sl 54 [(0,pt b2),(6,pt b9),(9,pt b73),(10,iv sv168.2.2.2)] a∧Wd ⟨w0,S0,I8 [.box b2 (C87 d1 p3 k4) 87]⟩ Sv212 [.box b2 [sl p207 k208 sv168.1,iv sv168.2.1] 87,.box b9 Z0 56,.box b73 [.string s6.Network,.string s6.Station,.string s6.Location,.string s6.Channel,iv (w64 (1000000000000+(w64 (250000 * rv45.1)))),iv rv52.1,iv rv37.1.Num,iv rv37.1.Den,iv rv59.1,iv rv64.1,iv rv69.1,sl p210 k211 sv168.2.2.1] 56,.row p210 sv168.2.2.1.length k211 c209 3 1] [Sq p207 k208 sv168.1,Sq none 0 ([]:List Int),l7 c209 sv168.2.2.1] w) (rv157.2.L,rv157.2.At,([]:List Int),i167) h295 ⟨p158,k159,[],none,0,Sv161,wj s d [1,2,3,0] [1,3,0]⟩ ?_
  clear h295
  repeat clear u
  rintro sv168 a w tv230 ⟨p207,k208,c209,p210,k211,Sv212,s,d⟩ u hd229
  refine wp_seq (sz0 2 s rfl fun a s=>?_)
  refine cd s u rfl (fun u=>?_) fun u=>?_
  ·refine sk (wp_seq (wp_block ?_))
   obtain ⟨rv255,h254,u⟩:=bt u
   obtain ⟨l262,h261,u⟩:=bt u
   refine A9 (fun a w=>∃ Sv266 c265 k257 k264 p256 p263,Sl 54 [(0,pt b2),(6,pt b9),(9,pt b73),(10,iv sv168.2.2.2)] a∧Wd ⟨w0,S0,I8 [.box b2 (C87 d1 p3 k4) 87]⟩ Sv266 [.box b2 (C87 rv255.2 p256 k257) 87,.box b9 Z0 56,.box b73 (E47_1 s6 rv45 rv52 rv37 rv59 rv64 rv69 p263 k264 l262) 56,.row p263 l262.length k264 c265 3 1] [Sq p256 k257 rv255.2.L,Sq none 0 ([]:List Int),l7 c265 l262] w) ?_ ?_
   ·refine h_c [1] [] d rfl rfl (by kernel_rfl) rfl fun hC d=>?_
    refine gn 2 [0,2] [] s hC rfl rfl rfl fun a s=>?_
    refine b2T (rs:=[1,3]) (by kernel_rfl) rfl ?_
    refine a5O.cons rfl ?_ ?_
    ·refine sv s (I9 (d.ownAt 2 rfl) rfl isAgg22 rfl) rfl fun a s=>?_
     refine h_n [1] [] d rfl rfl fun hC=>?_
     refine ho 3 rfl ?_
     refine cR s (y5 h254 d.dom (d.ins [0] (by decide) rfl) (d.envAt 0 rfl)) (j3 call30 rfl) rfl ?_
     rintro v270 Sv267 w a h268 ⟨p256,k257,rfl,h271,h258⟩ s
     have d:=(d.callO [0] [1,2,3] (by decide) rfl h268 h271).addE (e:=Sq p256 k257 rv255.2.L) h258
     refine h_n [1] [] d rfl rfl fun hC=>?_
     refine ho 4 rfl ?_
     refine o7 (α:=Int) (vs:=[iv rv255.1]) (cs:=[iv rv255.1]) (xs:=([rv255.1]:List Int)) s d S9 rfl rfl rfl rfl rfl rfl ⟨⟨_,rfl,rfl⟩,rfl⟩ rfl trivial rfl fun b260 a w s d=>?_
     refine h_n [2] [] d rfl rfl fun hC=>?_
     refine h_d [2,0] [] [0] [] d rfl rfl rfl rfl fun hC=>?_
     refine ho 5 rfl ?_
     refine F4 (α:=Int) s d S9 4 rfl rfl rfl 4 rfl 0 rfl 0 rfl h261 rfl trivial ?_
     intro p263 k264 c265 a w s d
     refine h_n [2,0] [] d rfl rfl fun hC=>?_
     refine gv s 6 rfl rfl hC (fun w hC=>l5 (o':=11) runUnderlying56 rfl sizeOf22 rfl rfl rfl) fun a s=>?_
     refine ho 7 rfl ?_
     refine ws (E47_1 s6 rv45 rv52 rv37 rv59 rv64 rv69 p263 k264 l262) s d 3 rfl rfl rfl sizeOf22 fun a w s d=>?_
     refine h_n [2,0] [] d rfl rfl fun hC=>?_
     refine y7 (by kernel_rfl) ?_
     exact ⟨Sv267,c265,k257,k264,p256,p263,wj s d [1,2,3,4] [2,4,0]⟩
    refine a5O.cons rfl ?_ ?_
    ·refine cR s (y5 h254 d.dom (d.ins [0] (by decide) rfl) (d.envAt 0 rfl)) (j3 call30 rfl) rfl ?_
     rintro v275 Sv272 w a h273 ⟨p256,k257,rfl,h276,h258⟩ s
     have d:=(d.callO [0] [1,2,3] (by decide) rfl h273 h276).addE (e:=Sq p256 k257 rv255.2.L) h258
     refine h_n [1] [] d rfl rfl fun hC=>?_
     refine b2T (rs:=[1,4]) (by kernel_rfl) rfl ?_
     refine a5O.cons rfl ?_ ?_
     ·refine sv s (I9 (d.ownAt 2 rfl) rfl isAgg22 rfl) rfl fun a s=>?_
      refine h_n [1] [] d rfl rfl fun hC=>?_
      refine ho 4 rfl ?_
      refine o7 (α:=Int) (vs:=[iv rv255.1]) (cs:=[iv rv255.1]) (xs:=([rv255.1]:List Int)) s d S9 rfl rfl rfl rfl rfl rfl ⟨⟨_,rfl,rfl⟩,rfl⟩ rfl trivial rfl fun b260 a w s d=>?_
      refine h_n [2] [] d rfl rfl fun hC=>?_
      refine h_d [2,0] [] [0] [] d rfl rfl rfl rfl fun hC=>?_
      refine ho 5 rfl ?_
      refine F4 (α:=Int) s d S9 4 rfl rfl rfl 4 rfl 0 rfl 0 rfl h261 rfl trivial ?_
      intro p263 k264 c265 a w s d
      refine h_n [2,0] [] d rfl rfl fun hC=>?_
      refine gv s 6 rfl rfl hC (fun w hC=>l5 (o':=11) runUnderlying56 rfl sizeOf22 rfl rfl rfl) fun a s=>?_
      refine ho 7 rfl ?_
      refine ws (E47_1 s6 rv45 rv52 rv37 rv59 rv64 rv69 p263 k264 l262) s d 3 rfl rfl rfl sizeOf22 fun a w s d=>?_
      refine h_n [2,0] [] d rfl rfl fun hC=>?_
      refine y7 (by kernel_rfl) ?_
      exact ⟨Sv272,c265,k257,k264,p256,p263,wj s d [1,2,3,4] [2,4,0]⟩
     refine a5O.cons rfl ?_ ?_
     ·refine o7 (α:=Int) (vs:=[iv rv255.1]) (cs:=[iv rv255.1]) (xs:=([rv255.1]:List Int)) s d S9 rfl rfl rfl rfl rfl rfl ⟨⟨_,rfl,rfl⟩,rfl⟩ rfl trivial rfl fun b260 a w s d=>?_
      refine h_n [2] [] d rfl rfl fun hC=>?_
      refine h_d [2,0] [] [0] [] d rfl rfl rfl rfl fun hC=>?_
      refine ho 1 rfl ?_
      refine sv s (I9 (d.ownAt 3 rfl) rfl isAgg22 rfl) rfl fun a s=>?_
      refine h_n [2,0] [] d rfl rfl fun hC=>?_
      refine ho 5 rfl ?_
      refine F4 (α:=Int) s d S9 4 rfl rfl rfl 4 rfl 0 rfl 0 rfl h261 rfl trivial ?_
      intro p263 k264 c265 a w s d
      refine h_n [2,0] [] d rfl rfl fun hC=>?_
      refine gv s 6 rfl rfl hC (fun w hC=>l5 (o':=11) runUnderlying56 rfl sizeOf22 rfl rfl rfl) fun a s=>?_
      refine ho 7 rfl ?_
      refine ws (E47_1 s6 rv45 rv52 rv37 rv59 rv64 rv69 p263 k264 l262) s d 3 rfl rfl rfl sizeOf22 fun a w s d=>?_
      refine h_n [2,0] [] d rfl rfl fun hC=>?_
      refine y7 (by kernel_rfl) ?_
      exact ⟨Sv272,c265,k257,k264,p256,p263,wj s d [1,2,3,4] [2,4,0]⟩
     exact a5O.nil
    exact a5O.nil
   rintro a w ⟨Sv266,c265,k257,k264,p256,p263,s,d⟩
   refine l8 (tn (wp_region_lit (rn0 2 s rfl fun a s=>?_)))
   obtain ⟨i293,h292,u⟩:=bt u
   refine sv s (o8 rfl h292) rfl fun a s=>?_
   exact nl ⟨_,io u,p256,k257,c265,p263,k264,Sv266,wj s d [0,1,2,3] [0,1,2]⟩
  refine wp_exit (j5 (j5 (o9 ?_)))
  obtain rfl:=oi u
  have h294:=hd229 _ rfl
  subst h294
  exact tn ⟨p207,k208,c209,p210,k211,Sv212,wj s d [0,1,2,3] [0,1,2]⟩
 rintro a w ⟨p233,k234,c235,p236,k237,Sv238,s,d⟩
 refine tn (sn 1 [2] s d rfl rfl fun a s=>?_)
 refine ws [.string s6.Network,.string s6.Station,.string s6.Location,.string s6.Channel,iv (w64 (1000000000000+(w64 (250000 * rv45.1)))),iv rv52.1,iv rv37.1.Num,iv rv37.1.Den,iv rv59.1,iv rv64.1,iv rv69.1,sl p236 k237 e232.2.2] s d 1 rfl rfl rfl sizeOf56 fun a w s d=>?_
 refine nl ?_
 obtain rfl:=oi u
 exact wp_ret (b2m s rfl (K4 d 1 rfl rfl isAgg56 sizeOf56 rfl) (d.ret ⟨p236,k237,c235,p233,k234,rfl,(d.outs [3,0] (by decide) rfl),(d.envAt 2 rfl),(d.envAt 0 rfl)⟩))
abbrev a8n (w0:World) (X:List Nat) (b2:Nat) (r:((List Record) × Dice)):(Nat→Prop)→World→Value→Prop:=fun S w v=>∃ p0_0 k0_0 c0_0 pq0_0 kq0_0,v=sl p0_0 k0_0 r.1∧Outs X w0 S w [.row p0_0 r.1.length k0_0 c0_0 56 12,.box b2 (C87 r.2 pq0_0 kq0_0) 87]∧(l7 c0_0 r.1).p S w∧(Sq pq0_0 kq0_0 r.2.L).p S w
theorem a8m {w0 S0 b2 p3 k4 d1 n6 r} (u:a2r d1 n6=some r) (hS:Dm S0 w0) (hin:Ins S0 w0 [.box b2 (C87 d1 p3 k4) 87]) (h5:(Sq p3 k4 d1.L).p S0 w0):Calls Tryz.prog 12 #[pt b2,iv n6] w0 (Ret (I8 [.box b2 (C87 d1 p3 k4) 87]) w0 S0 (a8n w0 (I8 [.box b2 (C87 d1 p3 k4) 87]) b2 r)):=by
 refine enI 48 func12 rfl hS hin rfl rfl rfl fun a s d=>?_
 have d:=d.addE h5
 refine sz0 1 s rfl fun a s=>?_
 refine sn0 1 s rfl fun a s=>?_
 obtain ⟨rv8,h7,u⟩:=bt u
 refine cR s (a8V h7 d.dom (d.ins [0] (by decide) rfl) (d.envAt 0 rfl)) (j3 call46 rfl) rfl ?_
 rintro v15 Sv12 w a h13 ⟨p9,k10,rfl,h16,h11⟩ s
 have d:=(d.callO [0] [] (by decide) rfl h13 h16).addE (e:=Sq p9 k10 rv8.2.L) h11
 refine wa Z1 s d zeroValue52 fun b17 a w s d=>?_
 refine ws (C52 rv8.1) s d 0 rfl rfl rfl sizeOf52 fun a w s d=>?_
 refine nl (sz0 1 s rfl fun a s=>?_)
 refine wp_seq (sn0 3 s rfl fun a s=>?_)
 obtain ⟨rv19,h18,u⟩:=bt u
 refine cR s (y5 h18 d.dom (d.ins [1] (by decide) rfl) (d.envAt 0 rfl)) (j3 call30 rfl) rfl ?_
 rintro v26 Sv23 w a h24 ⟨p20,k21,rfl,h27,h22⟩ s
 have d:=(d.callO [1] [0] (by decide) rfl h24 h27).addE (e:=Sq p20 k21 rv19.2.L) h22
 refine rz0 1 s rfl fun a s=>?_
 obtain ⟨e374,h642,u⟩:=bt u
 refine q8 (fun a w=>∃ p375 k376 c377 p378 k379 Sv380,Sl 48 [(6,sl p378 k379 e374.2.2)] a∧Wd ⟨w0,S0,I8 [.box b2 (C87 d1 p3 k4) 87]⟩ Sv380 [.box b2 [sl p375 k376 e374.1,iv e374.2.1] 87,.row p378 e374.2.2.length k379 c377 56 12] [Sq p375 k376 e374.1,l7 c377 e374.2.2] w) ?_ ?_
 ·refine wp_block ?_
  have d:=d.nilRow Record 56
  refine u7 (fun sv28 a w=>∃ p255 k256 c257 p258 k259 Sv260,Sl 48 [(0,pt b2),(5,pt b17),(6,sl p258 k259 sv28.2.2.1),(7,iv sv28.2.2.2)] a∧Wd ⟨w0,S0,I8 [.box b2 (C87 d1 p3 k4) 87]⟩ Sv260 [.box b2 [sl p255 k256 sv28.1,iv sv28.2.1] 87,.box b17 (C52 rv8.1) 52,.row p258 sv28.2.2.1.length k259 c257 56 12] [Sq p255 k256 sv28.1,l7 c257 sv28.2.2.1] w) (rv19.2.L,rv19.2.At,([]:List Record),rv19.1) h642 ⟨p20,k21,[],none,0,Sv23,wj s d [1,2,0] [1,0]⟩ ?_
  clear h642
  repeat clear u
  rintro sv28 a w tv372 ⟨p255,k256,c257,p258,k259,Sv260,s,d⟩ u hd371
  refine wp_seq (sz0 2 s rfl fun a s=>?_)
  refine cd s u rfl (fun u=>?_) fun u=>?_
  ·refine sk (wp_seq (wp_block (sn 2 [1] s d rfl rfl fun a s=>?_)))
   obtain ⟨rv491,h490,u⟩:=bt u
   refine cR s (a8T h490 d.dom (d.ins [0] (by decide) rfl) (d.envAt 0 rfl)) (j3 call47 rfl) rfl ?_
   rintro v502 Sv499 w a h500 ⟨p492,k493,c495,p496,k497,rfl,h503,h494,h498⟩ s
   have d:=((d.callO [0] [1,2] (by decide) rfl h500 h503).addE (e:=l7 c495 rv491.1.Samples) h494).addE (e:=Sq p496 k497 rv491.2.L) h498
   refine wa Z0 s d zeroValue56 fun b504 a w s d=>?_
   refine ws (C56 rv491.1 p492 k493) s d 0 rfl rfl rfl sizeOf56 fun a w s d=>?_
   refine nl (wp_seq (sn0 4 s rfl fun a s=>?_))
   obtain ⟨c516,hc516,u⟩:=bt u
   refine C7 4 (fun a w=>∃ p517 k518 Sv519,Sl 48 [(0,pt b2),(5,pt b17),(6,sl p258 k259 sv28.2.2.1),(7,iv sv28.2.2.2),(8,pt b504),(29,.bool c516.2.2)] a∧Wd ⟨w0,S0,I8 [.box b2 (C87 d1 p3 k4) 87]⟩ Sv519 [.box b2 [sl p517 k518 c516.1,iv c516.2.1] 87,.box b17 (C52 rv8.1) 52,.box b504 (C56 rv491.1 p492 k493) 56,.row p492 rv491.1.Samples.length k493 c495 3 1,.row p258 sv28.2.2.1.length k259 c257 56 12] [Sq p517 k518 c516.1,l7 c495 rv491.1.Samples,l7 c257 sv28.2.2.1] w) ?_ ?_
   ·rcases Bool.eq_false_or_eq_true (decide (0<(sv28.2.2.1.length:Int))) with h515 | h515
    ·have s:=s.bT 25 rfl h515
     have u:=E9 hc516 h515
     refine I6 s (O5 rfl) ⟨_,rfl,rfl⟩ rfl rfl fun a s=>?_
     obtain ⟨rv521,h520,u⟩:=bt u
     refine x9 s (y5 h520 d.dom (d.ins [2] (by decide) rfl) (d.envAt 0 rfl)) (j3 call30 rfl) ⟨_,rfl,rfl⟩ rfl rfl ?_
     rintro v528 Sv525 w a h526 ⟨p522,k523,rfl,h529,h524⟩ s
     have d:=(d.callO [2] [0,1,3,4] (by decide) rfl h526 h529).addE (e:=Sq p522 k523 rv521.2.L) h524
     refine rn0 2 s rfl fun a s=>?_
     refine wpList_nil ?_
     obtain rfl:=oi u
     exact tn ⟨p522,k523,Sv525,wj s d [0,3,1,2,4] [0,2,4]⟩
    have s:=s.bF 25 rfl h515
    have u:=F7 hc516 h515
    refine rn0 4 s rfl fun a s=>?_
    refine wpList_nil ?_
    obtain rfl:=oi u
    exact tn ⟨p496,k497,Sv499,wj s d [2,3,0,1,4] [0,1,3]⟩
   rintro a w ⟨p517,k518,Sv519,s,d⟩
   refine nl (q8 (fun a w=>∃ (x576:(List Int)) (x577:Int) (x578:ByteArray) (x579:ByteArray) (x580:ByteArray) (x581:ByteArray) (x582:Int) (x583:Int) (x584:Int) (x585:Int) (x586:Int) (x587:Int) (x588:Int) (x589:(List Int)) (p571 k572 p573 k574 Sv575:_),X5 sv28 x576 x577 x578 x579 x580 x581 x582 x583 x584 x585 x586 x587 x588 x589=some tv372∧Sl 48 [(0,pt b2),(5,pt b17),(6,sl p258 k259 sv28.2.2.1),(7,iv sv28.2.2.2),(8,pt b504)] a∧Wd ⟨w0,S0,I8 [.box b2 (C87 d1 p3 k4) 87]⟩ Sv575 [.box b2 [sl p571 k572 x576,iv x577] 87,.box b17 (C52 rv8.1) 52,.box b504 [.string x578,.string x579,.string x580,.string x581,iv x582,iv x583,iv x584,iv x585,iv x586,iv x587,iv x588,sl p573 k574 x589] 56,.row p258 sv28.2.2.1.length k259 c257 56 12] [Sq p571 k572 x576,Sq p573 k574 x589,l7 c257 sv28.2.2.1] w) ?_ ?_)
   ·refine cd s u rfl (fun u=>?_) fun u=>?_
    ·refine sn0 4 s rfl fun a s=>?_
     obtain ⟨rv601,h600,u⟩:=bt u
     refine cR s (y5 h600 d.dom (d.ins [0] (by decide) rfl) (d.envAt 0 rfl)) (j3 call30 rfl) rfl ?_
     rintro v608 Sv605 w a h606 ⟨p602,k603,rfl,h609,h604⟩ s
     have d:=(d.callO [0] [1,2,3,4] (by decide) rfl h606 h609).addE (e:=Sq p602 k603 rv601.2.L) h604
     obtain ⟨x612,h610,u⟩:=bt u
     obtain ⟨b619,q616,c617,h620,h613,h614,h618,h611⟩:=d.elemRV (α:=Record) 4 rfl 3 rfl h610
     have hsv621:=s
     have hwv622:=d
     subst h620
     have s:=hsv621
     have d:=hwv622
     obtain ⟨_,_,_,_,_,_,_,_,_,_,_,_,rfl,rfl,rfl,rfl,rfl,rfl,rfl,rfl,rfl,rfl,rfl,rfl,⟨p623,n624,k625,rfl,h626⟩⟩:=h611
     obtain rfl:=h626.1
     have d:=d.addE (e:=SlA p623 _ k625 x612.Samples) h626
     refine sv s (o6 runUnderlying28 sizeOf56 rfl rfl h613.1 h613.2 h614) rfl fun a s=>?_
     refine sv s (I1 (j:=0) (d.ownAt 4 rfl) rfl isAgg56 sizeOf56 h618 rfl rfl) rfl fun a s=>?_
     refine ws (C56 x612 p623 k625) s d 2 rfl rfl rfl sizeOf56 fun a w s d=>?_
     refine nl (wp_region_lit (rn 3 [2] s d rfl rfl fun a s=>?_))
     refine o7 (α:=Int) (vs:=[iv x612.Seq,iv 9]) (cs:=[iv x612.Seq,iv 9]) (xs:=([x612.Seq,9]:List Int)) s d S9 rfl rfl rfl rfl rfl rfl ⟨⟨_,rfl,rfl⟩,⟨⟨_,rfl,rfl⟩,rfl⟩⟩ rfl trivial rfl fun b628 a w s d=>?_
     obtain ⟨rv630,h629,u⟩:=bt u
     obtain ⟨Sv634,d⟩:=D6 (α:=Int) d 0 rfl 0 rfl
     refine cR s (D8 h629 d.dom (d.ins [0] (by decide) rfl) (d.envAt 3 rfl) (d.envAt 0 rfl)) (j3 call24 rfl) rfl ?_
     rintro v638 Sv635 w a h636 ⟨p631,k632,rfl,h639,h633⟩ s
     have d:=(d.callO [0] [1,2,3,4] (by decide) rfl h636 h639).addE (e:=Sq p631 k632 rv630.2.L) h633
     refine sv s (l5 (o':=10) runUnderlying56 rfl sizeOf3 rfl rfl rfl) rfl fun a s=>?_
     refine ws (C56 ⟨x612.Source,x612.Start,x612.First,x612.Rate,x612.Error,x612.Run,rv630.1,x612.Samples⟩ p623 k625) s d 2 rfl rfl rfl sizeOf3 fun a w s d=>?_
     exact nl ⟨rv630.2.L,rv630.2.At,x612.Source.Network,x612.Source.Station,x612.Source.Location,x612.Source.Channel,x612.Start,x612.First,x612.Rate.Num,x612.Rate.Den,x612.Error,x612.Run,rv630.1,x612.Samples,p631,k632,p623,k625,Sv635,u,wj s d [0,1,2,4] [0,3,7]⟩
    refine sk ?_
    obtain ⟨Sv640,d⟩:=D6 (α:=Int) d 3 rfl 1 rfl
    exact ⟨c516.1,c516.2.1,rv491.1.Source.Network,rv491.1.Source.Station,rv491.1.Source.Location,rv491.1.Source.Channel,rv491.1.Start,rv491.1.First,rv491.1.Rate.Num,rv491.1.Rate.Den,rv491.1.Error,rv491.1.Run,rv491.1.Seq,rv491.1.Samples,p517,k518,p492,k493,Sv640,u,wj s d [0,1,2,3] [1,0,3]⟩
   rintro a w ⟨x576,x577,x578,x579,x580,x581,x582,x583,x584,x585,x586,x587,x588,x589,p571,k572,p573,k574,Sv575,u,s,d⟩
   refine tn (wp_region_lit (rn 2 [2] s d rfl rfl fun a s=>?_))
   refine o7 (α:=Record) (vs:=[.agg #[.string x578,.string x579,.string x580,.string x581,iv x582,iv x583,iv x584,iv x585,iv x586,iv x587,iv x588,sl p573 k574 x589]]) (cs:=[.string x578,.string x579,.string x580,.string x581,iv x582,iv x583,iv x584,iv x585,iv x586,iv x587,iv x588,sl p573 k574 x589]) (xs:=([(⟨(⟨x578,x579,x580,x581⟩:SourceID),x582,x583,(⟨x584,x585⟩:Rate),x586,x587,x588,x589⟩:Record)]:List Record)) s d a9F rfl rfl rfl rfl rfl rfl ⟨⟨_,_,_,_,_,_,_,_,_,_,_,_,rfl,rfl,rfl,rfl,rfl,rfl,rfl,rfl,rfl,rfl,rfl,rfl,⟨_,_,_,rfl,d.envAt 1 rfl⟩⟩,rfl⟩ rfl trivial rfl fun b591 a w s d=>?_
   obtain ⟨l593,h592,u⟩:=bt u
   refine F4 (α:=Record) s d a9F 4 rfl rfl rfl 3 rfl 0 rfl 0 rfl h592 rfl trivial ?_
   intro p594 k595 c596 a w s d
   refine av s rfl rfl fun a s=>?_
   refine wpList_nil ?_
   refine l8 (tn (wp_region_lit (rn0 2 s rfl fun a s=>?_)))
   obtain ⟨i598,h597,u⟩:=bt u
   refine sv s (o8 rfl h597) rfl fun a s=>?_
   exact nl ⟨_,io u,p571,k572,c596,p594,k595,Sv575,wj s d [1,2,4] [2,0]⟩
  refine wp_exit (j5 (j5 (o9 ?_)))
  obtain rfl:=oi u
  have h641:=hd371 _ rfl
  subst h641
  exact tn ⟨p255,k256,c257,p258,k259,Sv260,wj s d [0,2] [0,1]⟩
 rintro a w ⟨p375,k376,c377,p378,k379,Sv380,s,d⟩
 refine tn (sz0 2 s rfl fun a s=>?_)
 obtain rfl:=oi u
 exact q1 s rfl (d.ret ⟨p378,k379,c377,p375,k376,rfl,(d.outs [1,0] (by decide) rfl),(d.envAt 1 rfl),(d.envAt 0 rfl)⟩)
abbrev a7I (w0:World) (X:List Nat) (b2:Nat) (r:(Record × Dice)):(Nat→Prop)→World→Value→Prop:=fun S w v=>∃ p0_11 k0_11 c0_11 pq0_0 kq0_0,v=V56 r.1 p0_11 k0_11∧Outs X w0 S w [.row p0_11 r.1.Samples.length k0_11 c0_11 3 1,.box b2 (C87 r.2 pq0_0 kq0_0) 87]∧(l7 c0_11 r.1.Samples).p S w∧(Sq pq0_0 kq0_0 r.2.L).p S w
theorem a7H {w0 S0 b2 p3 k4 p7 k8 d1 r6 r} (u:a1c d1 r6=some r) (hS:Dm S0 w0) (hin:Ins S0 w0 [.box b2 (C87 d1 p3 k4) 87]) (h5:(Sq p3 k4 d1.L).p S0 w0) (h9:(Sq p7 k8 r6.Samples).p S0 w0):Calls Tryz.prog 35 #[pt b2,V56 r6 p7 k8] w0 (Ret (I8 [.box b2 (C87 d1 p3 k4) 87]) w0 S0 (a7I w0 (I8 [.box b2 (C87 d1 p3 k4) 87]) b2 r)):=by
 refine enI 66 func35 rfl hS hin rfl rfl rfl fun a s d=>?_
 have d:=(d.addE h5).addE h9
 refine sr (wb (C56 r6 p7 k8) s d rfl fun b10 a w s d=>?_)
 refine wa Z0 s d zeroValue56 fun b11 a w s d=>?_
 refine nl (sn 2 [1] s d rfl rfl fun a s=>?_)
 obtain ⟨l13,h12,u⟩:=bt u
 have d:=d.nilRow Int 3
 refine a1q (α:=Int) s d S9 0 rfl rfl rfl 0 rfl 1 rfl h12 rfl trivial ?_
 intro p14 k15 c16 a w s d
 refine sv s (l5 (o':=11) runUnderlying56 rfl sizeOf22 rfl rfl rfl) rfl fun a s=>?_
 refine ws (C56 ⟨r6.Source,r6.Start,r6.First,r6.Rate,r6.Error,r6.Run,r6.Seq,l13⟩ p14 k15) s d 2 rfl rfl rfl sizeOf22 fun a w s d=>?_
 refine nl (wp_seq (sn0 1 s rfl fun a s=>?_))
 obtain ⟨rv18,h17,u⟩:=bt u
 refine cR s (y5 h17 d.dom (d.ins [3] (by decide) rfl) (d.envAt 3 rfl)) (j3 call30 rfl) rfl ?_
 rintro v25 Sv22 w a h23 ⟨p19,k20,rfl,h26,h21⟩ s
 have d:=(d.callO [3] [0,1,2] (by decide) rfl h23 h26).addE (e:=Sq p19 k20 rv18.2.L) h21
 refine nl (wp_block (sz0 2 s rfl fun a s=>?_))
 refine q8 (fun a w=>∃ (x438:(List Int)) (x439:Int) (x440:ByteArray) (x441:Int) (x442:Int) (x443:Int) (x444:Int) (x445:Int) (x446:Int) (x447:Int) (x448:(List Int)) (p432 k433 c434 p435 k436 Sv437:_),a1D r6 x438 x439 x440 x441 x442 x443 x444 x445 x446 x447 x448=some r∧Sl 66 [(3,pt b10),(4,pt b11)] a∧Wd ⟨w0,S0,I8 [.box b2 (C87 d1 p3 k4) 87]⟩ Sv437 [.box b2 [sl p432 k433 x438,iv x439] 87,.box b10 (C56 ⟨⟨r6.Source.Network,x440,r6.Source.Location,r6.Source.Channel⟩,x441,x442,⟨x443,x444⟩,x445,x446,x447,x448⟩ p435 k436) 56,.box b11 Z0 56,.row p435 x448.length k436 c434 3 1] [Sq p432 k433 x438,Sq none 0 ([]:List Int),l7 c434 x448] w) ?_ ?_
 ·refine cd s u rfl (fun u=>?_) fun u=>?_
  ·refine wp_region_lit (rn0 2 s rfl fun a s=>?_)
   refine ws (C56 ⟨⟨r6.Source.Network,(⟨#[]⟩:ByteArray),r6.Source.Location,r6.Source.Channel⟩,r6.Start,r6.First,r6.Rate,r6.Error,r6.Run,r6.Seq,l13⟩ p14 k15) s d 3 rfl rfl rfl sizeOf9 fun a w s d=>?_
   refine nl ?_
   have d:=d.addE (e:=SlA (α:=Int) none 0 0 []) a2i
   exact ⟨rv18.2.L,rv18.2.At,(⟨#[]⟩:ByteArray),r6.Start,r6.First,r6.Rate.Num,r6.Rate.Den,r6.Error,r6.Run,r6.Seq,l13,p19,k20,c16,p14,k15,Sv22,u,wj s d [0,3,2,1] [1,0,2]⟩
  refine sz0 2 s rfl fun a s=>?_
  refine q8 (fun a w=>∃ (x633:(List Int)) (x634:Int) (x635:Int) (x636:Int) (x637:Int) (x638:Int) (x639:Int) (x640:Int) (x641:Int) (x642:(List Int)) (p627 k628 c629 p630 k631 Sv632:_),a1E r6 x633 x634 x635 x636 x637 x638 x639 x640 x641 x642=some r∧Sl 66 [(3,pt b10),(4,pt b11)] a∧Wd ⟨w0,S0,I8 [.box b2 (C87 d1 p3 k4) 87]⟩ Sv632 [.box b2 [sl p627 k628 x633,iv x634] 87,.box b10 (C56 ⟨r6.Source,x635,x636,⟨x637,x638⟩,x639,x640,x641,x642⟩ p630 k631) 56,.box b11 Z0 56,.row p630 x642.length k631 c629 3 1] [Sq p627 k628 x633,Sq none 0 ([]:List Int),l7 c629 x642] w) ?_ ?_
  ·refine cd s u rfl (fun u=>?_) fun u=>?_
   ·refine wp_region_lit (mv s rfl rfl fun a s=>?_)
    refine o7 (α:=Int) (vs:=Z10) (cs:=Z10) (xs:=([(-1),0,9007199254740992,9007199254740993]:List Int)) s d S9 rfl rfl rfl rfl rfl rfl ⟨⟨_,rfl,rfl⟩,⟨⟨_,rfl,rfl⟩,⟨⟨_,rfl,rfl⟩,⟨⟨_,rfl,rfl⟩,rfl⟩⟩⟩⟩ rfl trivial rfl fun b645 a w s d=>?_
    obtain ⟨rv647,h646,u⟩:=bt u
    obtain ⟨Sv651,d⟩:=D6 (α:=Int) d 0 rfl 0 rfl
    refine cR s (D8 h646 d.dom (d.ins [0] (by decide) rfl) (d.envAt 2 rfl) (d.envAt 0 rfl)) (j3 call24 rfl) rfl ?_
    rintro v655 Sv652 w a h653 ⟨p648,k649,rfl,h656,h650⟩ s
    have d:=(d.callO [0] [1,2,3] (by decide) rfl h653 h656).addE (e:=Sq p648 k649 rv647.2.L) h650
    refine sv s (l5 (o':=4) runUnderlying56 rfl sizeOf3 rfl rfl rfl) rfl fun a s=>?_
    refine ws (C56 ⟨r6.Source,rv647.1,r6.First,r6.Rate,r6.Error,r6.Run,r6.Seq,l13⟩ p14 k15) s d 3 rfl rfl rfl sizeOf3 fun a w s d=>?_
    refine nl ?_
    have d:=d.addE (e:=SlA (α:=Int) none 0 0 []) a2i
    exact ⟨rv647.2.L,rv647.2.At,rv647.1,r6.First,r6.Rate.Num,r6.Rate.Den,r6.Error,r6.Run,r6.Seq,l13,p648,k649,c16,p14,k15,Sv652,u,wj s d [0,3,2,1] [1,0,5]⟩
   refine sz0 2 s rfl fun a s=>?_
   refine q8 (fun a w=>∃ (x811:(List Int)) (x812:Int) (x813:Int) (x814:Int) (x815:Int) (x816:Int) (x817:Int) (x818:Int) (x819:(List Int)) (p805 k806 c807 p808 k809 Sv810:_),a1F r6 x811 x812 x813 x814 x815 x816 x817 x818 x819=some r∧Sl 66 [(3,pt b10),(4,pt b11)] a∧Wd ⟨w0,S0,I8 [.box b2 (C87 d1 p3 k4) 87]⟩ Sv810 [.box b2 [sl p805 k806 x811,iv x812] 87,.box b10 (C56 ⟨r6.Source,r6.Start,x813,⟨x814,x815⟩,x816,x817,x818,x819⟩ p808 k809) 56,.box b11 Z0 56,.row p808 x819.length k809 c807 3 1] [Sq p805 k806 x811,Sq none 0 ([]:List Int),l7 c807 x819] w) ?_ ?_
   ·refine cd s u rfl (fun u=>?_) fun u=>?_
    ·refine wp_region_lit (mv s rfl rfl fun a s=>?_)
     refine o7 (α:=Int) (vs:=Z11) (cs:=Z11) (xs:=([(-1),16777213,16777216]:List Int)) s d S9 rfl rfl rfl rfl rfl rfl ⟨⟨_,rfl,rfl⟩,⟨⟨_,rfl,rfl⟩,⟨⟨_,rfl,rfl⟩,rfl⟩⟩⟩ rfl trivial rfl fun b822 a w s d=>?_
     obtain ⟨rv824,h823,u⟩:=bt u
     obtain ⟨Sv828,d⟩:=D6 (α:=Int) d 0 rfl 0 rfl
     refine cR s (D8 h823 d.dom (d.ins [0] (by decide) rfl) (d.envAt 2 rfl) (d.envAt 0 rfl)) (j3 call24 rfl) rfl ?_
     rintro v832 Sv829 w a h830 ⟨p825,k826,rfl,h833,h827⟩ s
     have d:=(d.callO [0] [1,2,3] (by decide) rfl h830 h833).addE (e:=Sq p825 k826 rv824.2.L) h827
     refine sv s (l5 (o':=5) runUnderlying56 rfl sizeOf3 rfl rfl rfl) rfl fun a s=>?_
     refine ws (C56 ⟨r6.Source,r6.Start,rv824.1,r6.Rate,r6.Error,r6.Run,r6.Seq,l13⟩ p14 k15) s d 3 rfl rfl rfl sizeOf3 fun a w s d=>?_
     refine nl ?_
     have d:=d.addE (e:=SlA (α:=Int) none 0 0 []) a2i
     exact ⟨rv824.2.L,rv824.2.At,rv824.1,r6.Rate.Num,r6.Rate.Den,r6.Error,r6.Run,r6.Seq,l13,p825,k826,c16,p14,k15,Sv829,u,wj s d [0,3,2,1] [1,0,5]⟩
    refine sz0 2 s rfl fun a s=>?_
    refine q8 (fun a w=>∃ (x960:(List Int)) (x961:Int) (x962:Int) (x963:Int) (x964:Int) (x965:Int) (x966:Int) (x967:(List Int)) (p954 k955 c956 p957 k958 Sv959:_),a1G r6 x960 x961 x962 x963 x964 x965 x966 x967=some r∧Sl 66 [(3,pt b10),(4,pt b11)] a∧Wd ⟨w0,S0,I8 [.box b2 (C87 d1 p3 k4) 87]⟩ Sv959 [.box b2 [sl p954 k955 x960,iv x961] 87,.box b10 (C56 ⟨r6.Source,r6.Start,r6.First,⟨x962,x963⟩,x964,x965,x966,x967⟩ p957 k958) 56,.box b11 Z0 56,.row p957 x967.length k958 c956 3 1] [Sq p954 k955 x960,Sq none 0 ([]:List Int),l7 c956 x967] w) ?_ ?_
    ·refine cd s u rfl (fun u=>?_) fun u=>?_
     ·refine wp_region_lit (mv s rfl rfl fun a s=>?_)
      refine o7 (α:=Int) (vs:=[iv 0,iv 2,iv 4097]) (cs:=[iv 0,iv 2,iv 4097]) (xs:=([0,2,4097]:List Int)) s d S9 rfl rfl rfl rfl rfl rfl ⟨⟨_,rfl,rfl⟩,⟨⟨_,rfl,rfl⟩,⟨⟨_,rfl,rfl⟩,rfl⟩⟩⟩ rfl trivial rfl fun b970 a w s d=>?_
      obtain ⟨rv972,h971,u⟩:=bt u
      obtain ⟨Sv976,d⟩:=D6 (α:=Int) d 0 rfl 0 rfl
      refine cR s (D8 h971 d.dom (d.ins [0] (by decide) rfl) (d.envAt 2 rfl) (d.envAt 0 rfl)) (j3 call24 rfl) rfl ?_
      rintro v980 Sv977 w a h978 ⟨p973,k974,rfl,h981,h975⟩ s
      have d:=(d.callO [0] [1,2,3] (by decide) rfl h978 h981).addE (e:=Sq p973 k974 rv972.2.L) h975
      refine sv s (D7 (vs:=[(0,iv rv972.1),(1,iv 2)]) b4b rfl rfl) rfl fun a s=>?_
      refine sv s (l5 (o':=6) runUnderlying56 rfl sizeOf54 rfl rfl rfl) rfl fun a s=>?_
      refine ws (C56 ⟨r6.Source,r6.Start,r6.First,⟨rv972.1,2⟩,r6.Error,r6.Run,r6.Seq,l13⟩ p14 k15) s d 3 rfl rfl rfl sizeOf54 fun a w s d=>?_
      refine nl ?_
      have d:=d.addE (e:=SlA (α:=Int) none 0 0 []) a2i
      exact ⟨rv972.2.L,rv972.2.At,rv972.1,2,r6.Error,r6.Run,r6.Seq,l13,p973,k974,c16,p14,k15,Sv977,u,wj s d [0,3,2,1] [1,0,5]⟩
     refine sz0 2 s rfl fun a s=>?_
     refine q8 (fun a w=>∃ (x1082:(List Int)) (x1083:Int) (x1084:Int) (x1085:Int) (x1086:Int) (x1087:(List Int)) (p1076 k1077 c1078 p1079 k1080 Sv1081:_),a1H r6 x1082 x1083 x1084 x1085 x1086 x1087=some r∧Sl 66 [(3,pt b10),(4,pt b11)] a∧Wd ⟨w0,S0,I8 [.box b2 (C87 d1 p3 k4) 87]⟩ Sv1081 [.box b2 [sl p1076 k1077 x1082,iv x1083] 87,.box b10 (C56 ⟨r6.Source,r6.Start,r6.First,r6.Rate,x1084,x1085,x1086,x1087⟩ p1079 k1080) 56,.box b11 Z0 56,.row p1079 x1087.length k1080 c1078 3 1] [Sq p1076 k1077 x1082,Sq none 0 ([]:List Int),l7 c1078 x1087] w) ?_ ?_
     ·refine cd s u rfl (fun u=>?_) fun u=>?_
      ·refine wp_region_lit (mv s rfl rfl fun a s=>?_)
       refine o7 (α:=Int) (vs:=Z12) (cs:=Z12) (xs:=([(-1),1099511627776,1099511627777]:List Int)) s d S9 rfl rfl rfl rfl rfl rfl ⟨⟨_,rfl,rfl⟩,⟨⟨_,rfl,rfl⟩,⟨⟨_,rfl,rfl⟩,rfl⟩⟩⟩ rfl trivial rfl fun b1090 a w s d=>?_
       obtain ⟨rv1092,h1091,u⟩:=bt u
       obtain ⟨Sv1096,d⟩:=D6 (α:=Int) d 0 rfl 0 rfl
       refine cR s (D8 h1091 d.dom (d.ins [0] (by decide) rfl) (d.envAt 2 rfl) (d.envAt 0 rfl)) (j3 call24 rfl) rfl ?_
       rintro v1100 Sv1097 w a h1098 ⟨p1093,k1094,rfl,h1101,h1095⟩ s
       have d:=(d.callO [0] [1,2,3] (by decide) rfl h1098 h1101).addE (e:=Sq p1093 k1094 rv1092.2.L) h1095
       refine sv s (l5 (o':=8) runUnderlying56 rfl sizeOf3 rfl rfl rfl) rfl fun a s=>?_
       refine ws (C56 ⟨r6.Source,r6.Start,r6.First,r6.Rate,rv1092.1,r6.Run,r6.Seq,l13⟩ p14 k15) s d 3 rfl rfl rfl sizeOf3 fun a w s d=>?_
       refine nl ?_
       have d:=d.addE (e:=SlA (α:=Int) none 0 0 []) a2i
       exact ⟨rv1092.2.L,rv1092.2.At,rv1092.1,r6.Run,r6.Seq,l13,p1093,k1094,c16,p14,k15,Sv1097,u,wj s d [0,3,2,1] [1,0,5]⟩
      refine sz0 2 s rfl fun a s=>?_
      refine q8 (fun a w=>∃ (x1177:(List Int)) (x1178:Int) (x1179:Int) (x1180:Int) (x1181:(List Int)) (p1171 k1172 c1173 p1174 k1175 Sv1176:_),a1I r6 x1177 x1178 x1179 x1180 x1181=some r∧Sl 66 [(3,pt b10),(4,pt b11)] a∧Wd ⟨w0,S0,I8 [.box b2 (C87 d1 p3 k4) 87]⟩ Sv1176 [.box b2 [sl p1171 k1172 x1177,iv x1178] 87,.box b10 (C56 ⟨r6.Source,r6.Start,r6.First,r6.Rate,r6.Error,x1179,x1180,x1181⟩ p1174 k1175) 56,.box b11 Z0 56,.row p1174 x1181.length k1175 c1173 3 1] [Sq p1171 k1172 x1177,Sq none 0 ([]:List Int),l7 c1173 x1181] w) ?_ ?_
      ·refine cd s u rfl (fun u=>?_) fun u=>?_
       ·refine wp_region_lit (mv s rfl rfl fun a s=>?_)
        refine o7 (α:=Int) (vs:=Z13) (cs:=Z13) (xs:=([(-1),65535,65536]:List Int)) s d S9 rfl rfl rfl rfl rfl rfl ⟨⟨_,rfl,rfl⟩,⟨⟨_,rfl,rfl⟩,⟨⟨_,rfl,rfl⟩,rfl⟩⟩⟩ rfl trivial rfl fun b1184 a w s d=>?_
        obtain ⟨rv1186,h1185,u⟩:=bt u
        obtain ⟨Sv1190,d⟩:=D6 (α:=Int) d 0 rfl 0 rfl
        refine cR s (D8 h1185 d.dom (d.ins [0] (by decide) rfl) (d.envAt 2 rfl) (d.envAt 0 rfl)) (j3 call24 rfl) rfl ?_
        rintro v1194 Sv1191 w a h1192 ⟨p1187,k1188,rfl,h1195,h1189⟩ s
        have d:=(d.callO [0] [1,2,3] (by decide) rfl h1192 h1195).addE (e:=Sq p1187 k1188 rv1186.2.L) h1189
        refine sv s (l5 (o':=9) runUnderlying56 rfl sizeOf3 rfl rfl rfl) rfl fun a s=>?_
        refine ws (C56 ⟨r6.Source,r6.Start,r6.First,r6.Rate,r6.Error,rv1186.1,r6.Seq,l13⟩ p14 k15) s d 3 rfl rfl rfl sizeOf3 fun a w s d=>?_
        refine nl ?_
        have d:=d.addE (e:=SlA (α:=Int) none 0 0 []) a2i
        exact ⟨rv1186.2.L,rv1186.2.At,rv1186.1,r6.Seq,l13,p1187,k1188,c16,p14,k15,Sv1191,u,wj s d [0,3,2,1] [1,0,5]⟩
       refine sz0 2 s rfl fun a s=>?_
       refine q8 (fun a w=>∃ (x1247:(List Int)) (x1248:Int) (x1249:Int) (x1250:(List Int)) (p1241 k1242 c1243 p1244 k1245 Sv1246:_),a1J r6 x1247 x1248 x1249 x1250=some r∧Sl 66 [(3,pt b10),(4,pt b11)] a∧Wd ⟨w0,S0,I8 [.box b2 (C87 d1 p3 k4) 87]⟩ Sv1246 [.box b2 [sl p1241 k1242 x1247,iv x1248] 87,.box b10 (C56 ⟨r6.Source,r6.Start,r6.First,r6.Rate,r6.Error,r6.Run,x1249,x1250⟩ p1244 k1245) 56,.box b11 Z0 56,.row p1244 x1250.length k1245 c1243 3 1] [Sq p1241 k1242 x1247,Sq none 0 ([]:List Int),l7 c1243 x1250] w) ?_ ?_
       ·refine cd s u rfl (fun u=>?_) fun u=>?_
        ·refine wp_region_lit (mv s rfl rfl fun a s=>?_)
         refine o7 (α:=Int) (vs:=Z14) (cs:=Z14) (xs:=([(-1),1073741824,1073741825]:List Int)) s d S9 rfl rfl rfl rfl rfl rfl ⟨⟨_,rfl,rfl⟩,⟨⟨_,rfl,rfl⟩,⟨⟨_,rfl,rfl⟩,rfl⟩⟩⟩ rfl trivial rfl fun b1253 a w s d=>?_
         obtain ⟨rv1255,h1254,u⟩:=bt u
         obtain ⟨Sv1259,d⟩:=D6 (α:=Int) d 0 rfl 0 rfl
         refine cR s (D8 h1254 d.dom (d.ins [0] (by decide) rfl) (d.envAt 2 rfl) (d.envAt 0 rfl)) (j3 call24 rfl) rfl ?_
         rintro v1263 Sv1260 w a h1261 ⟨p1256,k1257,rfl,h1264,h1258⟩ s
         have d:=(d.callO [0] [1,2,3] (by decide) rfl h1261 h1264).addE (e:=Sq p1256 k1257 rv1255.2.L) h1258
         refine sv s (l5 (o':=10) runUnderlying56 rfl sizeOf3 rfl rfl rfl) rfl fun a s=>?_
         refine ws (C56 ⟨r6.Source,r6.Start,r6.First,r6.Rate,r6.Error,r6.Run,rv1255.1,l13⟩ p14 k15) s d 3 rfl rfl rfl sizeOf3 fun a w s d=>?_
         refine nl ?_
         have d:=d.addE (e:=SlA (α:=Int) none 0 0 []) a2i
         exact ⟨rv1255.2.L,rv1255.2.At,rv1255.1,l13,p1256,k1257,c16,p14,k15,Sv1260,u,wj s d [0,3,2,1] [1,0,5]⟩
        refine sz0 2 s rfl fun a s=>?_
        refine q8 (fun a w=>∃ (x1293:(List Int)) (x1294:Int) (x1295:(List Int)) (p1287 k1288 c1289 p1290 k1291 Sv1292:_),a1K r6 x1293 x1294 x1295=some r∧Sl 66 [(3,pt b10),(4,pt b11)] a∧Wd ⟨w0,S0,I8 [.box b2 (C87 d1 p3 k4) 87]⟩ Sv1292 [.box b2 [sl p1287 k1288 x1293,iv x1294] 87,.box b10 (C56 ⟨r6.Source,r6.Start,r6.First,r6.Rate,r6.Error,r6.Run,r6.Seq,x1295⟩ p1290 k1291) 56,.box b11 Z0 56,.row p1290 x1295.length k1291 c1289 3 1] [Sq p1287 k1288 x1293,Sq none 0 ([]:List Int),l7 c1289 x1295] w) ?_ ?_
        ·refine cd s u rfl (fun u=>?_) fun u=>?_
         ·obtain ⟨rv1300,h1299,u⟩:=bt u
          obtain ⟨l1307,h1306,u⟩:=bt u
          refine A9 (fun a w=>∃ Sv1311 c1310 k1302 k1309 p1301 p1308,Sl 66 [(3,pt b10),(4,pt b11)] a∧Wd ⟨w0,S0,I8 [.box b2 (C87 d1 p3 k4) 87]⟩ Sv1311 [.box b2 (C87 rv1300.2 p1301 k1302) 87,.box b10 (C56 ⟨r6.Source,r6.Start,r6.First,r6.Rate,r6.Error,r6.Run,r6.Seq,l1307⟩ p1308 k1309) 56,.box b11 Z0 56,.row p1308 l1307.length k1309 c1310 3 1] [Sq p1301 k1302 rv1300.2.L,Sq none 0 ([]:List Int),l7 c1310 l1307] w) ?_ ?_
          ·refine h_c [2] [] d rfl rfl (by kernel_rfl) rfl fun hC d=>?_
           refine gn 2 [0,2] [] s hC rfl rfl rfl fun a s=>?_
           refine b2T (rs:=[1,3]) (by kernel_rfl) rfl ?_
           refine a5O.cons rfl ?_ ?_
           ·refine sv s (I9 (d.ownAt 3 rfl) rfl isAgg22 rfl) rfl fun a s=>?_
            refine h_n [2] [] d rfl rfl fun hC=>?_
            refine ho 3 rfl ?_
            refine o7 (α:=Int) (vs:=Z15) (cs:=Z15) (xs:=([1073741823,1073741824,(-1073741824)]:List Int)) s d S9 rfl rfl rfl rfl rfl rfl ⟨⟨_,rfl,rfl⟩,⟨⟨_,rfl,rfl⟩,⟨⟨_,rfl,rfl⟩,rfl⟩⟩⟩ rfl trivial rfl fun b1298 a w s d=>?_
            refine h_n [3] [] d rfl rfl fun hC=>?_
            refine ho 4 rfl ?_
            obtain ⟨Sv1312,d⟩:=D6 (α:=Int) d 0 rfl 0 rfl
            refine cR s (D8 h1299 d.dom (d.ins [0] (by decide) rfl) (d.envAt 2 rfl) (d.envAt 0 rfl)) (j3 call24 rfl) rfl ?_
            rintro v1316 Sv1313 w a h1314 ⟨p1301,k1302,rfl,h1317,h1303⟩ s
            have d:=(d.callO [0] [1,2,3] (by decide) rfl h1314 h1317).addE (e:=Sq p1301 k1302 rv1300.2.L) h1303
            refine h_n [2] [] d rfl rfl fun hC=>?_
            refine ho 5 rfl ?_
            refine o7 (α:=Int) (vs:=[iv rv1300.1]) (cs:=[iv rv1300.1]) (xs:=([rv1300.1]:List Int)) s d S9 rfl rfl rfl rfl rfl rfl ⟨⟨_,rfl,rfl⟩,rfl⟩ rfl trivial rfl fun b1305 a w s d=>?_
            refine h_n [3] [] d rfl rfl fun hC=>?_
            refine h_d [3,0] [] [0] [] d rfl rfl rfl rfl fun hC=>?_
            refine ho 6 rfl ?_
            refine F4 (α:=Int) s d S9 2 rfl rfl rfl 5 rfl 0 rfl 0 rfl h1306 rfl trivial ?_
            intro p1308 k1309 c1310 a w s d
            refine h_n [3,0] [] d rfl rfl fun hC=>?_
            refine gv s 7 rfl rfl hC (fun w hC=>l5 (o':=11) runUnderlying56 rfl sizeOf22 rfl rfl rfl) fun a s=>?_
            refine ho 8 rfl ?_
            refine ws (C56 ⟨r6.Source,r6.Start,r6.First,r6.Rate,r6.Error,r6.Run,r6.Seq,l1307⟩ p1308 k1309) s d 4 rfl rfl rfl sizeOf22 fun a w s d=>?_
            refine h_n [3,0] [] d rfl rfl fun hC=>?_
            refine y7 (by kernel_rfl) ?_
            have d:=d.addE (e:=SlA (α:=Int) none 0 0 []) a2i
            exact ⟨Sv1313,c1310,k1302,k1309,p1301,p1308,wj s d [1,4,3,2] [3,0,1]⟩
           refine a5O.cons rfl ?_ ?_
           ·refine o7 (α:=Int) (vs:=Z15) (cs:=Z15) (xs:=([1073741823,1073741824,(-1073741824)]:List Int)) s d S9 rfl rfl rfl rfl rfl rfl ⟨⟨_,rfl,rfl⟩,⟨⟨_,rfl,rfl⟩,⟨⟨_,rfl,rfl⟩,rfl⟩⟩⟩ rfl trivial rfl fun b1298 a w s d=>?_
            refine h_n [3] [] d rfl rfl fun hC=>?_
            refine b2T (rs:=[1,4]) (by kernel_rfl) rfl ?_
            refine a5O.cons rfl ?_ ?_
            ·refine sv s (I9 (d.ownAt 4 rfl) rfl isAgg22 rfl) rfl fun a s=>?_
             refine h_n [3] [] d rfl rfl fun hC=>?_
             refine ho 4 rfl ?_
             obtain ⟨Sv1318,d⟩:=D6 (α:=Int) d 0 rfl 0 rfl
             refine cR s (D8 h1299 d.dom (d.ins [0] (by decide) rfl) (d.envAt 2 rfl) (d.envAt 0 rfl)) (j3 call24 rfl) rfl ?_
             rintro v1322 Sv1319 w a h1320 ⟨p1301,k1302,rfl,h1323,h1303⟩ s
             have d:=(d.callO [0] [1,2,3] (by decide) rfl h1320 h1323).addE (e:=Sq p1301 k1302 rv1300.2.L) h1303
             refine h_n [2] [] d rfl rfl fun hC=>?_
             refine ho 5 rfl ?_
             refine o7 (α:=Int) (vs:=[iv rv1300.1]) (cs:=[iv rv1300.1]) (xs:=([rv1300.1]:List Int)) s d S9 rfl rfl rfl rfl rfl rfl ⟨⟨_,rfl,rfl⟩,rfl⟩ rfl trivial rfl fun b1305 a w s d=>?_
             refine h_n [3] [] d rfl rfl fun hC=>?_
             refine h_d [3,0] [] [0] [] d rfl rfl rfl rfl fun hC=>?_
             refine ho 6 rfl ?_
             refine F4 (α:=Int) s d S9 2 rfl rfl rfl 5 rfl 0 rfl 0 rfl h1306 rfl trivial ?_
             intro p1308 k1309 c1310 a w s d
             refine h_n [3,0] [] d rfl rfl fun hC=>?_
             refine gv s 7 rfl rfl hC (fun w hC=>l5 (o':=11) runUnderlying56 rfl sizeOf22 rfl rfl rfl) fun a s=>?_
             refine ho 8 rfl ?_
             refine ws (C56 ⟨r6.Source,r6.Start,r6.First,r6.Rate,r6.Error,r6.Run,r6.Seq,l1307⟩ p1308 k1309) s d 4 rfl rfl rfl sizeOf22 fun a w s d=>?_
             refine h_n [3,0] [] d rfl rfl fun hC=>?_
             refine y7 (by kernel_rfl) ?_
             have d:=d.addE (e:=SlA (α:=Int) none 0 0 []) a2i
             exact ⟨Sv1319,c1310,k1302,k1309,p1301,p1308,wj s d [1,4,3,2] [3,0,1]⟩
            refine a5O.cons rfl ?_ ?_
            ·obtain ⟨Sv1324,d⟩:=D6 (α:=Int) d 0 rfl 0 rfl
             refine cR s (D8 h1299 d.dom (d.ins [0] (by decide) rfl) (d.envAt 2 rfl) (d.envAt 0 rfl)) (j3 call24 rfl) rfl ?_
             rintro v1328 Sv1325 w a h1326 ⟨p1301,k1302,rfl,h1329,h1303⟩ s
             have d:=(d.callO [0] [1,2,3] (by decide) rfl h1326 h1329).addE (e:=Sq p1301 k1302 rv1300.2.L) h1303
             refine h_n [2] [] d rfl rfl fun hC=>?_
             refine b2T (rs:=[1,5]) (by kernel_rfl) rfl ?_
             refine a5O.cons rfl ?_ ?_
             ·refine sv s (I9 (d.ownAt 3 rfl) rfl isAgg22 rfl) rfl fun a s=>?_
              refine h_n [2] [] d rfl rfl fun hC=>?_
              refine ho 5 rfl ?_
              refine o7 (α:=Int) (vs:=[iv rv1300.1]) (cs:=[iv rv1300.1]) (xs:=([rv1300.1]:List Int)) s d S9 rfl rfl rfl rfl rfl rfl ⟨⟨_,rfl,rfl⟩,rfl⟩ rfl trivial rfl fun b1305 a w s d=>?_
              refine h_n [3] [] d rfl rfl fun hC=>?_
              refine h_d [3,0] [] [0] [] d rfl rfl rfl rfl fun hC=>?_
              refine ho 6 rfl ?_
              refine F4 (α:=Int) s d S9 2 rfl rfl rfl 5 rfl 0 rfl 0 rfl h1306 rfl trivial ?_
              intro p1308 k1309 c1310 a w s d
              refine h_n [3,0] [] d rfl rfl fun hC=>?_
              refine gv s 7 rfl rfl hC (fun w hC=>l5 (o':=11) runUnderlying56 rfl sizeOf22 rfl rfl rfl) fun a s=>?_
              refine ho 8 rfl ?_
              refine ws (C56 ⟨r6.Source,r6.Start,r6.First,r6.Rate,r6.Error,r6.Run,r6.Seq,l1307⟩ p1308 k1309) s d 4 rfl rfl rfl sizeOf22 fun a w s d=>?_
              refine h_n [3,0] [] d rfl rfl fun hC=>?_
              refine y7 (by kernel_rfl) ?_
              have d:=d.addE (e:=SlA (α:=Int) none 0 0 []) a2i
              exact ⟨Sv1325,c1310,k1302,k1309,p1301,p1308,wj s d [1,4,3,2] [3,0,1]⟩
             refine a5O.cons rfl ?_ ?_
             ·refine o7 (α:=Int) (vs:=[iv rv1300.1]) (cs:=[iv rv1300.1]) (xs:=([rv1300.1]:List Int)) s d S9 rfl rfl rfl rfl rfl rfl ⟨⟨_,rfl,rfl⟩,rfl⟩ rfl trivial rfl fun b1305 a w s d=>?_
              refine h_n [3] [] d rfl rfl fun hC=>?_
              refine h_d [3,0] [] [0] [] d rfl rfl rfl rfl fun hC=>?_
              refine ho 1 rfl ?_
              refine sv s (I9 (d.ownAt 4 rfl) rfl isAgg22 rfl) rfl fun a s=>?_
              refine h_n [3,0] [] d rfl rfl fun hC=>?_
              refine ho 6 rfl ?_
              refine F4 (α:=Int) s d S9 2 rfl rfl rfl 5 rfl 0 rfl 0 rfl h1306 rfl trivial ?_
              intro p1308 k1309 c1310 a w s d
              refine h_n [3,0] [] d rfl rfl fun hC=>?_
              refine gv s 7 rfl rfl hC (fun w hC=>l5 (o':=11) runUnderlying56 rfl sizeOf22 rfl rfl rfl) fun a s=>?_
              refine ho 8 rfl ?_
              refine ws (C56 ⟨r6.Source,r6.Start,r6.First,r6.Rate,r6.Error,r6.Run,r6.Seq,l1307⟩ p1308 k1309) s d 4 rfl rfl rfl sizeOf22 fun a w s d=>?_
              refine h_n [3,0] [] d rfl rfl fun hC=>?_
              refine y7 (by kernel_rfl) ?_
              have d:=d.addE (e:=SlA (α:=Int) none 0 0 []) a2i
              exact ⟨Sv1325,c1310,k1302,k1309,p1301,p1308,wj s d [1,4,3,2] [3,0,1]⟩
             exact a5O.nil
            exact a5O.nil
           exact a5O.nil
          rintro a w ⟨Sv1311,c1310,k1302,k1309,p1301,p1308,s,d⟩
          exact tn ⟨rv1300.2.L,rv1300.2.At,l1307,p1301,k1302,c1310,p1308,k1309,Sv1311,u,wj s d [0,1,2,3] [0,1,2]⟩
         refine sz0 2 s rfl fun a s=>?_
         refine q8 (fun a w=>∃ (x1353:(List Int)) (c1349 p1350 k1351 Sv1352:_),a1L r6 rv18 x1353=some r∧Sl 66 [(3,pt b10),(4,pt b11)] a∧Wd ⟨w0,S0,I8 [.box b2 (C87 d1 p3 k4) 87]⟩ Sv1352 [.box b2 (C87 rv18.2 p19 k20) 87,.box b10 (C56 ⟨r6.Source,r6.Start,r6.First,r6.Rate,r6.Error,r6.Run,r6.Seq,x1353⟩ p1350 k1351) 56,.box b11 Z0 56,.row p1350 x1353.length k1351 c1349 3 1] [Sq p19 k20 rv18.2.L,Sq none 0 ([]:List Int),l7 c1349 x1353] w) ?_ ?_
         ·refine cd s u rfl (fun u=>?_) fun u=>?_
          ·refine wp_region_lit (sv s (l5 (o':=11) runUnderlying56 rfl sizeOf22 rfl rfl rfl) rfl fun a s=>?_)
           refine ws (C56 ⟨r6.Source,r6.Start,r6.First,r6.Rate,r6.Error,r6.Run,r6.Seq,([]:List Int)⟩ none 0) s d 3 rfl rfl rfl sizeOf22 fun a w s d=>?_
           refine nl ?_
           have d:=(d.nilRow Int 3).addE (e:=SlA (α:=Int) none 0 0 []) a2i
           exact ⟨([]:List Int),[],none,0,Sv22,u,wj s d [1,4,3,0] [2,0,1]⟩
          refine sk ?_
          have d:=d.addE (e:=SlA (α:=Int) none 0 0 []) a2i
          exact ⟨l13,c16,p14,k15,Sv22,u,wj s d [0,3,2,1] [1,0,2]⟩
         rintro a w ⟨x1353,c1349,p1350,k1351,Sv1352,u,s,d⟩
         exact tn ⟨rv18.2.L,rv18.2.At,x1353,p19,k20,c1349,p1350,k1351,Sv1352,u,wj s d [0,1,2,3] [0,1,2]⟩
        rintro a w ⟨x1293,x1294,x1295,p1287,k1288,c1289,p1290,k1291,Sv1292,u,s,d⟩
        exact tn ⟨x1293,x1294,r6.Seq,x1295,p1287,k1288,c1289,p1290,k1291,Sv1292,u,wj s d [0,1,2,3] [0,1,2]⟩
       rintro a w ⟨x1247,x1248,x1249,x1250,p1241,k1242,c1243,p1244,k1245,Sv1246,u,s,d⟩
       exact tn ⟨x1247,x1248,r6.Run,x1249,x1250,p1241,k1242,c1243,p1244,k1245,Sv1246,u,wj s d [0,1,2,3] [0,1,2]⟩
      rintro a w ⟨x1177,x1178,x1179,x1180,x1181,p1171,k1172,c1173,p1174,k1175,Sv1176,u,s,d⟩
      exact tn ⟨x1177,x1178,r6.Error,x1179,x1180,x1181,p1171,k1172,c1173,p1174,k1175,Sv1176,u,wj s d [0,1,2,3] [0,1,2]⟩
     rintro a w ⟨x1082,x1083,x1084,x1085,x1086,x1087,p1076,k1077,c1078,p1079,k1080,Sv1081,u,s,d⟩
     exact tn ⟨x1082,x1083,r6.Rate.Num,r6.Rate.Den,x1084,x1085,x1086,x1087,p1076,k1077,c1078,p1079,k1080,Sv1081,u,wj s d [0,1,2,3] [0,1,2]⟩
    rintro a w ⟨x960,x961,x962,x963,x964,x965,x966,x967,p954,k955,c956,p957,k958,Sv959,u,s,d⟩
    exact tn ⟨x960,x961,r6.First,x962,x963,x964,x965,x966,x967,p954,k955,c956,p957,k958,Sv959,u,wj s d [0,1,2,3] [0,1,2]⟩
   rintro a w ⟨x811,x812,x813,x814,x815,x816,x817,x818,x819,p805,k806,c807,p808,k809,Sv810,u,s,d⟩
   exact tn ⟨x811,x812,r6.Start,x813,x814,x815,x816,x817,x818,x819,p805,k806,c807,p808,k809,Sv810,u,wj s d [0,1,2,3] [0,1,2]⟩
  rintro a w ⟨x633,x634,x635,x636,x637,x638,x639,x640,x641,x642,p627,k628,c629,p630,k631,Sv632,u,s,d⟩
  exact tn ⟨x633,x634,r6.Source.Station,x635,x636,x637,x638,x639,x640,x641,x642,p627,k628,c629,p630,k631,Sv632,u,wj s d [0,1,2,3] [0,1,2]⟩
 rintro a w ⟨x438,x439,x440,x441,x442,x443,x444,x445,x446,x447,x448,p432,k433,c434,p435,k436,Sv437,u,s,d⟩
 refine l8 (tn (sn 1 [1] s d rfl rfl fun a s=>?_))
 refine ws (C56 ⟨⟨r6.Source.Network,x440,r6.Source.Location,r6.Source.Channel⟩,x441,x442,⟨x443,x444⟩,x445,x446,x447,x448⟩ p435 k436) s d 2 rfl rfl rfl sizeOf56 fun a w s d=>?_
 refine nl ?_
 obtain rfl:=oi u
 exact wp_ret (b2m s rfl (K4 d 2 rfl rfl isAgg56 sizeOf56 rfl) (d.ret ⟨p435,k436,c434,p432,k433,rfl,(d.outs [3,0] (by decide) rfl),(d.envAt 2 rfl),(d.envAt 0 rfl)⟩))
theorem a4X {w0 S0 s1 lo2 hi3 r} (u:a3S s1 lo2 hi3=some r) (hS:Dm S0 w0):Ck Tryz.prog 137 #[.string s1,iv lo2,iv hi3] w0 S0 [] u6 r:=by
 refine en 47 func137 rfl hS rfl rfl rfl fun a s d=>?_
 refine sz0 1 s rfl fun a s=>?_
 refine wp_seq (sz0 1 s rfl fun a s=>?_)
 refine wp_block (u7 (fun sv111 a w=>∃ Sv181,Sl 47 [(0,.string s1),(1,iv lo2),(2,iv hi3),(7,iv sv111)] a∧Wd ⟨w0,S0,[]⟩ Sv181 [] [] w) 0 u ⟨S0,wj s d [] []⟩ ?_)
 repeat clear u
 rintro sv111 a w tv217 ⟨Sv181,s,d⟩ u hd216
 refine wp_seq (sz0 4 s rfl fun a s=>?_)
 refine cd s u rfl (fun u=>?_) fun u=>?_
 ·refine sk (wp_seq (wp_block (sn0 2 s rfl fun a s=>?_)))
  obtain ⟨c254,h253,u⟩:=bt u
  refine sv s (a7t runUnderlying9 rfl rfl h253) rfl fun a s=>?_
  refine sv s (b0n (rfl) rfl) rfl fun a s=>?_
  refine mv s rfl rfl fun a s=>?_
  obtain ⟨c258,hc258,u⟩:=bt u
  refine C7 5 (fun a w=>∃ Sv259,Sl 47 [(0,.string s1),(1,iv lo2),(2,iv hi3),(7,iv sv111),(23,.bool c258)] a∧Wd ⟨w0,S0,[]⟩ Sv259 [] [] w) ?_ ?_
  ·rcases Bool.eq_false_or_eq_true (decide (65≤c254)) with h257 | h257
   ·have s:=s.bT 18 rfl h257
    have u:=E9 hc258 h257
    refine rn0 2 s rfl fun a s=>?_
    obtain ⟨c261,h260,u⟩:=bt u
    refine I6 s (a7t runUnderlying9 rfl rfl h260) ⟨_,rfl,rfl⟩ rfl rfl fun a s=>?_
    refine I6 s (b1j (rfl) rfl) ⟨_,rfl,rfl⟩ rfl rfl fun a s=>?_
    refine sv s (X4 rfl rfl) rfl fun a s=>?_
    refine wpList_nil ?_
    obtain rfl:=oi u
    exact tn ⟨Sv181,wj s d [] []⟩
   have s:=s.bF 18 rfl h257
   have u:=F7 hc258 h257
   refine rn0 5 s rfl fun a s=>?_
   refine wpList_nil ?_
   obtain rfl:=oi u
   exact tn ⟨Sv181,wj s d [] []⟩
  rintro a w ⟨Sv259,s,d⟩
  refine mv s rfl rfl fun a s=>?_
  obtain ⟨c272,hc272,u⟩:=bt u
  refine C7 11 (fun a w=>∃ Sv273,Sl 47 [(0,.string s1),(1,iv lo2),(2,iv hi3),(7,iv sv111),(35,.bool c272)] a∧Wd ⟨w0,S0,[]⟩ Sv273 [] [] w) ?_ ?_
  ·rcases Bool.eq_false_or_eq_true c258 with h271 | h271
   ·have s:=s.bT 24 rfl h271
    have u:=E9 hc272 h271
    refine rn0 11 s rfl fun a s=>?_
    refine wpList_nil ?_
    obtain rfl:=oi u
    exact tn ⟨Sv259,wj s d [] []⟩
   have s:=s.bF 24 rfl h271
   have u:=F7 hc272 h271
   refine rn0 2 s rfl fun a s=>?_
   obtain ⟨c275,h274,u⟩:=bt u
   refine I6 s (a7t runUnderlying9 rfl rfl h274) ⟨_,rfl,rfl⟩ rfl rfl fun a s=>?_
   refine I6 s (b0n (rfl) rfl) ⟨_,rfl,rfl⟩ rfl rfl fun a s=>?_
   refine I6 s (O5 rfl) ⟨_,rfl,rfl⟩ rfl rfl fun a s=>?_
   obtain ⟨c279,hc279,u⟩:=bt u
   refine C7 5 (fun a w=>∃ Sv280,Sl 47 [(0,.string s1),(1,iv lo2),(2,iv hi3),(7,iv sv111),(24,.bool false),(34,.bool c279)] a∧Wd ⟨w0,S0,[]⟩ Sv280 [] [] w) ?_ ?_
   ·rcases Bool.eq_false_or_eq_true (decide (48≤c275)) with h278 | h278
    ·have s:=s.bT 29 rfl h278
     have u:=E9 hc279 h278
     refine rn0 2 s rfl fun a s=>?_
     obtain ⟨c282,h281,u⟩:=bt u
     refine I6 s (a7t runUnderlying9 rfl rfl h281) ⟨_,rfl,rfl⟩ rfl rfl fun a s=>?_
     refine I6 s (b1j (rfl) rfl) ⟨_,rfl,rfl⟩ rfl rfl fun a s=>?_
     refine I6 s (X4 rfl rfl) ⟨_,rfl,rfl⟩ rfl rfl fun a s=>?_
     refine wpList_nil ?_
     obtain rfl:=oi u
     exact tn ⟨Sv259,wj s d [] []⟩
    have s:=s.bF 29 rfl h278
    have u:=F7 hc279 h278
    refine rn0 5 s rfl fun a s=>?_
    refine wpList_nil ?_
    obtain rfl:=oi u
    exact tn ⟨Sv259,wj s d [] []⟩
   rintro a w ⟨Sv280,s,d⟩
   refine sv s (b1G rfl rfl) rfl fun a s=>?_
   refine wpList_nil ?_
   obtain rfl:=oi u
   exact tn ⟨Sv280,wj s d [] []⟩
  rintro a w ⟨Sv273,s,d⟩
  refine rz0 1 s rfl fun a s=>?_
  refine cd s u rfl (fun u=>?_) fun u=>?_
  ·refine sz0 1 s rfl fun a s=>?_
   obtain rfl:=oi u
   have h285:=hd216 _ rfl
   subst h285
   exact wp_ret (A8 (j6 (j6 (A8 (j6 (rt s rfl (d.ret rfl)))))))
  refine wp_skip (l8 (tn (wp_region_lit (rn0 2 s rfl fun a s=>?_))))
  obtain ⟨i287,h286,u⟩:=bt u
  refine sv s (o8 rfl h286) rfl fun a s=>?_
  exact nl ⟨_,io u,Sv273,wj s d [] []⟩
 obtain ⟨rv289,u,h290⟩:=a0x u
 have h290:=(hd216 _ h290.symm).symm
 subst h290
 refine wp_exit (j5 (j5 (o9 (tn (sn0 5 s rfl fun a s=>?_)))))
 refine rA 5 41 [] s d rfl rfl rfl rfl rfl fun a s=>?_
 refine rz0 1 s rfl fun a s=>?_
 obtain rfl:=oi u
 exact q1 s rfl (d.ret rfl)
theorem b2i {w0 S0 s1 r} (u:a6C s1=some r) (hS:Dm S0 w0):Ck Tryz.prog 97 #[V52 s1] w0 S0 [] u6 r:=by
 refine en 26 func97 rfl hS rfl rfl rfl fun a s d=>?_
 refine sr (wb (C52 s1) s d rfl fun b2 a w s d=>?_)
 refine rz0 1 s rfl fun a s=>?_
 refine sn 2 [0] s d rfl rfl fun a s=>?_
 obtain ⟨rv4,h3,u⟩:=bt u
 refine cV s d (a4X h3 d.bdom) (j3 call137 rfl) rfl fun a w s d=>?_
 refine mv s rfl rfl fun a s=>?_
 obtain ⟨c18,hc18,u⟩:=bt u
 refine C7 4 (fun a w=>∃ Sv19,Sl 26 [(1,pt b2),(10,.bool c18)] a∧Wd ⟨w0,S0,[]⟩ Sv19 [.box b2 (C52 s1) 52] [] w) ?_ ?_
 ·rcases Bool.eq_false_or_eq_true rv4 with h17 | h17
  ·have s:=s.bT 6 rfl h17
   have u:=E9 hc18 h17
   refine rn 2 [0] s d rfl rfl fun a s=>?_
   obtain ⟨rv21,h20,u⟩:=bt u
   refine x9 s (a4X h20 d.bdom) (j3 call137 rfl) ⟨_,rfl,rfl⟩ rfl rfl ?_
   rintro v25 Sv22 w a h23 rfl s
   have d:=d.callB h23
   refine sv s (X4 rfl rfl) rfl fun a s=>?_
   refine wpList_nil ?_
   obtain rfl:=oi u
   exact tn ⟨S0,wj s d [0] []⟩
  have s:=s.bF 6 rfl h17
  have u:=F7 hc18 h17
  refine rn0 4 s rfl fun a s=>?_
  refine wpList_nil ?_
  obtain rfl:=oi u
  exact tn ⟨S0,wj s d [0] []⟩
 rintro a w ⟨Sv19,s,d⟩
 refine mv s rfl rfl fun a s=>?_
 obtain ⟨c45,hc45,u⟩:=bt u
 refine C7 9 (fun a w=>∃ Sv46,Sl 26 [(1,pt b2),(20,.bool c45)] a∧Wd ⟨w0,S0,[]⟩ Sv46 [.box b2 (C52 s1) 52] [] w) ?_ ?_
 ·rcases Bool.eq_false_or_eq_true c18 with h44 | h44
  ·have s:=s.bT 11 rfl h44
   have u:=E9 hc45 h44
   refine rn 2 [0] s d rfl rfl fun a s=>?_
   refine I6 s (y_eqlS rfl rfl) ⟨_,rfl,rfl⟩ rfl rfl fun a s=>?_
   refine I6 s (O5 rfl) ⟨_,rfl,rfl⟩ rfl rfl fun a s=>?_
   obtain ⟨c55,hc55,u⟩:=bt u
   refine C7 4 (fun a w=>∃ Sv56,Sl 26 [(1,pt b2),(11,.bool true),(19,.bool c55)] a∧Wd ⟨w0,S0,[]⟩ Sv56 [.box b2 (C52 s1) 52] [] w) ?_ ?_
   ·rcases Bool.eq_false_or_eq_true (s1.Location.toList == (⟨#[]⟩:ByteArray).toList) with h54 | h54
    ·have s:=s.bT 15 rfl h54
     have u:=E9 hc55 h54
     refine rn0 4 s rfl fun a s=>?_
     refine wpList_nil ?_
     obtain rfl:=oi u
     exact tn ⟨Sv19,wj s d [0] []⟩
    have s:=s.bF 15 rfl h54
    have u:=F7 hc55 h54
    refine rn 2 [0] s d rfl rfl fun a s=>?_
    obtain ⟨rv58,h57,u⟩:=bt u
    refine x9 s (a4X h57 d.bdom) (j3 call137 rfl) ⟨_,rfl,rfl⟩ rfl rfl ?_
    rintro v62 Sv59 w a h60 rfl s
    have d:=d.callB h60
    refine I6 s (b1G rfl rfl) ⟨_,rfl,rfl⟩ rfl rfl fun a s=>?_
    refine wpList_nil ?_
    obtain rfl:=oi u
    exact tn ⟨Sv19,wj s d [0] []⟩
   rintro a w ⟨Sv56,s,d⟩
   refine sv s (X4 rfl rfl) rfl fun a s=>?_
   refine wpList_nil ?_
   obtain rfl:=oi u
   exact tn ⟨Sv56,wj s d [0] []⟩
  have s:=s.bF 11 rfl h44
  have u:=F7 hc45 h44
  refine rn0 9 s rfl fun a s=>?_
  refine wpList_nil ?_
  obtain rfl:=oi u
  exact tn ⟨Sv19,wj s d [0] []⟩
 rintro a w ⟨Sv46,s,d⟩
 refine mv s rfl rfl fun a s=>?_
 obtain ⟨c72,hc72,u⟩:=bt u
 refine C7 4 (fun a w=>∃ Sv73,Sl 26 [(25,.bool c72)] a∧Wd ⟨w0,S0,[]⟩ Sv73 [] [] w) ?_ ?_
 ·rcases Bool.eq_false_or_eq_true c45 with h71 | h71
  ·have s:=s.bT 21 rfl h71
   have u:=E9 hc72 h71
   refine rn 2 [0] s d rfl rfl fun a s=>?_
   obtain ⟨rv75,h74,u⟩:=bt u
   refine x9 s (a4X h74 d.bdom) (j3 call137 rfl) ⟨_,rfl,rfl⟩ rfl rfl ?_
   rintro v79 Sv76 w a h77 rfl s
   have d:=d.callB h77
   refine sv s (X4 rfl rfl) rfl fun a s=>?_
   refine wpList_nil ?_
   obtain rfl:=oi u
   exact tn ⟨Sv46,wj s d [] []⟩
  have s:=s.bF 21 rfl h71
  have u:=F7 hc72 h71
  refine rn0 4 s rfl fun a s=>?_
  refine wpList_nil ?_
  obtain rfl:=oi u
  exact tn ⟨Sv46,wj s d [] []⟩
 rintro a w ⟨Sv73,s,d⟩
 refine rz0 1 s rfl fun a s=>?_
 obtain rfl:=oi u
 exact q1 s rfl (d.ret rfl)
theorem a8x {w0 S0 r1 r} (u:a5o r1=some r) (hS:Dm S0 w0):Ck Tryz.prog 70 #[V54 r1] w0 S0 [] u6 r:=by
 refine en 19 func70 rfl hS rfl rfl rfl fun a s d=>?_
 refine sr (wb (C54 r1) s d rfl fun b2 a w s d=>?_)
 refine rz0 1 s rfl fun a s=>?_
 refine sn 2 [0] s d rfl rfl fun a s=>?_
 obtain ⟨rv4,h3,u⟩:=bt u
 refine cV s d (O1 h3 d.bdom) (j3 call61 rfl) rfl fun a w s d=>?_
 refine mv s rfl rfl fun a s=>?_
 obtain ⟨c18,hc18,u⟩:=bt u
 refine C7 4 (fun a w=>∃ Sv19,Sl 19 [(1,pt b2),(10,.bool c18)] a∧Wd ⟨w0,S0,[]⟩ Sv19 [.box b2 (C54 r1) 54] [] w) ?_ ?_
 ·rcases Bool.eq_false_or_eq_true rv4 with h17 | h17
  ·have s:=s.bT 6 rfl h17
   have u:=E9 hc18 h17
   refine rn 2 [0] s d rfl rfl fun a s=>?_
   obtain ⟨rv21,h20,u⟩:=bt u
   refine x9 s (O1 h20 d.bdom) (j3 call61 rfl) ⟨_,rfl,rfl⟩ rfl rfl ?_
   rintro v25 Sv22 w a h23 rfl s
   have d:=d.callB h23
   refine sv s (X4 rfl rfl) rfl fun a s=>?_
   refine wpList_nil ?_
   obtain rfl:=oi u
   exact tn ⟨S0,wj s d [0] []⟩
  have s:=s.bF 6 rfl h17
  have u:=F7 hc18 h17
  refine rn0 4 s rfl fun a s=>?_
  refine wpList_nil ?_
  obtain rfl:=oi u
  exact tn ⟨S0,wj s d [0] []⟩
 rintro a w ⟨Sv19,s,d⟩
 refine mv s rfl rfl fun a s=>?_
 obtain ⟨c35,hc35,u⟩:=bt u
 refine C7 7 (fun a w=>∃ Sv36,Sl 19 [(18,.bool c35)] a∧Wd ⟨w0,S0,[]⟩ Sv36 [] [] w) ?_ ?_
 ·rcases Bool.eq_false_or_eq_true c18 with h34 | h34
  ·have s:=s.bT 11 rfl h34
   have u:=E9 hc35 h34
   refine rn 4 [0,0] s d rfl rfl fun a s=>?_
   obtain ⟨rv38,h37,u⟩:=bt u
   refine x9 s (b0b h37 d.bdom) (j3 call103 rfl) ⟨_,rfl,rfl⟩ rfl rfl ?_
   rintro v42 Sv39 w a h40 rfl s
   have d:=d.callB h40
   refine rn0 2 s rfl fun a s=>?_
   refine wpList_nil ?_
   obtain rfl:=oi u
   exact tn ⟨Sv19,wj s d [] []⟩
  have s:=s.bF 11 rfl h34
  have u:=F7 hc35 h34
  refine rn0 7 s rfl fun a s=>?_
  refine wpList_nil ?_
  obtain rfl:=oi u
  exact tn ⟨Sv19,wj s d [] []⟩
 rintro a w ⟨Sv36,s,d⟩
 refine rz0 1 s rfl fun a s=>?_
 obtain rfl:=oi u
 exact q1 s rfl (d.ret rfl)
theorem b1s {w0 S0 n1 r} (u:a5E n1=some r) (hS:Dm S0 w0):Ck Tryz.prog 138 #[iv n1] w0 S0 [] u6 r:=by
 refine en 5 func138 rfl hS rfl rfl rfl fun a s d=>?_
 refine sz0 1 s rfl fun a s=>?_
 refine sn0 1 s rfl fun a s=>?_
 obtain ⟨rv3,h2,u⟩:=bt u
 refine cV s d (O1 h2 d.bdom) (j3 call61 rfl) rfl fun a w s d=>?_
 refine rz0 1 s rfl fun a s=>?_
 obtain rfl:=oi u
 exact q1 s rfl (d.ret rfl)
theorem b0N {w0 S0 p2 k3 l1 r} (u:a4Y l1=some r) (hS:Dm S0 w0) (h4:(Sq p2 k3 l1).p S0 w0):Ck Tryz.prog 98 #[sl p2 k3 l1] w0 S0 [] u6 r:=by
 refine en 16 func98 rfl hS rfl rfl rfl fun a s d=>?_
 have d:=d.addE h4
 refine sz0 1 s rfl fun a s=>?_
 refine wp_seq (sz0 1 s rfl fun a s=>?_)
 refine wp_block (u7 (fun sv82 a w=>∃ Sv132,Sl 16 [(0,sl p2 k3 l1),(3,iv sv82)] a∧Wd ⟨w0,S0,[]⟩ Sv132 [] [Sq p2 k3 l1] w) 0 u ⟨S0,wj s d [] [0]⟩ ?_)
 repeat clear u
 rintro sv82 a w tv158 ⟨Sv132,s,d⟩ u hd157
 refine wp_seq (sz0 4 s rfl fun a s=>?_)
 refine cd s u rfl (fun u=>?_) fun u=>?_
 ·refine sk (wp_seq (wp_block (sn0 2 s rfl fun a s=>?_)))
  obtain ⟨x186,h184,u⟩:=bt u
  obtain ⟨b192,o193,q190,c191,h194,h187,h188,h189,h185⟩:=d.elemV 0 rfl h184
  have hsv195:=s
  have hwv196:=d
  subst h194
  have s:=hsv195
  have d:=hwv196
  obtain ⟨_,rfl,rfl⟩:=h185
  have d:=d.addE h189
  refine sv s (o6 runUnderlying22 sizeOf3 rfl rfl h187.1 h187.2 h188) rfl fun a s=>?_
  refine sv s (C8 (j:=0) (d.ceAt 0 rfl) rfl isAgg3 rfl) rfl fun a s=>?_
  obtain ⟨rv198,h197,u⟩:=bt u
  refine cV s d (b1s h197 d.bdom) (j3 call138 rfl) rfl fun a w s d=>?_
  refine rz0 1 s rfl fun a s=>?_
  refine cd s u rfl (fun u=>?_) fun u=>?_
  ·refine sz0 1 s rfl fun a s=>?_
   obtain rfl:=oi u
   have h206:=hd157 _ rfl
   subst h206
   exact wp_ret (A8 (j6 (j6 (A8 (j6 (rt s rfl (d.ret rfl)))))))
  refine wp_skip (l8 (tn (wp_region_lit (rn0 2 s rfl fun a s=>?_))))
  obtain ⟨i208,h207,u⟩:=bt u
  refine sv s (o8 rfl h207) rfl fun a s=>?_
  exact nl ⟨_,io u,Sv132,wj s d [] [1]⟩
 obtain ⟨rv209,u,h210⟩:=a0x u
 have h210:=(hd157 _ h210.symm).symm
 subst h210
 refine wp_exit (j5 (j5 (o9 (tn (sz0 1 s rfl fun a s=>?_)))))
 obtain rfl:=oi u
 exact q1 s rfl (d.ret rfl)
theorem a9g {w0 S0 start1 r2 k3 r} (u:a4J start1 r2 k3=some r) (hS:Dm S0 w0):Ck Tryz.prog 28 #[iv start1,V54 r2,iv k3] w0 S0 [] a7M r:=by
 refine en 29 func28 rfl hS rfl rfl rfl fun a s d=>?_
 refine sr (wb (C54 r2) s d rfl fun b4 a w s d=>?_)
 refine rz0 2 s rfl fun a s=>?_
 refine wp_seq (sn 1 [0] s d rfl rfl fun a s=>?_)
 obtain ⟨rv6,h5,u⟩:=bt u
 refine cV s d (a8x h5 d.bdom) (j3 call70 rfl) rfl fun a w s d=>?_
 refine rz0 1 s rfl fun a s=>?_
 refine cd s u rfl (fun u=>?_) fun u=>?_
 ·refine sz0 2 s rfl fun a s=>?_
  obtain rfl:=oi u
  exact wp_ret (j6 (Q8 s rfl (q9 rfl) (q9 rfl) (d.ret rfl)))
 refine sk (wp_seq (sn0 1 s rfl fun a s=>?_))
 obtain ⟨rv15,h14,u⟩:=bt u
 refine cV s d (O1 h14 d.bdom) (j3 call61 rfl) rfl fun a w s d=>?_
 refine rn0 2 s rfl fun a s=>?_
 obtain ⟨c29,hc29,u⟩:=bt u
 refine C7 4 (fun a w=>∃ Sv30,Sl 29 [(0,iv start1),(2,iv k3),(4,pt b4),(18,.bool c29)] a∧Wd ⟨w0,S0,[]⟩ Sv30 [.box b4 (C54 r2) 54] [] w) ?_ ?_
 ·rcases Bool.eq_false_or_eq_true (!rv15) with h28 | h28
  ·have s:=s.bT 14 rfl h28
   have u:=E9 hc29 h28
   refine rn0 4 s rfl fun a s=>?_
   refine wpList_nil ?_
   obtain rfl:=oi u
   exact tn ⟨S0,wj s d [0] []⟩
  have s:=s.bF 14 rfl h28
  have u:=F7 hc29 h28
  refine I6 s (O5 rfl) ⟨_,rfl,rfl⟩ rfl rfl fun a s=>?_
  obtain ⟨rv32,h31,u⟩:=bt u
  refine x9 s (O1 h31 d.bdom) (j3 call61 rfl) ⟨_,rfl,rfl⟩ rfl rfl ?_
  rintro v36 Sv33 w a h34 rfl s
  have d:=d.callB h34
  refine rn0 2 s rfl fun a s=>?_
  refine wpList_nil ?_
  obtain rfl:=oi u
  exact tn ⟨S0,wj s d [0] []⟩
 rintro a w ⟨Sv30,s,d⟩
 refine nl (cd s u rfl (fun u=>?_) fun u=>?_)
 ·refine sz0 2 s rfl fun a s=>?_
  obtain rfl:=oi u
  exact wp_ret (j6 (Q8 s rfl (q9 rfl) (q9 rfl) (d.ret rfl)))
 refine sk (sn 8 [0,0] s d rfl rfl fun a s=>?_)
 obtain ⟨quo41,h40,u⟩:=bt u
 refine sv s (b0W rfl rfl h40) rfl fun a s=>?_
 refine sv s (a9j rfl rfl) rfl fun a s=>?_
 obtain ⟨x43,h42,u⟩:=bt u
 refine sv s (o8 rfl h42) rfl fun a s=>?_
 refine rz0 1 s rfl fun a s=>?_
 obtain rfl:=oi u
 exact wp_ret (Q8 s rfl (q9 rfl) (q9 rfl) (d.ret rfl))
theorem J9 {w0 S0 p2 k3 r1 i5 r} (u:J4 r1 i5=some r) (hS:Dm S0 w0) (h4:(Sq p2 k3 r1.Samples).p S0 w0):Ck Tryz.prog 62 #[V56 r1 p2 k3,iv i5] w0 S0 [] j4 r:=by
 refine en 20 func62 rfl hS rfl rfl rfl fun a s d=>?_
 have d:=d.addE h4
 refine sr (wb (C56 r1 p2 k3) s d rfl fun b6 a w s d=>?_)
 refine rz0 1 s rfl fun a s=>?_
 refine sn 8 [0,0,0] s d rfl rfl fun a s=>?_
 obtain ⟨rv8,h7,u⟩:=bt u
 refine cV s d (a9g h7 d.bdom) (j3 call28 rfl) rfl fun a w s d=>?_
 refine rz0 5 s rfl fun a s=>?_
 refine sz0 2 s rfl fun a s=>?_
 obtain rfl:=oi u
 exact q1 s rfl (d.ret rfl)
theorem X8 {w0 S0 p2 k3 r1 r} (u:X7 r1=some r) (hS:Dm S0 w0) (h4:(Sq p2 k3 r1.Samples).p S0 w0):Ck Tryz.prog 60 #[V56 r1 p2 k3] w0 S0 [] u6 r:=by
 refine en 68 func60 rfl hS rfl rfl rfl fun a s d=>?_
 have d:=d.addE h4
 refine sr (wb (C56 r1 p2 k3) s d rfl fun b5 a w s d=>?_)
 refine rz0 1 s rfl fun a s=>?_
 refine wp_seq (sn 2 [0] s d rfl rfl fun a s=>?_)
 obtain ⟨rv7,h6,u⟩:=bt u
 refine cV s d (b2i h6 d.bdom) (j3 call97 rfl) rfl fun a w s d=>?_
 refine rn0 2 s rfl fun a s=>?_
 obtain ⟨c21,hc21,u⟩:=bt u
 refine C7 5 (fun a w=>∃ Sv22,Sl 68 [(1,pt b5),(12,.bool c21)] a∧Wd ⟨w0,S0,[]⟩ Sv22 [.box b5 (C56 r1 p2 k3) 56] [Sq p2 k3 r1.Samples] w) ?_ ?_
 ·rcases Bool.eq_false_or_eq_true (!rv7) with h20 | h20
  ·have s:=s.bT 7 rfl h20
   have u:=E9 hc21 h20
   refine rn0 5 s rfl fun a s=>?_
   refine wpList_nil ?_
   obtain rfl:=oi u
   exact tn ⟨S0,wj s d [0] [0]⟩
  have s:=s.bF 7 rfl h20
  have u:=F7 hc21 h20
  refine rn 2 [0] s d rfl rfl fun a s=>?_
  obtain ⟨rv24,h23,u⟩:=bt u
  refine x9 s (a8x h23 d.bdom) (j3 call70 rfl) ⟨_,rfl,rfl⟩ rfl rfl ?_
  rintro v28 Sv25 w a h26 rfl s
  have d:=d.callB h26
  refine rn0 2 s rfl fun a s=>?_
  refine wpList_nil ?_
  obtain rfl:=oi u
  exact tn ⟨S0,wj s d [0] [0]⟩
 rintro a w ⟨Sv22,s,d⟩
 refine mv s rfl rfl fun a s=>?_
 obtain ⟨c38,hc38,u⟩:=bt u
 refine C7 5 (fun a w=>∃ Sv39,Sl 68 [(1,pt b5),(18,.bool c38)] a∧Wd ⟨w0,S0,[]⟩ Sv39 [.box b5 (C56 r1 p2 k3) 56] [Sq p2 k3 r1.Samples] w) ?_ ?_
 ·rcases Bool.eq_false_or_eq_true c21 with h37 | h37
  ·have s:=s.bT 13 rfl h37
   have u:=E9 hc38 h37
   refine rn0 5 s rfl fun a s=>?_
   refine wpList_nil ?_
   obtain rfl:=oi u
   exact tn ⟨Sv22,wj s d [0] [0]⟩
  have s:=s.bF 13 rfl h37
  have u:=F7 hc38 h37
  refine rn 2 [0] s d rfl rfl fun a s=>?_
  obtain ⟨rv41,h40,u⟩:=bt u
  refine x9 s (O1 h40 d.bdom) (j3 call61 rfl) ⟨_,rfl,rfl⟩ rfl rfl ?_
  rintro v45 Sv42 w a h43 rfl s
  have d:=d.callB h43
  refine rn0 2 s rfl fun a s=>?_
  refine wpList_nil ?_
  obtain rfl:=oi u
  exact tn ⟨Sv22,wj s d [0] [0]⟩
 rintro a w ⟨Sv39,s,d⟩
 refine mv s rfl rfl fun a s=>?_
 obtain ⟨c55,hc55,u⟩:=bt u
 refine C7 5 (fun a w=>∃ Sv56,Sl 68 [(1,pt b5),(24,.bool c55)] a∧Wd ⟨w0,S0,[]⟩ Sv56 [.box b5 (C56 r1 p2 k3) 56] [Sq p2 k3 r1.Samples] w) ?_ ?_
 ·rcases Bool.eq_false_or_eq_true c38 with h54 | h54
  ·have s:=s.bT 19 rfl h54
   have u:=E9 hc55 h54
   refine rn0 5 s rfl fun a s=>?_
   refine wpList_nil ?_
   obtain rfl:=oi u
   exact tn ⟨Sv39,wj s d [0] [0]⟩
  have s:=s.bF 19 rfl h54
  have u:=F7 hc55 h54
  refine rn 2 [0] s d rfl rfl fun a s=>?_
  obtain ⟨rv58,h57,u⟩:=bt u
  refine x9 s (O1 h57 d.bdom) (j3 call61 rfl) ⟨_,rfl,rfl⟩ rfl rfl ?_
  rintro v62 Sv59 w a h60 rfl s
  have d:=d.callB h60
  refine rn0 2 s rfl fun a s=>?_
  refine wpList_nil ?_
  obtain rfl:=oi u
  exact tn ⟨Sv39,wj s d [0] [0]⟩
 rintro a w ⟨Sv56,s,d⟩
 refine mv s rfl rfl fun a s=>?_
 obtain ⟨c72,hc72,u⟩:=bt u
 refine C7 6 (fun a w=>∃ Sv73,Sl 68 [(1,pt b5),(31,.bool c72)] a∧Wd ⟨w0,S0,[]⟩ Sv73 [.box b5 (C56 r1 p2 k3) 56] [Sq p2 k3 r1.Samples] w) ?_ ?_
 ·rcases Bool.eq_false_or_eq_true c55 with h71 | h71
  ·have s:=s.bT 25 rfl h71
   have u:=E9 hc72 h71
   refine rn0 6 s rfl fun a s=>?_
   refine wpList_nil ?_
   obtain rfl:=oi u
   exact tn ⟨Sv56,wj s d [0] [0]⟩
  have s:=s.bF 25 rfl h71
  have u:=F7 hc72 h71
  refine rn 3 [0] s d rfl rfl fun a s=>?_
  obtain ⟨rv75,h74,u⟩:=bt u
  refine x9 s (O1 h74 d.bdom) (j3 call61 rfl) ⟨_,rfl,rfl⟩ rfl rfl ?_
  rintro v79 Sv76 w a h77 rfl s
  have d:=d.callB h77
  refine rn0 2 s rfl fun a s=>?_
  refine wpList_nil ?_
  obtain rfl:=oi u
  exact tn ⟨Sv56,wj s d [0] [0]⟩
 rintro a w ⟨Sv73,s,d⟩
 refine mv s rfl rfl fun a s=>?_
 refine rO 8 32 [0,0] s d rfl rfl rfl rfl rfl fun a s=>?_
 refine mv s rfl rfl fun a s=>?_
 obtain ⟨c90,hc90,u⟩:=bt u
 refine C7 5 (fun a w=>∃ Sv91,Sl 68 [(1,pt b5),(46,.bool c90)] a∧Wd ⟨w0,S0,[]⟩ Sv91 [.box b5 (C56 r1 p2 k3) 56] [Sq p2 k3 r1.Samples] w) ?_ ?_
 ·rcases Bool.eq_false_or_eq_true (c72 || (decide (16777216<(w64 (r1.First+(r1.Samples.length:Int)))))) with h89 | h89
  ·have s:=s.bT 41 rfl h89
   have u:=E9 hc90 h89
   refine rn0 5 s rfl fun a s=>?_
   refine wpList_nil ?_
   obtain rfl:=oi u
   exact tn ⟨Sv73,wj s d [0] [0]⟩
  have s:=s.bF 41 rfl h89
  have u:=F7 hc90 h89
  refine rn 2 [0] s d rfl rfl fun a s=>?_
  obtain ⟨rv93,h92,u⟩:=bt u
  refine x9 s (b0N h92 d.bdom (d.bE 0 rfl)) (j3 call98 rfl) ⟨_,rfl,rfl⟩ rfl rfl ?_
  rintro v97 Sv94 w a h95 rfl s
  have d:=d.callB h95
  refine rn0 2 s rfl fun a s=>?_
  refine wpList_nil ?_
  obtain rfl:=oi u
  exact tn ⟨Sv73,wj s d [0] [0]⟩
 rintro a w ⟨Sv91,s,d⟩
 refine nl (cd s u rfl (fun u=>?_) fun u=>?_)
 ·refine sz0 1 s rfl fun a s=>?_
  obtain rfl:=oi u
  exact wp_ret (j6 (rt s rfl (d.ret rfl)))
 refine sk (sn 2 [0] s d rfl rfl fun a s=>?_)
 obtain ⟨rv102,h101,u⟩:=bt u
 refine cV s d (O1 h101 d.bdom) (j3 call61 rfl) rfl fun a w s d=>?_
 refine mv s rfl rfl fun a s=>?_
 obtain ⟨c116,hc116,u⟩:=bt u
 refine C7 4 (fun a w=>∃ Sv117,Sl 68 [(1,pt b5),(54,.bool c116)] a∧Wd ⟨w0,S0,[]⟩ Sv117 [.box b5 (C56 r1 p2 k3) 56] [Sq p2 k3 r1.Samples] w) ?_ ?_
 ·rcases Bool.eq_false_or_eq_true rv102 with h115 | h115
  ·have s:=s.bT 50 rfl h115
   have u:=E9 hc116 h115
   refine rn 2 [0] s d rfl rfl fun a s=>?_
   obtain ⟨rv119,h118,u⟩:=bt u
   refine x9 s (O1 h118 d.bdom) (j3 call61 rfl) ⟨_,rfl,rfl⟩ rfl rfl ?_
   rintro v123 Sv120 w a h121 rfl s
   have d:=d.callB h121
   refine sv s (X4 rfl rfl) rfl fun a s=>?_
   refine wpList_nil ?_
   obtain rfl:=oi u
   exact tn ⟨Sv91,wj s d [0] [0]⟩
  have s:=s.bF 50 rfl h115
  have u:=F7 hc116 h115
  refine rn0 4 s rfl fun a s=>?_
  refine wpList_nil ?_
  obtain rfl:=oi u
  exact tn ⟨Sv91,wj s d [0] [0]⟩
 rintro a w ⟨Sv117,s,d⟩
 refine mv s rfl rfl fun a s=>?_
 obtain ⟨c133,hc133,u⟩:=bt u
 refine C7 4 (fun a w=>∃ Sv134,Sl 68 [(1,pt b5),(59,.bool c133)] a∧Wd ⟨w0,S0,[]⟩ Sv134 [.box b5 (C56 r1 p2 k3) 56] [Sq p2 k3 r1.Samples] w) ?_ ?_
 ·rcases Bool.eq_false_or_eq_true c116 with h132 | h132
  ·have s:=s.bT 55 rfl h132
   have u:=E9 hc133 h132
   refine rn 2 [0] s d rfl rfl fun a s=>?_
   obtain ⟨rv136,h135,u⟩:=bt u
   refine x9 s (O1 h135 d.bdom) (j3 call61 rfl) ⟨_,rfl,rfl⟩ rfl rfl ?_
   rintro v140 Sv137 w a h138 rfl s
   have d:=d.callB h138
   refine sv s (X4 rfl rfl) rfl fun a s=>?_
   refine wpList_nil ?_
   obtain rfl:=oi u
   exact tn ⟨Sv117,wj s d [0] [0]⟩
  have s:=s.bF 55 rfl h132
  have u:=F7 hc133 h132
  refine rn0 4 s rfl fun a s=>?_
  refine wpList_nil ?_
  obtain rfl:=oi u
  exact tn ⟨Sv117,wj s d [0] [0]⟩
 rintro a w ⟨Sv134,s,d⟩
 refine mv s rfl rfl fun a s=>?_
 obtain ⟨c150,hc150,u⟩:=bt u
 refine C7 7 (fun a w=>∃ Sv151,Sl 68 [(67,.bool c150)] a∧Wd ⟨w0,S0,[]⟩ Sv151 [] [] w) ?_ ?_
 ·rcases Bool.eq_false_or_eq_true c133 with h149 | h149
  ·have s:=s.bT 60 rfl h149
   have u:=E9 hc150 h149
   refine rn 4 [0,0] s d rfl rfl fun a s=>?_
   obtain ⟨rv153,h152,u⟩:=bt u
   refine x9 s (J9 h152 d.bdom (d.bE 0 rfl)) (j3 call62 rfl) ⟨_,rfl,rfl⟩ rfl rfl ?_
   rintro v157 Sv154 w a h155 rfl s
   have d:=d.callB h155
   refine rn0 2 s rfl fun a s=>?_
   refine wpList_nil ?_
   obtain rfl:=oi u
   exact tn ⟨Sv134,wj s d [] []⟩
  have s:=s.bF 60 rfl h149
  have u:=F7 hc150 h149
  refine rn0 7 s rfl fun a s=>?_
  refine wpList_nil ?_
  obtain rfl:=oi u
  exact tn ⟨Sv134,wj s d [] []⟩
 rintro a w ⟨Sv151,s,d⟩
 refine rz0 1 s rfl fun a s=>?_
 obtain rfl:=oi u
 exact q1 s rfl (d.ret rfl)
theorem b2M {w0 S0 p2 k3 l1 r} (u:a4M l1=some r) (hS:Dm S0 w0) (h4:(Sq p2 k3 l1).p S0 w0):Ck Tryz.prog 95 #[sl p2 k3 l1] w0 S0 [] u6 r:=by
 refine en 28 func95 rfl hS rfl rfl rfl fun a s d=>?_
 have d:=d.addE h4
 refine sz0 1 s rfl fun a s=>?_
 refine wp_seq (sz0 1 s rfl fun a s=>?_)
 refine wp_block (u7 (fun sv157 a w=>∃ Sv257,Sl 28 [(0,sl p2 k3 l1),(3,iv sv157)] a∧Wd ⟨w0,S0,[]⟩ Sv257 [] [Sq p2 k3 l1] w) 0 u ⟨S0,wj s d [] [0]⟩ ?_)
 repeat clear u
 rintro sv157 a w tv308 ⟨Sv257,s,d⟩ u hd307
 refine wp_seq (sz0 4 s rfl fun a s=>?_)
 refine cd s u rfl (fun u=>?_) fun u=>?_
 ·refine sk (wp_seq (wp_block (wp_seq ?_)))
  obtain ⟨x361,h359,u⟩:=bt u
  obtain ⟨b367,o368,q365,c366,h369,h362,h363,h364,h360⟩:=d.elemV 0 rfl h359
  have hsv370:=s
  have hwv371:=d
  subst h369
  have s:=hsv370
  have d:=hwv371
  obtain ⟨_,_,_,_,_,_,_,_,_,_,_,_,rfl,rfl,rfl,rfl,rfl,rfl,rfl,rfl,rfl,rfl,rfl,rfl,⟨p372,n373,k374,rfl,h375⟩⟩:=h360
  obtain rfl:=h375.1
  have d:=(d.addE (e:=SlA p372 _ k374 x361.Samples) h375).addE h364
  obtain ⟨rv377,h376,u⟩:=bt u
  obtain ⟨c402,hc402,u⟩:=bt u
  refine A9 (fun a w=>∃ Sv403,Sl 28 [(0,sl (some ⟨b367,o368,none⟩) k3 l1),(3,iv sv157),(27,.bool c402)] a∧Wd ⟨w0,S0,[]⟩ Sv403 [] [Sq (some ⟨b367,o368,none⟩) k3 l1] w) ?_ ?_
  ·rcases Bool.eq_false_or_eq_true (!rv377) with h404 | h404
   ·have h405:=E9 hc402 h404
    refine h_c [] [0] d rfl rfl (by kernel_rfl) rfl fun hC d=>?_
    refine gn 2 [0,1] [] s hC rfl rfl rfl fun a s=>?_
    refine gx s 2 rfl trivial rfl hC runUnderlying28 sizeOf56 rfl rfl h362 h363 fun a s=>?_
    refine gv s 3 rfl rfl hC (fun w hC=>G5 (j:=0) (hC.ceAt 0 rfl) rfl isAgg56 sizeOf56 rfl rfl) fun a s=>?_
    refine ho 4 rfl ?_
    refine cV s d (X8 h376 d.bdom (d.bE 1 rfl)) (j3 call60 rfl) rfl fun a w s d=>?_
    refine h_n [] [0] d rfl rfl fun hC=>?_
    refine gn 2 [5,6] [] s hC rfl rfl rfl fun a s=>?_
    have s:=s.bT 16 rfl h404
    refine gn 10 [7,8,9,10,11,12,13,14,15,16] [] s hC rfl rfl rfl fun a s=>?_
    refine gT s 17 rfl rfl hC rfl rfl h405 fun a s=>?_
    refine y7 (by kernel_rfl) ?_
    exact ⟨Sv257,wj s d [] [2]⟩
   have h411:=F7 hc402 h404
   obtain ⟨x414,h412,h411⟩:=H5 h411
   obtain ⟨q418,c419,h415,h416,h417,h413⟩:=d.elemK 2 rfl h412
   obtain ⟨_,_,_,_,_,_,_,_,_,_,_,_,rfl,rfl,rfl,rfl,rfl,rfl,rfl,rfl,rfl,rfl,rfl,rfl,⟨p420,n421,k422,rfl,h423⟩⟩:=h413
   obtain rfl:=h423.1
   have d:=(d.addE (e:=SlA p420 _ k422 x414.Samples) h423).addE h417
   obtain ⟨x426,h424,h411⟩:=H5 h411
   obtain ⟨q430,c431,h427,h428,h429,h425⟩:=d.elemK 4 rfl h424
   obtain ⟨_,_,_,_,_,_,_,_,_,_,_,_,rfl,rfl,rfl,rfl,rfl,rfl,rfl,rfl,rfl,rfl,rfl,rfl,⟨p432,n433,k434,rfl,h435⟩⟩:=h425
   obtain rfl:=h435.1
   have d:=(d.addE (e:=SlA p432 _ k434 x426.Samples) h435).addE h429
   refine h_c [] [0,2,4] d rfl rfl (by kernel_rfl) rfl fun hC d=>?_
   refine gn 2 [0,1] [] s hC rfl rfl rfl fun a s=>?_
   refine gx s 2 rfl trivial rfl hC runUnderlying28 sizeOf56 rfl rfl h362 h363 fun a s=>?_
   refine gv s 3 rfl rfl hC (fun w hC=>G5 (j:=0) (hC.ceAt 2 rfl) rfl isAgg56 sizeOf56 rfl rfl) fun a s=>?_
   refine ho 4 rfl ?_
   refine cV s d (X8 h376 d.bdom (d.bE 5 rfl)) (j3 call60 rfl) rfl fun a w s d=>?_
   refine h_n [] [0,2,4] d rfl rfl fun hC=>?_
   refine gn 2 [5,6] [] s hC rfl rfl rfl fun a s=>?_
   have s:=s.bF 16 rfl h404
   refine gn 2 [7,8] [] s hC rfl rfl rfl fun a s=>?_
   refine gx s 9 rfl ⟨_,rfl,rfl⟩ rfl hC runUnderlying28 sizeOf56 rfl rfl h415 h416 fun a s=>?_
   refine gt s 10 rfl ⟨_,rfl,rfl⟩ rfl hC (fun w hC=>l5 (o':=q418+0) runUnderlying56 rfl sizeOf52 rfl rfl rfl) fun a s=>?_
   refine gt s 11 rfl ⟨_,rfl,rfl⟩ rfl hC (fun w hC=>G5 (j:=0) (hC.ceAt 1 rfl) rfl isAgg52 sizeOf52 rfl rfl) fun a s=>?_
   refine gt s 12 rfl ⟨_,rfl,rfl⟩ rfl hC (fun w hC=>O5 rfl) fun a s=>?_
   refine gx s 13 rfl ⟨_,rfl,rfl⟩ rfl hC runUnderlying28 sizeOf56 rfl rfl h427 h428 fun a s=>?_
   refine gt s 14 rfl ⟨_,rfl,rfl⟩ rfl hC (fun w hC=>l5 (o':=q430+0) runUnderlying56 rfl sizeOf52 rfl rfl rfl) fun a s=>?_
   refine gt s 15 rfl ⟨_,rfl,rfl⟩ rfl hC (fun w hC=>G5 (j:=0) (hC.ceAt 0 rfl) rfl isAgg52 sizeOf52 rfl rfl) fun a s=>?_
   refine gt s 16 rfl ⟨_,rfl,rfl⟩ rfl hC (fun w hC=>a6V (by kernel_rfl) rfl rfl (R4 runUnderlying52 (by kernel_rfl) (EqF.cons1 rfl isAgg9 rfl rfl (a3G runUnderlying9) (EqF.cons1 rfl isAgg9 rfl rfl (a3G runUnderlying9) (EqF.cons1 rfl isAgg9 rfl rfl (a3G runUnderlying9) (EqF.cons1 rfl isAgg9 rfl rfl (a3G runUnderlying9) EqF.nil)))))) fun a s=>?_
   refine gF s 17 rfl rfl hC rfl rfl h411 fun a s=>?_
   refine y7 (by kernel_rfl) ?_
   exact ⟨Sv257,wj s d [] [6]⟩
  rintro a w ⟨Sv403,s,d⟩
  refine tn (cd s u rfl (fun u=>?_) fun u=>?_)
  ·refine sz0 1 s rfl fun a s=>?_
   obtain rfl:=oi u
   have h443:=hd307 _ rfl
   subst h443
   exact wp_ret (A8 (j6 (j6 (A8 (j6 (rt s rfl (d.ret rfl)))))))
  refine wp_skip (l8 (tn (wp_region_lit (rn0 2 s rfl fun a s=>?_))))
  obtain ⟨i445,h444,u⟩:=bt u
  refine sv s (o8 rfl h444) rfl fun a s=>?_
  exact nl ⟨_,io u,Sv403,wj s d [] [0]⟩
 obtain ⟨rv446,u,h447⟩:=a0x u
 have h447:=(hd307 _ h447.symm).symm
 subst h447
 refine wp_exit (j5 (j5 (o9 (tn (sz0 1 s rfl fun a s=>?_)))))
 obtain rfl:=oi u
 exact q1 s rfl (d.ret rfl)
theorem a4l {w0 S0 p2 k3 l1 r} (u:a0K l1=some r) (hS:Dm S0 w0) (h4:(Sq p2 k3 l1).p S0 w0):Ck Tryz.prog 56 #[sl p2 k3 l1] w0 S0 [] u6 r:=by
 refine en 10 func56 rfl hS rfl rfl rfl fun a s d=>?_
 have d:=d.addE h4
 refine sz0 1 s rfl fun a s=>?_
 refine sn0 4 s rfl fun a s=>?_
 obtain ⟨c13,hc13,u⟩:=bt u
 refine C7 3 (fun a w=>∃ Sv14,Sl 10 [(9,.bool c13)] a∧Wd ⟨w0,S0,[]⟩ Sv14 [] [] w) ?_ ?_
 ·rcases Bool.eq_false_or_eq_true (decide ((l1.length:Int)≤256)) with h12 | h12
  ·have s:=s.bT 6 rfl h12
   have u:=E9 hc13 h12
   refine I6 s (O5 rfl) ⟨_,rfl,rfl⟩ rfl rfl fun a s=>?_
   obtain ⟨rv16,h15,u⟩:=bt u
   refine x9 s (b2M h15 d.bdom (d.bE 0 rfl)) (j3 call95 rfl) ⟨_,rfl,rfl⟩ rfl rfl ?_
   rintro v20 Sv17 w a h18 rfl s
   have d:=d.callB h18
   refine sv s (X4 rfl rfl) rfl fun a s=>?_
   refine wpList_nil ?_
   obtain rfl:=oi u
   exact tn ⟨S0,wj s d [] []⟩
  have s:=s.bF 6 rfl h12
  have u:=F7 hc13 h12
  refine rn0 3 s rfl fun a s=>?_
  refine wpList_nil ?_
  obtain rfl:=oi u
  exact tn ⟨S0,wj s d [] []⟩
 rintro a w ⟨Sv14,s,d⟩
 refine rz0 1 s rfl fun a s=>?_
 obtain rfl:=oi u
 exact q1 s rfl (d.ret rfl)
theorem a7Z {w0 S0 p2 k3 l1 from5 to6 r} (u:a4r l1 from5 to6=some r) (hS:Dm S0 w0) (h4:(Sq p2 k3 l1).p S0 w0):Ck Tryz.prog 77 #[sl p2 k3 l1,iv from5,iv to6] w0 S0 [] j4 r:=by
 refine en 21 func77 rfl hS rfl rfl rfl fun a s d=>?_
 have d:=d.addE h4
 refine sz0 1 s rfl fun a s=>?_
 refine wp_seq (sn0 1 s rfl fun a s=>?_)
 obtain ⟨rv8,h7,u⟩:=bt u
 refine cV s d (a4l h7 d.bdom (d.bE 0 rfl)) (j3 call56 rfl) rfl fun a w s d=>?_
 refine rz0 1 s rfl fun a s=>?_
 refine cd s u rfl (fun u=>?_) fun u=>?_
 ·refine sz0 1 s rfl fun a s=>?_
  obtain rfl:=oi u
  exact wp_ret (j6 (rt s rfl (d.ret rfl)))
 refine sk (wp_seq (sn0 3 s rfl fun a s=>?_))
 refine rO 4 12 [] s d rfl rfl rfl rfl rfl fun a s=>?_
 refine mv s rfl rfl fun a s=>?_
 refine rO 3 17 [] s d rfl rfl rfl rfl rfl fun a s=>?_
 refine nl (cd s u rfl (fun u=>?_) fun u=>?_)
 ·refine sz0 1 s rfl fun a s=>?_
  obtain rfl:=oi u
  exact wp_ret (j6 (rt s rfl (d.ret rfl)))
 refine sk (sz0 1 s rfl fun a s=>?_)
 obtain rfl:=oi u
 exact q1 s rfl (d.ret rfl)
abbrev a5f (w0:World) (X:List Nat) (r:(Span × Int)):Rd:=fun S w v=>v=.tuple #[V71 r.1,iv r.2]
theorem a5e {w0 S0 p2 k3 r1 r} (u:a2D r1=some r) (hS:Dm S0 w0) (h4:(Sq p2 k3 r1.Samples).p S0 w0):Ck Tryz.prog 31 #[V56 r1 p2 k3] w0 S0 [] a5f r:=by
 refine en 16 func31 rfl hS rfl rfl rfl fun a s d=>?_
 have d:=d.addE h4
 refine sr (wb (C56 r1 p2 k3) s d rfl fun b5 a w s d=>?_)
 refine wa [iv 0,iv 0] s d zeroValue71 fun b6 a w s d=>?_
 refine rz0 1 s rfl fun a s=>?_
 refine wp_seq (sn 1 [1] s d rfl rfl fun a s=>?_)
 obtain ⟨rv8,h7,u⟩:=bt u
 refine cV s d (X8 h7 d.bdom (d.bE 0 rfl)) (j3 call60 rfl) rfl fun a w s d=>?_
 refine rz0 1 s rfl fun a s=>?_
 refine cd s u rfl (fun u=>?_) fun u=>?_
 ·refine sr (sv s (D7 (vs:=[]) a6t rfl rfl) rfl fun a s=>?_)
  refine ws [iv 0,iv 0] s d 0 rfl rfl rfl sizeOf71 fun a w s d=>?_
  refine rz0 1 s rfl fun a s=>?_
  obtain rfl:=oi u
  exact wp_ret (j6 (Q8 s rfl (K4 d 0 rfl rfl isAgg71 sizeOf71 rfl) (q9 rfl) (d.ret rfl)))
 refine sk (wp_seq ?_)
 obtain ⟨rv17,h16,u⟩:=bt u
 obtain ⟨rv19,h18,u⟩:=bt u
 refine A9 (fun a w=>∃ Sv20,Sl 16 [(2,pt b6),(3,iv 0)] a∧Wd ⟨w0,S0,[]⟩ Sv20 [.box b6 [iv rv17,iv rv19] 71] [] w) ?_ ?_
 ·refine h_c [1] [] d rfl rfl (by kernel_rfl) rfl fun hC d=>?_
  refine gn 5 [0,2,3,4,5] [0,0,0] s hC rfl rfl rfl fun a s=>?_
  refine ho 1 rfl ?_
  refine cV s d (J9 h16 d.bdom (d.bE 0 rfl)) (j3 call62 rfl) rfl fun a w s d=>?_
  refine h_n [1] [] d rfl rfl fun hC=>?_
  refine ho 6 rfl ?_
  refine cV s d (J9 h18 d.bdom (d.bE 0 rfl)) (j3 call62 rfl) rfl fun a w s d=>?_
  refine h_n [1] [] d rfl rfl fun hC=>?_
  refine gv s 7 rfl rfl hC (fun w hC=>D7 (vs:=[(0,iv rv17),(1,iv rv19)]) a6t rfl rfl) fun a s=>?_
  refine ho 8 rfl ?_
  refine ws [iv rv17,iv rv19] s d 0 rfl rfl rfl sizeOf71 fun a w s d=>?_
  refine h_n [1] [] d rfl rfl fun hC=>?_
  refine gv s 9 rfl rfl hC (fun w hC=>R8 rfl) fun a s=>?_
  refine y7 (by kernel_rfl) ?_
  exact ⟨S0,wj s d [0] []⟩
 rintro a w ⟨Sv20,s,d⟩
 refine tn ?_
 obtain rfl:=oi u
 exact wp_ret (Q8 s rfl (K4 d 0 rfl rfl isAgg71 sizeOf71 rfl) (q9 rfl) (d.ret rfl))
theorem a0b {w0 S0 p2 k3 l1 r} (u:X0 l1=some r) (hS:Dm S0 w0) (h4:(Sq p2 k3 l1).p S0 w0):Ck Tryz.prog 55 #[sl p2 k3 l1] w0 S0 [] C9 r:=by
 refine en 117 func55 rfl hS rfl rfl rfl fun a s d=>?_
 have d:=d.addE h4
 refine sz0 1 s rfl fun a s=>?_
 refine sz0 1 s rfl fun a s=>?_
 refine wp_seq (sz0 1 s rfl fun a s=>?_)
 obtain ⟨e539,h1541,u⟩:=bt u
 refine q8 (fun a w=>∃ c540 p541 k542 Sv543,Sl 117 [(3,sl p541 k542 e539)] a∧Wd ⟨w0,S0,[]⟩ Sv543 [.row p541 e539.length k542 c540 71 2] [l7 c540 e539] w) ?_ ?_
 ·refine wp_block ?_
  have d:=d.nilRow Span 71
  refine u7 (fun sv5 a w=>∃ c358 p359 k360 Sv361,Sl 117 [(0,sl p2 k3 l1),(3,sl p359 k360 sv5.1),(4,iv sv5.2)] a∧Wd ⟨w0,S0,[]⟩ Sv361 [.row p359 sv5.1.length k360 c358 71 2] [Sq p2 k3 l1,l7 c358 sv5.1] w) (([]:List Span),0) h1541 ⟨[],none,0,S0,wj s d [0] [1,0]⟩ ?_
  clear h1541
  repeat clear u
  rintro sv5 a w tv537 ⟨c358,p359,k360,Sv361,s,d⟩ u hd536
  refine wp_seq (sz0 4 s rfl fun a s=>?_)
  refine cd s u rfl (fun u=>?_) fun u=>?_
  ·refine sk (wp_seq (q8 (fun a w=>∃ (sorted716:(List Span)) (c712 p713 k714 Sv715:_),a3H sv5 sorted716=some tv537∧Sl 117 [(0,sl p2 k3 l1),(3,sl p713 k714 sorted716),(4,iv sv5.2)] a∧Wd ⟨w0,S0,[]⟩ Sv715 [.row p713 sorted716.length k714 c712 71 2] [Sq p2 k3 l1,l7 c712 sorted716] w) ?_ ?_))
   ·refine wp_block (wp_seq (wp_seq ?_))
    obtain ⟨x721,h719,u⟩:=bt u
    obtain ⟨b727,o728,q725,c726,h729,h722,h723,h724,h720⟩:=d.elemV 0 rfl h719
    have hsv730:=s
    have hwv731:=d
    subst h729
    have s:=hsv730
    have d:=hwv731
    obtain ⟨_,_,rfl,rfl,rfl⟩:=h720
    have d:=d.addE h724
    obtain ⟨x734,h732,u⟩:=bt u
    obtain ⟨q738,c739,h735,h736,h737,h733⟩:=d.elemK 1 rfl h732
    obtain ⟨_,_,rfl,rfl,rfl⟩:=h733
    have d:=d.addE h737
    refine A9 (fun a w=>∃ Sv740,Sl 117 [(0,sl (some ⟨b727,o728,none⟩) k3 l1),(3,sl p359 k360 sv5.1),(4,iv sv5.2),(25,.bool (decide (x734.To≤x721.From)))] a∧Wd ⟨w0,S0,[]⟩ Sv740 [.row p359 sv5.1.length k360 c358 71 2] [Sq (some ⟨b727,o728,none⟩) k3 l1,l7 c358 sv5.1] w) ?_ ?_
    ·refine h_c [0] [0,1] d rfl rfl (by kernel_rfl) rfl fun hC d=>?_
     refine gn 2 [0,1] [] s hC rfl rfl rfl fun a s=>?_
     refine gx s 2 rfl trivial rfl hC runUnderlying30 sizeOf71 rfl rfl h722 h723 fun a s=>?_
     refine gv s 3 rfl rfl hC (fun w hC=>l5 (o':=q725+0) runUnderlying71 rfl sizeOf3 rfl rfl rfl) fun a s=>?_
     refine gv s 4 rfl rfl hC (fun w hC=>C8 (j:=0) (hC.ceAt 1 rfl) rfl isAgg3 rfl) fun a s=>?_
     refine gn 2 [5,6] [] s hC rfl rfl rfl fun a s=>?_
     refine gx s 7 rfl trivial rfl hC runUnderlying30 sizeOf71 rfl rfl h735 h736 fun a s=>?_
     refine gv s 8 rfl rfl hC (fun w hC=>l5 (o':=q738+1) runUnderlying71 rfl sizeOf3 rfl rfl rfl) fun a s=>?_
     refine gv s 9 rfl rfl hC (fun w hC=>C8 (j:=1) (hC.ceAt 0 rfl) rfl isAgg3 rfl) fun a s=>?_
     refine gv s 10 rfl rfl hC (fun w hC=>b0n rfl rfl) fun a s=>?_
     refine y7 (by kernel_rfl) ?_
     exact ⟨Sv361,wj s d [0] [2,3]⟩
    rintro a w ⟨Sv740,s,d⟩
    refine tn (cd s u rfl (fun u=>?_) fun u=>?_)
    ·exact wp_exit (j5 (o9 (tn ⟨sv5.1,c358,p359,k360,Sv740,u,wj s d [0] [0,1]⟩)))
    refine sk (sn0 2 s rfl fun a s=>?_)
    obtain ⟨k744,h743,u⟩:=bt u
    refine sv s (o8 rfl h743) rfl fun a s=>?_
    refine nl (wp_seq ?_)
    obtain ⟨e829,h943,u⟩:=bt u
    refine q8 (fun a w=>∃ Sv830,Sl 117 [(0,sl (some ⟨b727,o728,none⟩) k3 l1),(3,sl p359 k360 sv5.1),(4,iv sv5.2),(5,iv e829)] a∧Wd ⟨w0,S0,[]⟩ Sv830 [.row p359 sv5.1.length k360 c358 71 2] [Sq (some ⟨b727,o728,none⟩) k3 l1,l7 c358 sv5.1] w) ?_ ?_
    ·refine wp_block (u7 (fun sv745 a w=>∃ Sv799,Sl 117 [(0,sl (some ⟨b727,o728,none⟩) k3 l1),(3,sl p359 k360 sv5.1),(4,iv sv5.2),(5,iv sv745)] a∧Wd ⟨w0,S0,[]⟩ Sv799 [.row p359 sv5.1.length k360 c358 71 2] [Sq (some ⟨b727,o728,none⟩) k3 l1,l7 c358 sv5.1] w) k744 h943 ⟨Sv740,wj s d [0] [0,1]⟩ ?_)
     clear h943
     repeat clear u
     rintro sv745 a w tv827 ⟨Sv799,s,d⟩ u hd826
     refine wp_seq (wp_seq ?_)
     obtain ⟨c852,hc852,u⟩:=bt u
     refine A9 (fun a w=>∃ Sv853,Sl 117 [(0,sl (some ⟨b727,o728,none⟩) k3 l1),(3,sl p359 k360 sv5.1),(4,iv sv5.2),(5,iv sv745),(43,.bool c852)] a∧Wd ⟨w0,S0,[]⟩ Sv853 [.row p359 sv5.1.length k360 c358 71 2] [Sq (some ⟨b727,o728,none⟩) k3 l1,l7 c358 sv5.1] w) ?_ ?_
     ·rcases Bool.eq_false_or_eq_true (decide (0<sv745)) with h854 | h854
      ·have h855:=E9 hc852 h854
       obtain ⟨x858,h856,h855⟩:=H5 h855
       obtain ⟨b865,q862,c863,h866,h859,h860,h864,h857⟩:=d.elemRV (α:=Span) 0 rfl 1 rfl h856
       have hsv867:=s
       have hwv868:=d
       subst h866
       have s:=hsv867
       have d:=hwv868
       obtain ⟨_,_,rfl,rfl,rfl⟩:=h857
       obtain ⟨x871,h869,h855⟩:=H5 h855
       obtain ⟨q875,c876,h872,h873,h874,h870⟩:=d.elemK 0 rfl h869
       obtain ⟨_,_,rfl,rfl,rfl⟩:=h870
       have d:=d.addE h874
       refine h_c [0] [0] d rfl rfl (by kernel_rfl) rfl fun hC d=>?_
       refine gn 3 [0,1,2] [] s hC rfl rfl rfl fun a s=>?_
       have s:=s.bT 30 rfl h854
       refine gn 3 [3,4,5] [] s hC rfl rfl rfl fun a s=>?_
       refine gx s 6 rfl ⟨_,rfl,rfl⟩ rfl hC runUnderlying30 sizeOf71 rfl rfl h859 h860 fun a s=>?_
       refine gt s 7 rfl ⟨_,rfl,rfl⟩ rfl hC (fun w hC=>l5 (o':=q862+0) runUnderlying71 rfl sizeOf3 rfl rfl rfl) fun a s=>?_
       refine gt s 8 rfl ⟨_,rfl,rfl⟩ rfl hC (fun w hC=>A7 (j:=0) (hC.ownAt 0 rfl) rfl isAgg3 h864 rfl) fun a s=>?_
       refine gn 2 [9,10] [] s hC rfl rfl rfl fun a s=>?_
       refine gx s 11 rfl ⟨_,rfl,rfl⟩ rfl hC runUnderlying30 sizeOf71 rfl rfl h872 h873 fun a s=>?_
       refine gt s 12 rfl ⟨_,rfl,rfl⟩ rfl hC (fun w hC=>l5 (o':=q875+0) runUnderlying71 rfl sizeOf3 rfl rfl rfl) fun a s=>?_
       refine gt s 13 rfl ⟨_,rfl,rfl⟩ rfl hC (fun w hC=>C8 (j:=0) (hC.ceAt 0 rfl) rfl isAgg3 rfl) fun a s=>?_
       refine gt s 14 rfl ⟨_,rfl,rfl⟩ rfl hC (fun w hC=>y_gtr rfl rfl) fun a s=>?_
       refine gT s 15 rfl rfl hC rfl rfl h855 fun a s=>?_
       refine y7 (by kernel_rfl) ?_
       exact ⟨Sv799,wj s d [0] [1,2]⟩
      have h877:=F7 hc852 h854
      refine h_c [0] [] d rfl rfl (by kernel_rfl) rfl fun hC d=>?_
      refine gn 3 [0,1,2] [] s hC rfl rfl rfl fun a s=>?_
      have s:=s.bF 30 rfl h854
      refine gn 12 [3,4,5,6,7,8,9,10,11,12,13,14] [] s hC rfl rfl rfl fun a s=>?_
      refine gF s 15 rfl rfl hC rfl rfl h877 fun a s=>?_
      refine y7 (by kernel_rfl) ?_
      exact ⟨Sv799,wj s d [0] [0,1]⟩
     rintro a w ⟨Sv853,s,d⟩
     refine tn (cd s u rfl (fun u=>?_) fun u=>?_)
     ·refine sk (wp_block (wp_region_lit (rn0 2 s rfl fun a s=>?_)))
      obtain ⟨k883,h882,u⟩:=bt u
      refine sv s (o8 rfl h882) rfl fun a s=>?_
      refine wpList_nil ?_
      exact l8 (tn ⟨_,io u,Sv853,wj s d [0] [0,1]⟩)
     refine wp_exit (j5 (j5 (o9 ?_)))
     obtain rfl:=oi u
     have h884:=hd826 _ rfl
     subst h884
     exact tn ⟨Sv853,wj s d [0] [0,1]⟩
    rintro a w ⟨Sv830,s,d⟩
    refine tn (sn0 3 s rfl fun a s=>?_)
    obtain ⟨x887,h885,u⟩:=bt u
    obtain ⟨q891,c892,h888,h889,h890,h886⟩:=d.elemK 0 rfl h885
    obtain ⟨_,_,rfl,rfl,rfl⟩:=h886
    have d:=d.addE h890
    refine sv s (o6 runUnderlying30 sizeOf71 rfl rfl h888.1 h888.2 h889) rfl fun a s=>?_
    refine sv s (G5 (j:=0) (d.ceAt 0 rfl) rfl isAgg71 sizeOf71 rfl rfl) rfl fun a s=>?_
    refine o7 (α:=Span) (vs:=[V71 x887]) (cs:=(C71 x887)) (xs:=([x887]:List Span)) s d a3o rfl rfl rfl rfl rfl rfl ⟨⟨_,_,rfl,rfl,rfl⟩,rfl⟩ rfl trivial rfl fun b894 a w s d=>?_
    obtain ⟨l896,h895,u⟩:=bt u
    refine F4 (α:=Span) s d a3o 1 rfl rfl rfl 3 rfl 0 rfl 0 rfl h895 rfl trivial ?_
    intro p897 k898 c899 a w s d
    refine rz0 1 s rfl fun a s=>?_
    refine wp_seq ?_
    obtain ⟨l904,h900,u⟩:=bt u
    obtain ⟨p902,k903,h901⟩:=a5h (α:=Span) d 1 rfl h900
    obtain ⟨l909,h905,u⟩:=bt u
    obtain ⟨p907,k908,h906⟩:=a5h (α:=Span) d 1 rfl h905
    obtain ⟨l910,h911,u⟩:=bt u
    refine A9 (fun a w=>∃ Sv914 c912,Sl 117 [(0,sl (some ⟨b727,o728,none⟩) k3 l1),(3,sl p897 k898 l910),(4,iv sv5.2),(5,iv e829)] a∧Wd ⟨w0,S0,[]⟩ Sv914 [.row p897 l910.length k898 c912 71 2] [Sq (some ⟨b727,o728,none⟩) k3 l1,l7 c912 l910] w) ?_ ?_
    ·refine h_c [0] [2] d rfl rfl (by kernel_rfl) rfl fun hC d=>?_
     refine gn 3 [0,1,2] [] s hC rfl rfl rfl fun a s=>?_
     refine gv s 3 rfl rfl hC (fun w hC=>a4E runUnderlying30 sizeOf71 rfl ⟨_,rfl⟩ (by exact rfl) h901) fun a s=>?_
     refine gn 2 [4,5] [] s hC rfl rfl rfl fun a s=>?_
     refine gv s 6 rfl rfl hC (fun w hC=>a4E runUnderlying30 sizeOf71 rfl ⟨_,rfl⟩ (by exact rfl) h906) fun a s=>?_
     refine ho 7 rfl ?_
     obtain ⟨ds_,h917⟩:=b5t (d.ownAt 1 rfl) (d.envAt 0 rfl) h905 h906
     refine b3V (α:=Span) s d 1 rfl 0 rfl runUnderlying30 runUnderlying30 sizeOf71 (by decide) h900 h901 rfl rfl rfl h917.1 h917.2.1 h917.2.2 rfl trivial ?_
     intro c912 a w s d
     rw [Option.some.inj h911] at d
     have h913:=(a5M h900 h911)
     try have s:=s.fl 3 rfl h913
     try have s:=s.fl 53 rfl h913
     try have s:=s.fl 57 rfl h913
     refine h_n [0] [3] d rfl rfl fun hC=>?_
     refine y7 (by kernel_rfl) ?_
     exact ⟨Sv830,c912,wj s d [1] [4,0]⟩
    rintro a w ⟨Sv914,c912,s,d⟩
    refine tn (wp_region_lit (rn0 4 s rfl fun a s=>?_))
    obtain ⟨x920,h918,u⟩:=bt u
    obtain ⟨q924,c925,h921,h922,h923,h919⟩:=d.elemK 0 rfl h918
    obtain ⟨_,_,rfl,rfl,rfl⟩:=h919
    have d:=d.addE h923
    refine sv s (o6 runUnderlying30 sizeOf71 rfl rfl h921.1 h921.2 h922) rfl fun a s=>?_
    refine sv s (G5 (j:=0) (d.ceAt 0 rfl) rfl isAgg71 sizeOf71 rfl rfl) rfl fun a s=>?_
    obtain ⟨x928,h926,u⟩:=bt u
    obtain ⟨b935,q932,c933,h936,h929,h930,h934,h927⟩:=d.elemRV (α:=Span) 0 rfl 2 rfl h926
    have hsv937:=s
    have hwv938:=d
    subst h936
    have s:=hsv937
    have d:=hwv938
    obtain ⟨_,_,rfl,rfl,rfl⟩:=h927
    refine sv s (o6 runUnderlying30 sizeOf71 rfl rfl h929.1 h929.2 h930) rfl fun a s=>?_
    obtain ⟨l940,h939,u⟩:=bt u
    refine a2M (α:=Span) s d 0 rfl 2 rfl h930 rfl rfl sizeOf71 rfl h939 ⟨_,_,rfl,rfl,rfl⟩ trivial ?_
    intro c941 a w s d
    have h942:=Y0 h939
    try have s:=s.fl 3 rfl h942
    try have s:=s.fl 61 rfl h942
    refine wpList_nil ?_
    exact l8 (tn ⟨l940,c941,(ad b935),k898,Sv914,u,wj s d [0] [2,0]⟩)
   rintro a w ⟨sorted716,c712,p713,k714,Sv715,u,s,d⟩
   refine tn (wp_region_lit (rn0 2 s rfl fun a s=>?_))
   obtain ⟨i718,h717,u⟩:=bt u
   refine sv s (o8 rfl h717) rfl fun a s=>?_
   exact nl ⟨_,io u,c712,p713,k714,Sv715,wj s d [0] [0,1]⟩
  refine wp_exit (j5 (j5 (o9 ?_)))
  obtain rfl:=oi u
  have h944:=hd536 _ rfl
  subst h944
  exact tn ⟨c358,p359,k360,Sv361,wj s d [0] [1]⟩
 rintro a w ⟨c540,p541,k542,Sv543,s,d⟩
 refine tn (sz0 1 s rfl fun a s=>?_)
 refine wp_seq (sz0 1 s rfl fun a s=>?_)
 obtain ⟨e1248,h1540,u⟩:=bt u
 refine q8 (fun a w=>∃ c1249 p1250 k1251 Sv1252,Sl 117 [(6,sl p1250 k1251 e1248)] a∧Wd ⟨w0,S0,[]⟩ Sv1252 [.row p1250 e1248.length k1251 c1249 71 2] [l7 c1249 e1248] w) ?_ ?_
 ·refine wp_block ?_
  have d:=d.nilRow Span 71
  refine u7 (fun sv945 a w=>∃ c1142 p1143 k1144 Sv1145,Sl 117 [(3,sl p541 k542 e539),(6,sl p1143 k1144 sv945.1),(7,iv sv945.2)] a∧Wd ⟨w0,S0,[]⟩ Sv1145 [.row p541 e539.length k542 c540 71 2,.row p1143 sv945.1.length k1144 c1142 71 2] [l7 c540 e539,l7 c1142 sv945.1] w) (([]:List Span),0) h1540 ⟨[],none,0,Sv543,wj s d [1,0] [1,0]⟩ ?_
  clear h1540
  repeat clear u
  rintro sv945 a w tv1246 ⟨c1142,p1143,k1144,Sv1145,s,d⟩ u hd1245
  refine wp_seq (sz0 4 s rfl fun a s=>?_)
  refine cd s u rfl (fun u=>?_) fun u=>?_
  ·refine sk (wp_seq (wp_block (sn0 2 s rfl fun a s=>?_)))
   obtain ⟨n1352,h1351,u⟩:=bt u
   refine sv s (o8 rfl h1351) rfl fun a s=>?_
   refine nl (wp_seq ?_)
   obtain ⟨c1379,hc1379,u⟩:=bt u
   refine A9 (fun a w=>∃ Sv1380,Sl 117 [(3,sl p541 k542 e539),(6,sl p1143 k1144 sv945.1),(7,iv sv945.2),(8,iv n1352),(91,.bool c1379)] a∧Wd ⟨w0,S0,[]⟩ Sv1380 [.row p541 e539.length k542 c540 71 2,.row p1143 sv945.1.length k1144 c1142 71 2] [l7 c540 e539,l7 c1142 sv945.1] w) ?_ ?_
   ·rcases Bool.eq_false_or_eq_true (decide (0<n1352)) with h1381 | h1381
    ·have h1382:=E9 hc1379 h1381
     obtain ⟨x1385,h1383,h1382⟩:=H5 h1382
     obtain ⟨b1392,q1389,c1390,h1393,h1386,h1387,h1391,h1384⟩:=d.elemRV (α:=Span) 0 rfl 0 rfl h1383
     have hsv1394:=s
     have hwv1395:=d
     subst h1393
     have s:=hsv1394
     have d:=hwv1395
     obtain ⟨_,_,rfl,rfl,rfl⟩:=h1384
     obtain ⟨x1398,h1396,h1382⟩:=H5 h1382
     obtain ⟨b1405,q1402,c1403,h1406,h1399,h1400,h1404,h1397⟩:=d.elemRV (α:=Span) 1 rfl 1 rfl h1396
     have hsv1407:=s
     have hwv1408:=d
     subst h1406
     have s:=hsv1407
     have d:=hwv1408
     obtain ⟨_,_,rfl,rfl,rfl⟩:=h1397
     refine h_c [0,1] [] d rfl rfl (by kernel_rfl) rfl fun hC d=>?_
     refine gn 3 [0,1,2] [] s hC rfl rfl rfl fun a s=>?_
     have s:=s.bT 78 rfl h1381
     refine gn 2 [3,4] [] s hC rfl rfl rfl fun a s=>?_
     refine gx s 5 rfl ⟨_,rfl,rfl⟩ rfl hC runUnderlying30 sizeOf71 rfl rfl h1386 h1387 fun a s=>?_
     refine gt s 6 rfl ⟨_,rfl,rfl⟩ rfl hC (fun w hC=>l5 (o':=q1389+0) runUnderlying71 rfl sizeOf3 rfl rfl rfl) fun a s=>?_
     refine gt s 7 rfl ⟨_,rfl,rfl⟩ rfl hC (fun w hC=>A7 (j:=0) (hC.ownAt 0 rfl) rfl isAgg3 h1391 rfl) fun a s=>?_
     refine gn 3 [8,9,10] [] s hC rfl rfl rfl fun a s=>?_
     refine gx s 11 rfl ⟨_,rfl,rfl⟩ rfl hC runUnderlying30 sizeOf71 rfl rfl h1399 h1400 fun a s=>?_
     refine gt s 12 rfl ⟨_,rfl,rfl⟩ rfl hC (fun w hC=>l5 (o':=q1402+1) runUnderlying71 rfl sizeOf3 rfl rfl rfl) fun a s=>?_
     refine gt s 13 rfl ⟨_,rfl,rfl⟩ rfl hC (fun w hC=>A7 (j:=1) (hC.ownAt 1 rfl) rfl isAgg3 h1404 rfl) fun a s=>?_
     refine gt s 14 rfl ⟨_,rfl,rfl⟩ rfl hC (fun w hC=>b1j rfl rfl) fun a s=>?_
     refine gT s 15 rfl rfl hC rfl rfl h1382 fun a s=>?_
     refine y7 (by kernel_rfl) ?_
     exact ⟨Sv1145,wj s d [0,1] [0,1]⟩
    have h1409:=F7 hc1379 h1381
    refine h_c [0,1] [] d rfl rfl (by kernel_rfl) rfl fun hC d=>?_
    refine gn 3 [0,1,2] [] s hC rfl rfl rfl fun a s=>?_
    have s:=s.bF 78 rfl h1381
    refine gn 12 [3,4,5,6,7,8,9,10,11,12,13,14] [] s hC rfl rfl rfl fun a s=>?_
    refine gF s 15 rfl rfl hC rfl rfl h1409 fun a s=>?_
    refine y7 (by kernel_rfl) ?_
    exact ⟨Sv1145,wj s d [0,1] [0,1]⟩
   rintro a w ⟨Sv1380,s,d⟩
   refine tn (q8 (fun a w=>∃ (out1475:(List Span)) (c1471 p1472 k1473 Sv1474:_),a3I sv945 out1475=some tv1246∧Sl 117 [(3,sl p541 k542 e539),(6,sl p1472 k1473 out1475),(7,iv sv945.2)] a∧Wd ⟨w0,S0,[]⟩ Sv1474 [.row p541 e539.length k542 c540 71 2,.row p1472 out1475.length k1473 c1471 71 2] [l7 c540 e539,l7 c1471 out1475] w) ?_ ?_)
   ·refine cd s u rfl (fun u=>?_) fun u=>?_
    ·obtain ⟨x1481,h1479,u⟩:=bt u
     obtain ⟨b1488,q1485,c1486,h1489,h1482,h1483,h1487,h1480⟩:=d.elemRV (α:=Span) 1 rfl 1 rfl h1479
     have hsv1490:=s
     have hwv1491:=d
     subst h1489
     have s:=hsv1490
     have d:=hwv1491
     obtain ⟨_,_,rfl,rfl,rfl⟩:=h1480
     obtain ⟨x1494,h1492,u⟩:=bt u
     obtain ⟨b1501,q1498,c1499,h1502,h1495,h1496,h1500,h1493⟩:=d.elemRV (α:=Span) 0 rfl 0 rfl h1492
     have hsv1503:=s
     have hwv1504:=d
     subst h1502
     have s:=hsv1503
     have d:=hwv1504
     obtain ⟨_,_,rfl,rfl,rfl⟩:=h1493
     obtain ⟨x1507,h1505,u⟩:=bt u
     obtain ⟨q1511,c1512,h1508,h1509,h1513,h1506⟩:=d.elemRK (α:=Span) 1 rfl 1 rfl h1505
     obtain ⟨_,_,rfl,rfl,rfl⟩:=h1506
     obtain ⟨l1515,h1514,u⟩:=bt u
     refine A9 (fun a w=>∃ Sv1518 c1516,Sl 117 [(3,sl (ad b1501) k542 e539),(6,sl (ad b1488) k1144 l1515),(7,iv sv945.2)] a∧Wd ⟨w0,S0,[]⟩ Sv1518 [.row (ad b1501) e539.length k542 c540 71 2,.row (ad b1488) l1515.length k1144 c1516 71 2] [l7 c540 e539,l7 c1516 l1515] w) ?_ ?_
     ·refine h_c [0] [] d rfl rfl (by kernel_rfl) rfl fun hC d=>?_
      refine gn 6 [0,1,2,3,4,5] [] s hC rfl rfl rfl fun a s=>?_
      refine gx s 6 rfl trivial rfl hC runUnderlying30 sizeOf71 rfl rfl h1482 h1483 fun a s=>?_
      refine gn 3 [7,9,10] [] s hC rfl rfl rfl fun a s=>?_
      refine gx s 11 rfl trivial rfl hC runUnderlying30 sizeOf71 rfl rfl h1495 h1496 fun a s=>?_
      refine gv s 12 rfl rfl hC (fun w hC=>l5 (o':=q1498+1) runUnderlying71 rfl sizeOf3 rfl rfl rfl) fun a s=>?_
      refine gv s 13 rfl rfl hC (fun w hC=>A7 (j:=1) (hC.ownAt 0 rfl) rfl isAgg3 h1500 rfl) fun a s=>?_
      refine ho 8 rfl ?_
      refine sv s (A7 (j:=1) (d.ownAt 1 rfl) rfl isAgg3 h1487 rfl) rfl fun a s=>?_
      refine h_n [0] [] d rfl rfl fun hC=>?_
      refine gv s 14 rfl rfl hC (fun w hC=>y_max rfl rfl) fun a s=>?_
      refine gx s 15 rfl trivial rfl hC runUnderlying30 sizeOf71 rfl rfl h1508 h1509 fun a s=>?_
      refine gv s 16 rfl rfl hC (fun w hC=>l5 (o':=q1511+1) runUnderlying71 rfl sizeOf3 rfl rfl rfl) fun a s=>?_
      refine ho 17 rfl ?_
      refine a7s (α:=Span) (f:=1) (m:=1) s d 1 rfl 1 rfl h1509 rfl rfl sizeOf3 rfl rfl rfl h1514 (fun es he=>by rw [h1513] at he;subst he;exact ⟨_,_,rfl,rfl,rfl⟩) trivial ?_
      intro c1516 a w s d
      have h1517:=Y0 h1514
      try have s:=s.fl 6 rfl h1517
      try have s:=s.fl 92 rfl h1517
      try have s:=s.fl 95 rfl h1517
      refine h_n [0] [] d rfl rfl fun hC=>?_
      refine y7 (by kernel_rfl) ?_
      exact ⟨Sv1380,c1516,wj s d [0,1] [1,0]⟩
     rintro a w ⟨Sv1518,c1516,s,d⟩
     exact tn ⟨l1515,c1516,(ad b1488),k1144,Sv1518,u,wj s d [0,1] [0,1]⟩
    refine wp_region_lit (rn0 3 s rfl fun a s=>?_)
    obtain ⟨x1521,h1519,u⟩:=bt u
    obtain ⟨b1528,q1525,c1526,h1529,h1522,h1523,h1527,h1520⟩:=d.elemRV (α:=Span) 0 rfl 0 rfl h1519
    have hsv1530:=s
    have hwv1531:=d
    subst h1529
    have s:=hsv1530
    have d:=hwv1531
    obtain ⟨_,_,rfl,rfl,rfl⟩:=h1520
    refine sv s (o6 runUnderlying30 sizeOf71 rfl rfl h1522.1 h1522.2 h1523) rfl fun a s=>?_
    refine sv s (I1 (j:=0) (d.ownAt 0 rfl) rfl isAgg71 sizeOf71 h1527 rfl rfl) rfl fun a s=>?_
    refine o7 (α:=Span) (vs:=[V71 x1521]) (cs:=(C71 x1521)) (xs:=([x1521]:List Span)) s d a3o rfl rfl rfl rfl rfl rfl ⟨⟨_,_,rfl,rfl,rfl⟩,rfl⟩ rfl trivial rfl fun b1533 a w s d=>?_
    obtain ⟨l1535,h1534,u⟩:=bt u
    refine F4 (α:=Span) s d a3o 2 rfl rfl rfl 2 rfl 0 rfl 0 rfl h1534 rfl trivial ?_
    intro p1536 k1537 c1538 a w s d
    refine rz0 1 s rfl fun a s=>?_
    exact ⟨l1535,c1538,p1536,k1537,Sv1380,u,wj s d [1,2] [2,0]⟩
   rintro a w ⟨out1475,c1471,p1472,k1473,Sv1474,u,s,d⟩
   refine l8 (tn (wp_region_lit (rn0 2 s rfl fun a s=>?_)))
   obtain ⟨i1477,h1476,u⟩:=bt u
   refine sv s (o8 rfl h1476) rfl fun a s=>?_
   exact nl ⟨_,io u,c1471,p1472,k1473,Sv1474,wj s d [0,1] [0,1]⟩
  refine wp_exit (j5 (j5 (o9 ?_)))
  obtain rfl:=oi u
  have h1539:=hd1245 _ rfl
  subst h1539
  exact tn ⟨c1142,p1143,k1144,Sv1145,wj s d [1] [1]⟩
 rintro a w ⟨c1249,p1250,k1251,Sv1252,s,d⟩
 refine tn (sz0 2 s rfl fun a s=>?_)
 obtain rfl:=oi u
 exact q1 s rfl (d.ret ⟨p1250,k1251,c1249,rfl,(d.outs [0] (by decide) rfl),(d.envAt 0 rfl)⟩)
theorem b0P {w0 S0 p2 k3 l1 r} (u:a5g l1=some r) (hS:Dm S0 w0) (h4:(Sq p2 k3 l1).p S0 w0):Ck Tryz.prog 19 #[sl p2 k3 l1] w0 S0 [] a1x r:=by
 refine en 31 func19 rfl hS rfl rfl rfl fun a s d=>?_
 have d:=d.addE h4
 refine sz0 2 s rfl fun a s=>?_
 refine wp_seq (sn0 1 s rfl fun a s=>?_)
 obtain ⟨rv6,h5,u⟩:=bt u
 refine cV s d (a4l h5 d.bdom (d.bE 0 rfl)) (j3 call56 rfl) rfl fun a w s d=>?_
 refine rz0 1 s rfl fun a s=>?_
 refine cd s u rfl (fun u=>?_) fun u=>?_
 ·refine sz0 2 s rfl fun a s=>?_
  obtain rfl:=oi u
  have d:=d.nilRow Span 71
  exact wp_ret (j6 (Q8 s rfl (q9 rfl) (q9 rfl) (d.ret ⟨none,0,[],rfl,(d.outs [0] (by decide) rfl),(d.envAt 0 rfl)⟩)))
 refine sk (sz0 1 s rfl fun a s=>?_)
 refine wp_seq (sz0 1 s rfl fun a s=>?_)
 obtain ⟨e131,h217,u⟩:=bt u
 refine q8 (fun a w=>∃ c132 p133 k134 Sv135,Sl 31 [(4,sl p133 k134 e131)] a∧Wd ⟨w0,S0,[]⟩ Sv135 [.row p133 e131.length k134 c132 71 2] [l7 c132 e131] w) ?_ ?_
 ·refine wp_block ?_
  have d:=d.nilRow Span 71
  refine u7 (fun sv14 a w=>∃ c89 p90 k91 Sv92,Sl 31 [(0,sl p2 k3 l1),(4,sl p90 k91 sv14.1),(5,iv sv14.2)] a∧Wd ⟨w0,S0,[]⟩ Sv92 [.row p90 sv14.1.length k91 c89 71 2] [Sq p2 k3 l1,l7 c89 sv14.1] w) (([]:List Span),0) h217 ⟨[],none,0,S0,wj s d [0] [1,0]⟩ ?_
  clear h217
  repeat clear u
  rintro sv14 a w tv129 ⟨c89,p90,k91,Sv92,s,d⟩ u hd128
  refine wp_seq (sz0 4 s rfl fun a s=>?_)
  refine cd s u rfl (fun u=>?_) fun u=>?_
  ·refine sk (wp_seq (wp_block (sn0 2 s rfl fun a s=>?_)))
   obtain ⟨x172,h170,u⟩:=bt u
   obtain ⟨b178,o179,q176,c177,h180,h173,h174,h175,h171⟩:=d.elemV 0 rfl h170
   have hsv181:=s
   have hwv182:=d
   subst h180
   have s:=hsv181
   have d:=hwv182
   obtain ⟨_,_,_,_,_,_,_,_,_,_,_,_,rfl,rfl,rfl,rfl,rfl,rfl,rfl,rfl,rfl,rfl,rfl,rfl,⟨p183,n184,k185,rfl,h186⟩⟩:=h171
   obtain rfl:=h186.1
   have d:=(d.addE (e:=SlA p183 _ k185 x172.Samples) h186).addE h175
   refine sv s (o6 runUnderlying28 sizeOf56 rfl rfl h173.1 h173.2 h174) rfl fun a s=>?_
   refine sv s (G5 (j:=0) (d.ceAt 0 rfl) rfl isAgg56 sizeOf56 rfl rfl) rfl fun a s=>?_
   obtain ⟨rv188,h187,u⟩:=bt u
   refine cV s d (a5e h187 d.bdom (d.bE 1 rfl)) (j3 call31 rfl) rfl fun a w s d=>?_
   refine rn0 3 s rfl fun a s=>?_
   refine wa [iv 0,iv 0] s d zeroValue71 fun b194 a w s d=>?_
   refine ws (C71 rv188.1) s d 0 rfl rfl rfl sizeOf71 fun a w s d=>?_
   refine rz0 1 s rfl fun a s=>?_
   refine wp_region_lit (rn 2 [0] s d rfl rfl fun a s=>?_)
   refine o7 (α:=Span) (vs:=[V71 rv188.1]) (cs:=(C71 rv188.1)) (xs:=([rv188.1]:List Span)) s d a3o rfl rfl rfl rfl rfl rfl ⟨⟨_,_,rfl,rfl,rfl⟩,rfl⟩ rfl trivial rfl fun b196 a w s d=>?_
   obtain ⟨l198,h197,u⟩:=bt u
   refine F4 (α:=Span) s d a3o 2 rfl rfl rfl 4 rfl 0 rfl 0 rfl h197 rfl trivial ?_
   intro p199 k200 c201 a w s d
   refine av s rfl rfl fun a s=>?_
   refine wpList_nil ?_
   refine l8 (tn (wp_region_lit (rn0 2 s rfl fun a s=>?_)))
   obtain ⟨i203,h202,u⟩:=bt u
   refine sv s (o8 rfl h202) rfl fun a s=>?_
   exact nl ⟨_,io u,c201,p199,k200,Sv92,wj s d [2] [4,0]⟩
  refine wp_exit (j5 (j5 (o9 ?_)))
  obtain rfl:=oi u
  have h204:=hd128 _ rfl
  subst h204
  exact tn ⟨c89,p90,k91,Sv92,wj s d [0] [1]⟩
 rintro a w ⟨c132,p133,k134,Sv135,s,d⟩
 refine tn (sn0 1 s rfl fun a s=>?_)
 obtain ⟨rv206,h205,u⟩:=bt u
 obtain ⟨Sv211,d⟩:=D6 (α:=Span) d 0 rfl 0 rfl
 refine cR s (a0b h205 d.dom (d.envAt 0 rfl)) (j3 call55 rfl) rfl ?_
 rintro v215 Sv212 w a h213 ⟨p207,k208,c210,rfl,h216,h209⟩ s
 have d:=(d.callN h213 h216).addE (e:=l7 c210 rv206) h209
 refine rz0 2 s rfl fun a s=>?_
 obtain rfl:=oi u
 exact wp_ret (Q8 s rfl (q9 rfl) (q9 rfl) (d.ret ⟨p207,k208,c210,rfl,(d.outs [0] (by decide) rfl),(d.envAt 0 rfl)⟩))
theorem b2j {w0 S0 p2 k3 p6 k7 a1 b5 r} (u:a6D a1 b5=some r) (hS:Dm S0 w0) (h4:(Sq p2 k3 a1).p S0 w0) (h8:(Sq p6 k7 b5).p S0 w0):Ck Tryz.prog 78 #[sl p2 k3 a1,sl p6 k7 b5] w0 S0 [] C9 r:=by
 refine en 94 func78 rfl hS rfl rfl rfl fun a s d=>?_
 have d:=(d.addE h4).addE h8
 refine sz0 1 s rfl fun a s=>?_
 refine sn0 1 s rfl fun a s=>?_
 obtain ⟨rv10,h9,u⟩:=bt u
 refine cR s (a0b h9 d.dom (d.envAt 1 rfl)) (j3 call55 rfl) rfl ?_
 rintro v18 Sv15 w a h16 ⟨p11,k12,c14,rfl,h19,h13⟩ s
 have d:=(d.callN h16 h19).addE (e:=l7 c14 rv10) h13
 refine mv s rfl rfl fun a s=>?_
 obtain ⟨rv21,h20,u⟩:=bt u
 refine cR s (a0b h20 d.dom (d.envAt 1 rfl)) (j3 call55 rfl) rfl ?_
 rintro v29 Sv26 w a h27 ⟨p22,k23,c25,rfl,h30,h24⟩ s
 have d:=(d.callN h27 h30).addE (e:=l7 c25 rv21) h24
 refine rz0 2 s rfl fun a s=>?_
 refine sz0 1 s rfl fun a s=>?_
 refine wp_seq (sz0 1 s rfl fun a s=>?_)
 obtain ⟨e1000,h1862,u⟩:=bt u
 refine q8 (fun a w=>∃ c1001 p1002 k1003 Sv1004,Sl 94 [(7,sl p1002 k1003 e1000)] a∧Wd ⟨w0,S0,[]⟩ Sv1004 [.row p1002 e1000.length k1003 c1001 71 2] [l7 c1001 e1000] w) ?_ ?_
 ·refine wp_block ?_
  have d:=d.nilRow Span 71
  refine u7 (fun sv31 a w=>∃ c674 p675 k676 Sv677,Sl 94 [(5,sl p11 k12 rv10),(6,sl p22 k23 rv21),(7,sl p675 k676 sv31.1),(8,iv sv31.2)] a∧Wd ⟨w0,S0,[]⟩ Sv677 [.row p11 rv10.length k12 c14 71 2,.row p22 rv21.length k23 c25 71 2,.row p675 sv31.1.length k676 c674 71 2] [l7 c14 rv10,l7 c25 rv21,l7 c674 sv31.1] w) (([]:List Span),0) h1862 ⟨[],none,0,Sv26,wj s d [2,1,0] [2,1,0]⟩ ?_
  clear h1862
  repeat clear u
  rintro sv31 a w tv998 ⟨c674,p675,k676,Sv677,s,d⟩ u hd997
  refine wp_seq (sz0 4 s rfl fun a s=>?_)
  refine cd s u rfl (fun u=>?_) fun u=>?_
  ·refine sk (wp_seq (wp_block (sn0 2 s rfl fun a s=>?_)))
   obtain ⟨x1325,h1323,u⟩:=bt u
   obtain ⟨b1332,q1329,c1330,h1333,h1326,h1327,h1331,h1324⟩:=d.elemRV (α:=Span) 0 rfl 0 rfl h1323
   have hsv1334:=s
   have hwv1335:=d
   subst h1333
   have s:=hsv1334
   have d:=hwv1335
   obtain ⟨_,_,rfl,rfl,rfl⟩:=h1324
   refine sv s (o6 runUnderlying30 sizeOf71 rfl rfl h1326.1 h1326.2 h1327) rfl fun a s=>?_
   refine sv s (l5 (o':=q1329+0) runUnderlying71 rfl sizeOf3 rfl rfl rfl) rfl fun a s=>?_
   refine sv s (A7 (j:=0) (d.ownAt 0 rfl) rfl isAgg3 h1331 rfl) rfl fun a s=>?_
   refine rz0 1 s rfl fun a s=>?_
   refine wp_seq (sz0 1 s rfl fun a s=>?_)
   obtain ⟨e1603,h1860,u⟩:=bt u
   refine q8 (fun a w=>∃ c1604 p1605 k1606 Sv1607,Sl 94 [(5,sl (ad b1332) k12 rv10),(6,sl p22 k23 rv21),(7,sl p1605 k1606 e1603.1),(8,iv sv31.2),(9,iv e1603.2)] a∧Wd ⟨w0,S0,[]⟩ Sv1607 [.row (ad b1332) rv10.length k12 c14 71 2,.row p22 rv21.length k23 c25 71 2,.row p1605 e1603.1.length k1606 c1604 71 2] [l7 c14 rv10,l7 c25 rv21,l7 c1604 e1603.1] w) ?_ ?_
   ·refine wp_block (u7 (fun sv1336 a w=>∃ c1511 p1512 k1513 Sv1514,Sl 94 [(5,sl (ad b1332) k12 rv10),(6,sl p22 k23 rv21),(7,sl p1512 k1513 sv1336.1),(8,iv sv31.2),(9,iv sv1336.2.1),(10,iv sv1336.2.2)] a∧Wd ⟨w0,S0,[]⟩ Sv1514 [.row (ad b1332) rv10.length k12 c14 71 2,.row p22 rv21.length k23 c25 71 2,.row p1512 sv1336.1.length k1513 c1511 71 2] [l7 c14 rv10,l7 c25 rv21,l7 c1511 sv1336.1] w) (sv31.1,x1325.From,0) h1860 ⟨c674,p675,k676,Sv677,wj s d [0,1,2] [0,1,2]⟩ ?_)
    clear h1860
    repeat clear u
    rintro sv1336 a w tv1601 ⟨c1511,p1512,k1513,Sv1514,s,d⟩ u hd1600
    refine wp_seq (sz0 4 s rfl fun a s=>?_)
    refine cd s u rfl (fun u=>?_) fun u=>?_
    ·refine sk (wp_seq (q8 (fun a w=>∃ (out1690:(List Span)) (fromv1691:Int) (c1686 p1687 k1688 Sv1689:_),a4i sv1336 out1690 fromv1691=some tv1601∧Sl 94 [(5,sl (ad b1332) k12 rv10),(6,sl p22 k23 rv21),(7,sl p1687 k1688 out1690),(8,iv sv31.2),(9,iv fromv1691),(10,iv sv1336.2.2)] a∧Wd ⟨w0,S0,[]⟩ Sv1689 [.row (ad b1332) rv10.length k12 c14 71 2,.row p22 rv21.length k23 c25 71 2,.row p1687 out1690.length k1688 c1686 71 2] [l7 c14 rv10,l7 c25 rv21,l7 c1686 out1690] w) ?_ ?_))
     ·refine wp_block (wp_seq (wp_seq ?_))
      obtain ⟨x1696,h1694,u⟩:=bt u
      obtain ⟨b1703,q1700,c1701,h1704,h1697,h1698,h1702,h1695⟩:=d.elemRV (α:=Span) 1 rfl 1 rfl h1694
      have hsv1705:=s
      have hwv1706:=d
      subst h1704
      have s:=hsv1705
      have d:=hwv1706
      obtain ⟨_,_,rfl,rfl,rfl⟩:=h1695
      obtain ⟨c1725,hc1725,u⟩:=bt u
      refine A9 (fun a w=>∃ Sv1726,Sl 94 [(5,sl (ad b1332) k12 rv10),(6,sl (ad b1703) k23 rv21),(7,sl p1512 k1513 sv1336.1),(8,iv sv31.2),(9,iv sv1336.2.1),(10,iv sv1336.2.2),(51,.bool c1725)] a∧Wd ⟨w0,S0,[]⟩ Sv1726 [.row (ad b1332) rv10.length k12 c14 71 2,.row (ad b1703) rv21.length k23 c25 71 2,.row p1512 sv1336.1.length k1513 c1511 71 2] [l7 c14 rv10,l7 c25 rv21,l7 c1511 sv1336.1] w) ?_ ?_
      ·rcases Bool.eq_false_or_eq_true (decide (x1696.To≤sv1336.2.1)) with h1727 | h1727
       ·have h1728:=E9 hc1725 h1727
        refine h_c [0,1,2] [] d rfl rfl (by kernel_rfl) rfl fun hC d=>?_
        refine gn 2 [0,1] [] s hC rfl rfl rfl fun a s=>?_
        refine gx s 2 rfl trivial rfl hC runUnderlying30 sizeOf71 rfl rfl h1697 h1698 fun a s=>?_
        refine gv s 3 rfl rfl hC (fun w hC=>l5 (o':=q1700+1) runUnderlying71 rfl sizeOf3 rfl rfl rfl) fun a s=>?_
        refine gv s 4 rfl rfl hC (fun w hC=>A7 (j:=1) (hC.ownAt 1 rfl) rfl isAgg3 h1702 rfl) fun a s=>?_
        refine gn 3 [5,6,7] [] s hC rfl rfl rfl fun a s=>?_
        have s:=s.bT 39 rfl h1727
        refine gn 11 [8,9,10,11,12,13,14,15,16,17,18] [] s hC rfl rfl rfl fun a s=>?_
        refine gT s 19 rfl rfl hC rfl rfl h1728 fun a s=>?_
        refine y7 (by kernel_rfl) ?_
        exact ⟨Sv1514,wj s d [0,1,2] [0,1,2]⟩
       have h1729:=F7 hc1725 h1727
       obtain ⟨x1732,h1730,h1729⟩:=H5 h1729
       obtain ⟨q1736,c1737,h1733,h1734,h1738,h1731⟩:=d.elemRK (α:=Span) 1 rfl 1 rfl h1730
       obtain ⟨_,_,rfl,rfl,rfl⟩:=h1731
       obtain ⟨x1741,h1739,h1729⟩:=H5 h1729
       obtain ⟨q1745,c1746,h1742,h1743,h1747,h1740⟩:=d.elemRK (α:=Span) 0 rfl 0 rfl h1739
       obtain ⟨_,_,rfl,rfl,rfl⟩:=h1740
       refine h_c [0,1,2] [] d rfl rfl (by kernel_rfl) rfl fun hC d=>?_
       refine gn 2 [0,1] [] s hC rfl rfl rfl fun a s=>?_
       refine gx s 2 rfl trivial rfl hC runUnderlying30 sizeOf71 rfl rfl h1697 h1698 fun a s=>?_
       refine gv s 3 rfl rfl hC (fun w hC=>l5 (o':=q1700+1) runUnderlying71 rfl sizeOf3 rfl rfl rfl) fun a s=>?_
       refine gv s 4 rfl rfl hC (fun w hC=>A7 (j:=1) (hC.ownAt 1 rfl) rfl isAgg3 h1702 rfl) fun a s=>?_
       refine gn 3 [5,6,7] [] s hC rfl rfl rfl fun a s=>?_
       have s:=s.bF 39 rfl h1727
       refine gn 2 [8,9] [] s hC rfl rfl rfl fun a s=>?_
       refine gx s 10 rfl ⟨_,rfl,rfl⟩ rfl hC runUnderlying30 sizeOf71 rfl rfl h1733 h1734 fun a s=>?_
       refine gt s 11 rfl ⟨_,rfl,rfl⟩ rfl hC (fun w hC=>l5 (o':=q1736+0) runUnderlying71 rfl sizeOf3 rfl rfl rfl) fun a s=>?_
       refine gt s 12 rfl ⟨_,rfl,rfl⟩ rfl hC (fun w hC=>A7 (j:=0) (hC.ownAt 1 rfl) rfl isAgg3 h1738 rfl) fun a s=>?_
       refine gn 2 [13,14] [] s hC rfl rfl rfl fun a s=>?_
       refine gx s 15 rfl ⟨_,rfl,rfl⟩ rfl hC runUnderlying30 sizeOf71 rfl rfl h1742 h1743 fun a s=>?_
       refine gt s 16 rfl ⟨_,rfl,rfl⟩ rfl hC (fun w hC=>l5 (o':=q1745+1) runUnderlying71 rfl sizeOf3 rfl rfl rfl) fun a s=>?_
       refine gt s 17 rfl ⟨_,rfl,rfl⟩ rfl hC (fun w hC=>A7 (j:=1) (hC.ownAt 0 rfl) rfl isAgg3 h1747 rfl) fun a s=>?_
       refine gt s 18 rfl ⟨_,rfl,rfl⟩ rfl hC (fun w hC=>b0n rfl rfl) fun a s=>?_
       refine gF s 19 rfl rfl hC rfl rfl h1729 fun a s=>?_
       refine y7 (by kernel_rfl) ?_
       exact ⟨Sv1514,wj s d [0,1,2] [0,1,2]⟩
      rintro a w ⟨Sv1726,s,d⟩
      refine tn (cd s u rfl (fun u=>?_) fun u=>?_)
      ·exact wp_exit (j5 (o9 (tn ⟨sv1336.1,sv1336.2.1,c1511,p1512,k1513,Sv1726,u,wj s d [0,1,2] [0,1,2]⟩)))
      refine sk (wp_seq (sn0 2 s rfl fun a s=>?_))
      obtain ⟨x1752,h1750,u⟩:=bt u
      obtain ⟨q1756,c1757,h1753,h1754,h1758,h1751⟩:=d.elemRK (α:=Span) 1 rfl 1 rfl h1750
      obtain ⟨_,_,rfl,rfl,rfl⟩:=h1751
      refine sv s (o6 runUnderlying30 sizeOf71 rfl rfl h1753.1 h1753.2 h1754) rfl fun a s=>?_
      refine sv s (l5 (o':=q1756+0) runUnderlying71 rfl sizeOf3 rfl rfl rfl) rfl fun a s=>?_
      refine sv s (A7 (j:=0) (d.ownAt 1 rfl) rfl isAgg3 h1758 rfl) rfl fun a s=>?_
      refine rz0 2 s rfl fun a s=>?_
      refine q8 (fun a w=>∃ (out1780:(List Span)) (c1776 p1777 k1778 Sv1779:_),a4j rv21 sv1336 out1780=some tv1601∧Sl 94 [(5,sl (ad b1332) k12 rv10),(6,sl (ad b1703) k23 rv21),(7,sl p1777 k1778 out1780),(8,iv sv31.2),(9,iv sv1336.2.1),(10,iv sv1336.2.2)] a∧Wd ⟨w0,S0,[]⟩ Sv1779 [.row (ad b1332) rv10.length k12 c14 71 2,.row (ad b1703) rv21.length k23 c25 71 2,.row p1777 out1780.length k1778 c1776 71 2] [l7 c14 rv10,l7 c25 rv21,l7 c1776 out1780] w) ?_ ?_
      ·refine cd s u rfl (fun u=>?_) fun u=>?_
       ·refine wp_region_lit (rn0 4 s rfl fun a s=>?_)
        obtain ⟨x1795,h1793,u⟩:=bt u
        obtain ⟨q1799,c1800,h1796,h1797,h1801,h1794⟩:=d.elemRK (α:=Span) 1 rfl 1 rfl h1793
        obtain ⟨_,_,rfl,rfl,rfl⟩:=h1794
        refine sv s (o6 runUnderlying30 sizeOf71 rfl rfl h1796.1 h1796.2 h1797) rfl fun a s=>?_
        refine sv s (l5 (o':=q1799+0) runUnderlying71 rfl sizeOf3 rfl rfl rfl) rfl fun a s=>?_
        refine sv s (A7 (j:=0) (d.ownAt 1 rfl) rfl isAgg3 h1801 rfl) rfl fun a s=>?_
        refine sv s (D7 (vs:=[(0,iv sv1336.2.1),(1,iv x1795.From)]) a6t rfl rfl) rfl fun a s=>?_
        refine o7 (α:=Span) (vs:=[.agg #[iv sv1336.2.1,iv x1795.From]]) (cs:=[iv sv1336.2.1,iv x1795.From]) (xs:=([(⟨sv1336.2.1,x1795.From⟩:Span)]:List Span)) s d a3o rfl rfl rfl rfl rfl rfl ⟨⟨_,_,rfl,rfl,rfl⟩,rfl⟩ rfl trivial rfl fun b1803 a w s d=>?_
        obtain ⟨l1805,h1804,u⟩:=bt u
        refine F4 (α:=Span) s d a3o 3 rfl rfl rfl 3 rfl 0 rfl 0 rfl h1804 rfl trivial ?_
        intro p1806 k1807 c1808 a w s d
        refine rz0 1 s rfl fun a s=>?_
        exact ⟨l1805,c1808,p1806,k1807,Sv1726,u,wj s d [1,2,3] [2,3,0]⟩
       exact sk ⟨sv1336.1,c1511,p1512,k1513,Sv1726,u,wj s d [0,1,2] [0,1,2]⟩
      rintro a w ⟨out1780,c1776,p1777,k1778,Sv1779,u,s,d⟩
      refine tn (wp_region_lit (rn0 3 s rfl fun a s=>?_))
      obtain ⟨x1783,h1781,u⟩:=bt u
      obtain ⟨q1787,c1788,h1784,h1785,h1789,h1782⟩:=d.elemRK (α:=Span) 1 rfl 1 rfl h1781
      obtain ⟨_,_,rfl,rfl,rfl⟩:=h1782
      refine sv s (o6 runUnderlying30 sizeOf71 rfl rfl h1784.1 h1784.2 h1785) rfl fun a s=>?_
      refine sv s (l5 (o':=q1787+1) runUnderlying71 rfl sizeOf3 rfl rfl rfl) rfl fun a s=>?_
      refine sv s (A7 (j:=1) (d.ownAt 1 rfl) rfl isAgg3 h1789 rfl) rfl fun a s=>?_
      refine sv s (y_max rfl rfl) rfl fun a s=>?_
      obtain ⟨fromv1791,h1790,u⟩:=bt u
      refine sv s (o8 rfl h1790) rfl fun a s=>?_
      refine wpList_nil ?_
      exact l8 (tn ⟨out1780,fromv1791,c1776,p1777,k1778,Sv1779,u,wj s d [0,1,2] [0,1,2]⟩)
     rintro a w ⟨out1690,fromv1691,c1686,p1687,k1688,Sv1689,u,s,d⟩
     refine tn (wp_region_lit (rn0 2 s rfl fun a s=>?_))
     obtain ⟨k1693,h1692,u⟩:=bt u
     refine sv s (o8 rfl h1692) rfl fun a s=>?_
     exact nl ⟨_,io u,c1686,p1687,k1688,Sv1689,wj s d [0,1,2] [0,1,2]⟩
    refine wp_exit (j5 (j5 (o9 ?_)))
    obtain rfl:=oi u
    have h1809:=hd1600 _ rfl
    subst h1809
    exact tn ⟨c1511,p1512,k1513,Sv1514,wj s d [0,1,2] [0,1,2]⟩
   rintro a w ⟨c1604,p1605,k1606,Sv1607,s,d⟩
   refine tn (sn0 3 s rfl fun a s=>?_)
   obtain ⟨x1812,h1810,u⟩:=bt u
   obtain ⟨q1816,c1817,h1813,h1814,h1818,h1811⟩:=d.elemRK (α:=Span) 0 rfl 0 rfl h1810
   obtain ⟨_,_,rfl,rfl,rfl⟩:=h1811
   refine sv s (o6 runUnderlying30 sizeOf71 rfl rfl h1813.1 h1813.2 h1814) rfl fun a s=>?_
   refine sv s (l5 (o':=q1816+1) runUnderlying71 rfl sizeOf3 rfl rfl rfl) rfl fun a s=>?_
   refine sv s (A7 (j:=1) (d.ownAt 0 rfl) rfl isAgg3 h1818 rfl) rfl fun a s=>?_
   refine rz0 1 s rfl fun a s=>?_
   refine q8 (fun a w=>∃ (out1840:(List Span)) (c1836 p1837 k1838 Sv1839:_),a4k sv31 out1840=some tv998∧Sl 94 [(5,sl (ad b1332) k12 rv10),(6,sl p22 k23 rv21),(7,sl p1837 k1838 out1840),(8,iv sv31.2)] a∧Wd ⟨w0,S0,[]⟩ Sv1839 [.row (ad b1332) rv10.length k12 c14 71 2,.row p22 rv21.length k23 c25 71 2,.row p1837 out1840.length k1838 c1836 71 2] [l7 c14 rv10,l7 c25 rv21,l7 c1836 out1840] w) ?_ ?_
   ·refine cd s u rfl (fun u=>?_) fun u=>?_
    ·refine wp_region_lit (rn0 4 s rfl fun a s=>?_)
     obtain ⟨x1846,h1844,u⟩:=bt u
     obtain ⟨q1850,c1851,h1847,h1848,h1852,h1845⟩:=d.elemRK (α:=Span) 0 rfl 0 rfl h1844
     obtain ⟨_,_,rfl,rfl,rfl⟩:=h1845
     refine sv s (o6 runUnderlying30 sizeOf71 rfl rfl h1847.1 h1847.2 h1848) rfl fun a s=>?_
     refine sv s (l5 (o':=q1850+1) runUnderlying71 rfl sizeOf3 rfl rfl rfl) rfl fun a s=>?_
     refine sv s (A7 (j:=1) (d.ownAt 0 rfl) rfl isAgg3 h1852 rfl) rfl fun a s=>?_
     refine sv s (D7 (vs:=[(0,iv e1603.2),(1,iv x1846.To)]) a6t rfl rfl) rfl fun a s=>?_
     refine o7 (α:=Span) (vs:=[.agg #[iv e1603.2,iv x1846.To]]) (cs:=[iv e1603.2,iv x1846.To]) (xs:=([(⟨e1603.2,x1846.To⟩:Span)]:List Span)) s d a3o rfl rfl rfl rfl rfl rfl ⟨⟨_,_,rfl,rfl,rfl⟩,rfl⟩ rfl trivial rfl fun b1854 a w s d=>?_
     obtain ⟨l1856,h1855,u⟩:=bt u
     refine F4 (α:=Span) s d a3o 3 rfl rfl rfl 3 rfl 0 rfl 0 rfl h1855 rfl trivial ?_
     intro p1857 k1858 c1859 a w s d
     refine rz0 1 s rfl fun a s=>?_
     exact ⟨l1856,c1859,p1857,k1858,Sv1607,u,wj s d [1,2,3] [2,3,0]⟩
    exact sk ⟨e1603.1,c1604,p1605,k1606,Sv1607,u,wj s d [0,1,2] [0,1,2]⟩
   rintro a w ⟨out1840,c1836,p1837,k1838,Sv1839,u,s,d⟩
   refine l8 (tn (wp_region_lit (rn0 2 s rfl fun a s=>?_)))
   obtain ⟨i1842,h1841,u⟩:=bt u
   refine sv s (o8 rfl h1841) rfl fun a s=>?_
   exact nl ⟨_,io u,c1836,p1837,k1838,Sv1839,wj s d [0,1,2] [0,1,2]⟩
  refine wp_exit (j5 (j5 (o9 ?_)))
  obtain rfl:=oi u
  have h1861:=hd997 _ rfl
  subst h1861
  exact tn ⟨c674,p675,k676,Sv677,wj s d [2] [2]⟩
 rintro a w ⟨c1001,p1002,k1003,Sv1004,s,d⟩
 refine tn (sz0 2 s rfl fun a s=>?_)
 obtain rfl:=oi u
 exact q1 s rfl (d.ret ⟨p1002,k1003,c1001,rfl,(d.outs [0] (by decide) rfl),(d.envAt 0 rfl)⟩)
theorem b2N {w0 S0 p2 k3 l1 from5 to6 r} (u:a7S l1 from5 to6=some r) (hS:Dm S0 w0) (h4:(Sq p2 k3 l1).p S0 w0):Ck Tryz.prog 36 #[sl p2 k3 l1,iv from5,iv to6] w0 S0 [] a1x r:=by
 refine en 29 func36 rfl hS rfl rfl rfl fun a s d=>?_
 have d:=d.addE h4
 refine sz0 2 s rfl fun a s=>?_
 refine wp_seq (sn0 3 s rfl fun a s=>?_)
 obtain ⟨rv8,h7,u⟩:=bt u
 refine cV s d (a7Z h7 d.bdom (d.bE 0 rfl)) (j3 call77 rfl) rfl fun a w s d=>?_
 refine rz0 1 s rfl fun a s=>?_
 refine sz0 2 s rfl fun a s=>?_
 refine cd s u rfl (fun u=>?_) fun u=>?_
 ·refine sz0 3 s rfl fun a s=>?_
  obtain rfl:=oi u
  have d:=d.nilRow Span 71
  exact wp_ret (j6 (Q8 s rfl (q9 rfl) (q9 rfl) (d.ret ⟨none,0,[],rfl,(d.outs [0] (by decide) rfl),(d.envAt 0 rfl)⟩)))
 refine sk (sn0 1 s rfl fun a s=>?_)
 obtain ⟨rv17,h16,u⟩:=bt u
 refine cR s (b0P h16 d.dom (d.envAt 0 rfl)) (j3 call19 rfl) rfl ?_
 rintro v25 Sv22 w a h23 ⟨p18,k19,c21,rfl,h26,h20⟩ s
 have d:=(d.callN h23 h26).addE (e:=l7 c21 rv17.1) h20
 refine rz0 5 s rfl fun a s=>?_
 refine sn0 2 s rfl fun a s=>?_
 refine sv s (D7 (vs:=[(0,iv from5),(1,iv to6)]) a6t rfl rfl) rfl fun a s=>?_
 refine o7 (α:=Span) (vs:=[.agg #[iv from5,iv to6]]) (cs:=[iv from5,iv to6]) (xs:=([(⟨from5,to6⟩:Span)]:List Span)) s d a3o rfl rfl rfl rfl rfl rfl ⟨⟨_,_,rfl,rfl,rfl⟩,rfl⟩ rfl trivial rfl fun b28 a w s d=>?_
 refine mv s rfl rfl fun a s=>?_
 obtain ⟨rv30,h29,u⟩:=bt u
 obtain ⟨Sv35,d⟩:=D6 (α:=Span) d 0 rfl 0 rfl
 obtain ⟨Sv36,d⟩:=D6 (α:=Span) d 0 rfl 2 rfl
 refine cR s (b2j h29 d.dom (d.envAt 1 rfl) (d.envAt 0 rfl)) (j3 call78 rfl) rfl ?_
 rintro v40 Sv37 w a h38 ⟨p31,k32,c34,rfl,h41,h33⟩ s
 have d:=(d.callN h38 h41).addE (e:=l7 c34 rv30) h33
 refine rz0 2 s rfl fun a s=>?_
 obtain rfl:=oi u
 exact wp_ret (Q8 s rfl (q9 rfl) (q9 rfl) (d.ret ⟨p31,k32,c34,rfl,(d.outs [0] (by decide) rfl),(d.envAt 0 rfl)⟩))
theorem a3a {w0 S0 a1 b2 r} (u:a0W a1 b2=some r) (hS:Dm S0 w0):Ck Tryz.prog 172 #[.string a1,.string b2] w0 S0 [] j4 r:=by
 refine en 13 func172 rfl hS rfl rfl rfl fun a s d=>?_
 refine sz0 1 s rfl fun a s=>?_
 refine wp_seq (wp_block (sn0 2 s rfl fun a s=>?_))
 refine sv s (y_lssS rfl rfl) rfl fun a s=>?_
 refine rz0 1 s rfl fun a s=>?_
 refine cd s u rfl (fun u=>?_) fun u=>?_
 ·refine sz0 1 s rfl fun a s=>?_
  obtain rfl:=oi u
  exact wp_ret (A8 (j6 (rt s rfl (d.ret rfl))))
 refine sn0 2 s rfl fun a s=>?_
 refine sv s (y_gtrS rfl rfl) rfl fun a s=>?_
 refine rz0 1 s rfl fun a s=>?_
 refine cd s u rfl (fun u=>?_) fun u=>?_
 ·refine sz0 1 s rfl fun a s=>?_
  obtain rfl:=oi u
  exact wp_ret (A8 (j6 (rt s rfl (d.ret rfl))))
 refine wp_skip (l8 (tn (sz0 1 s rfl fun a s=>?_)))
 obtain rfl:=oi u
 exact q1 s rfl (d.ret rfl)
theorem b0L {w0 S0 a1 b2 r} (u:a4U a1 b2=some r) (hS:Dm S0 w0):Ck Tryz.prog 136 #[V52 a1,V52 b2] w0 S0 [] j4 r:=by
 refine en 35 func136 rfl hS rfl rfl rfl fun a s d=>?_
 refine sr (wb (C52 a1) s d rfl fun b3 a w s d=>?_)
 refine wb (C52 b2) s d rfl fun b4 a w s d=>?_
 refine rz0 1 s rfl fun a s=>?_
 refine wp_seq (wp_seq ?_)
 obtain ⟨rv6,h5,u⟩:=bt u
 obtain ⟨rv8,h7,u⟩:=bt u
 obtain ⟨rv10,h9,u⟩:=bt u
 obtain ⟨rv12,h11,u⟩:=bt u
 refine A9 (fun a w=>∃ Sv13,Sl 35 [(27,.agg #[iv rv6,iv rv8,iv rv10,iv rv12]),(28,iv 0)] a∧Wd ⟨w0,S0,[]⟩ Sv13 [] [] w) ?_ ?_
 ·refine h_c [0,1] [] d rfl rfl (by kernel_rfl) rfl fun hC d=>?_
  refine gn 17 [0,1,2,3,5,6,7,8,10,11,12,13,15,16,17,18,21] [1,0,1,0,1,0,1,0] s hC rfl rfl rfl fun a s=>?_
  refine ho 4 rfl ?_
  refine cV s d (a3a h5 d.bdom) (j3 call172 rfl) rfl fun a w s d=>?_
  refine h_n [0,1] [] d rfl rfl fun hC=>?_
  refine ho 9 rfl ?_
  refine cV s d (a3a h7 d.bdom) (j3 call172 rfl) rfl fun a w s d=>?_
  refine h_n [0,1] [] d rfl rfl fun hC=>?_
  refine ho 14 rfl ?_
  refine cV s d (a3a h9 d.bdom) (j3 call172 rfl) rfl fun a w s d=>?_
  refine h_n [0,1] [] d rfl rfl fun hC=>?_
  refine ho 19 rfl ?_
  refine cV s d (a3a h11 d.bdom) (j3 call172 rfl) rfl fun a w s d=>?_
  refine h_n [0,1] [] d rfl rfl fun hC=>?_
  refine gv s 20 rfl rfl hC (fun w hC=>D7 (vs:=[(0,iv rv6),(1,iv rv8),(2,iv rv10),(3,iv rv12)]) Bld177 rfl rfl) fun a s=>?_
  refine y7 (by kernel_rfl) ?_
  exact ⟨S0,wj s d [] []⟩
 rintro a w ⟨Sv13,s,d⟩
 refine tn (wp_block (u7 (fun sv51 a w=>∃ Sv61,Sl 35 [(27,.agg #[iv rv6,iv rv8,iv rv10,iv rv12]),(28,iv sv51)] a∧Wd ⟨w0,S0,[]⟩ Sv61 [] [] w) 0 u ⟨Sv13,wj s d [] []⟩ ?_))
 repeat clear u
 rintro sv51 a w tv67 ⟨Sv61,s,d⟩ u hd66
 refine sz0 1 s rfl fun a s=>?_
 refine wp_seq (cd s u rfl (fun u=>?_) fun u=>?_)
 ·refine sk (wp_seq (wp_block (sr ?_)))
  obtain ⟨x76,h75,u⟩:=bt u
  refine sv s (b5y (α:=Int) (xs:=[rv6,rv8,rv10,rv12]) (cs:=[iv rv6,iv rv8,iv rv10,iv rv12]) (es:=[iv x76]) (v:=iv x76) runUnderlying177 sizeOf3 (.inl ⟨isAgg3,rfl⟩) rfl rfl rfl (fun _ _=>⟨⟨_,rfl,rfl⟩,⟨⟨_,rfl,rfl⟩,⟨⟨_,rfl,rfl⟩,⟨⟨_,rfl,rfl⟩,rfl⟩⟩⟩⟩) h75 (fun _ _ _ he=>by obtain ⟨_,rfl,rfl⟩:=he;rfl)) rfl fun a s=>?_
  refine rz0 1 s rfl fun a s=>?_
  refine sz0 2 s rfl fun a s=>?_
  refine cd s u rfl (fun u=>?_) fun u=>?_
  ·refine sz0 2 s rfl fun a s=>?_
   obtain rfl:=oi u
   have h79:=hd66 _ rfl
   subst h79
   exact wp_ret (A8 (j6 (j6 (A8 (j6 (rt s rfl (d.ret rfl)))))))
  refine wp_skip (l8 (tn (wp_region_lit (rz0 2 s rfl fun a s=>?_))))
  exact ⟨_,io u,Sv61,wj s d [] []⟩
 obtain ⟨rv80,u,h81⟩:=a0x u
 have h81:=(hd66 _ h81.symm).symm
 subst h81
 refine wp_exit (j5 (j5 (o9 (tn (sz0 1 s rfl fun a s=>?_)))))
 obtain rfl:=oi u
 exact q1 s rfl (d.ret rfl)
theorem J5 {w0 S0 a1 b2 r} (u:K8 a1 b2=some r) (hS:Dm S0 w0):Ck Tryz.prog 102 #[iv a1,iv b2] w0 S0 [] j4 r:=by
 refine en 13 func102 rfl hS rfl rfl rfl fun a s d=>?_
 refine sz0 1 s rfl fun a s=>?_
 refine wp_seq (wp_block (sz0 4 s rfl fun a s=>?_))
 refine cd s u rfl (fun u=>?_) fun u=>?_
 ·refine sz0 1 s rfl fun a s=>?_
  obtain rfl:=oi u
  exact wp_ret (A8 (j6 (rt s rfl (d.ret rfl))))
 refine sz0 4 s rfl fun a s=>?_
 refine cd s u rfl (fun u=>?_) fun u=>?_
 ·refine sz0 1 s rfl fun a s=>?_
  obtain rfl:=oi u
  exact wp_ret (A8 (j6 (rt s rfl (d.ret rfl))))
 refine wp_skip (l8 (tn (sz0 1 s rfl fun a s=>?_)))
 obtain rfl:=oi u
 exact q1 s rfl (d.ret rfl)
theorem a4L {w0 S0 p2 k3 p6 k7 a1 b5 r} (u:a0X a1 b5=some r) (hS:Dm S0 w0) (h4:(Sq p2 k3 a1.Samples).p S0 w0) (h8:(Sq p6 k7 b5.Samples).p S0 w0):Ck Tryz.prog 96 #[V56 a1 p2 k3,V56 b5 p6 k7] w0 S0 [] j4 r:=by
 refine en 102 func96 rfl hS rfl rfl rfl fun a s d=>?_
 have d:=(d.addE h4).addE h8
 refine sr (wb (C56 a1 p2 k3) s d rfl fun b9 a w s d=>?_)
 refine wb (C56 b5 p6 k7) s d rfl fun b10 a w s d=>?_
 refine rz0 1 s rfl fun a s=>?_
 refine sz0 2 s rfl fun a s=>?_
 refine wp_seq (sn 1 [1] s d rfl rfl fun a s=>?_)
 obtain ⟨rv12,h11,u⟩:=bt u
 refine cV s d (X8 h11 d.bdom (d.bE 1 rfl)) (j3 call60 rfl) rfl fun a w s d=>?_
 refine nl (q8 (fun a w=>∃ (x27:Int) (Sv26:_),a1g a1 b5 x27=some r∧Sl 102 [(2,pt b9),(3,pt b10),(5,iv x27),(6,iv 0)] a∧Wd ⟨w0,S0,[]⟩ Sv26 [.box b9 (C56 a1 p2 k3) 56,.box b10 (C56 b5 p6 k7) 56] [Sq p2 k3 a1.Samples,Sq p6 k7 b5.Samples] w) ?_ ?_)
 ·refine cd s u rfl (fun u=>?_) fun u=>?_
  ·refine wp_region_lit (sv s (a6k (d.ownAt 1 rfl) rfl isAgg56 sizeOf56 rfl rfl) rfl fun a s=>?_)
   obtain ⟨rv457,h456,u⟩:=bt u
   refine cV s d (J9 h456 d.bdom (d.bE 1 rfl)) (j3 call62 rfl) rfl fun a w s d=>?_
   refine rz0 1 s rfl fun a s=>?_
   exact ⟨rv457,S0,u,wj s d [1,0] [1,0]⟩
  exact sk ⟨0,S0,u,wj s d [1,0] [1,0]⟩
 rintro a w ⟨x27,Sv26,u,s,d⟩
 refine tn (wp_seq (sn 1 [1] s d rfl rfl fun a s=>?_))
 obtain ⟨rv29,h28,u⟩:=bt u
 refine cV s d (X8 h28 d.bdom (d.bE 1 rfl)) (j3 call60 rfl) rfl fun a w s d=>?_
 refine nl (q8 (fun a w=>∃ (y44:Int) (Sv43:_),a1h a1 b5 x27 y44=some r∧Sl 102 [(2,pt b9),(3,pt b10),(5,iv x27),(6,iv y44)] a∧Wd ⟨w0,S0,[]⟩ Sv43 [.box b9 (C56 a1 p2 k3) 56,.box b10 (C56 b5 p6 k7) 56] [Sq p2 k3 a1.Samples,Sq p6 k7 b5.Samples] w) ?_ ?_)
 ·refine cd s u rfl (fun u=>?_) fun u=>?_
  ·refine wp_region_lit (sv s (a6k (d.ownAt 1 rfl) rfl isAgg56 sizeOf56 rfl rfl) rfl fun a s=>?_)
   obtain ⟨rv449,h448,u⟩:=bt u
   refine cV s d (J9 h448 d.bdom (d.bE 1 rfl)) (j3 call62 rfl) rfl fun a w s d=>?_
   refine rz0 1 s rfl fun a s=>?_
   exact ⟨rv449,Sv26,u,wj s d [0,1] [0,1]⟩
  exact sk ⟨0,Sv26,u,wj s d [0,1] [0,1]⟩
 rintro a w ⟨y44,Sv43,u,s,d⟩
 refine tn (wp_seq (wp_seq ?_))
 obtain ⟨rv46,h45,u⟩:=bt u
 obtain ⟨rv48,h47,u⟩:=bt u
 obtain ⟨rv50,h49,u⟩:=bt u
 obtain ⟨rv52,h51,u⟩:=bt u
 obtain ⟨rv54,h53,u⟩:=bt u
 obtain ⟨rv56,h55,u⟩:=bt u
 obtain ⟨rv58,h57,u⟩:=bt u
 obtain ⟨rv60,h59,u⟩:=bt u
 obtain ⟨rv62,h61,u⟩:=bt u
 obtain ⟨rv64,h63,u⟩:=bt u
 refine A9 (fun a w=>∃ Sv65,Sl 102 [(2,pt b9),(3,pt b10),(73,.agg #[iv rv46,iv rv48,iv rv50,iv rv52,iv rv54,iv rv56,iv rv58,iv rv60,iv rv62,iv rv64]),(74,iv 0)] a∧Wd ⟨w0,S0,[]⟩ Sv65 [.box b9 (C56 a1 p2 k3) 56,.box b10 (C56 b5 p6 k7) 56] [Sq p2 k3 a1.Samples,Sq p6 k7 b5.Samples] w) ?_ ?_
 ·refine h_c [0,1] [] d rfl rfl (by kernel_rfl) rfl fun hC d=>?_
  refine gn 45 [0,1,2,3,5,6,8,9,10,11,13,14,15,16,18,19,20,21,22,23,25,26,27,28,29,30,32,33,34,35,37,38,39,40,42,43,44,45,47,48,49,50,51,52,55] [0,1,0,1,0,1,0,1,0,1,0,1,0,1,0,1,0,1] s hC rfl rfl rfl fun a s=>?_
  refine ho 4 rfl ?_
  refine cV s d (b0L h45 d.bdom) (j3 call136 rfl) rfl fun a w s d=>?_
  refine h_n [0,1] [] d rfl rfl fun hC=>?_
  refine ho 7 rfl ?_
  refine cV s d (J5 h47 d.bdom) (j3 call102 rfl) rfl fun a w s d=>?_
  refine h_n [0,1] [] d rfl rfl fun hC=>?_
  refine ho 12 rfl ?_
  refine cV s d (J5 h49 d.bdom) (j3 call102 rfl) rfl fun a w s d=>?_
  refine h_n [0,1] [] d rfl rfl fun hC=>?_
  refine ho 17 rfl ?_
  refine cV s d (J5 h51 d.bdom) (j3 call102 rfl) rfl fun a w s d=>?_
  refine h_n [0,1] [] d rfl rfl fun hC=>?_
  refine ho 24 rfl ?_
  refine cV s d (J5 h53 d.bdom) (j3 call102 rfl) rfl fun a w s d=>?_
  refine h_n [0,1] [] d rfl rfl fun hC=>?_
  refine ho 31 rfl ?_
  refine cV s d (J5 h55 d.bdom) (j3 call102 rfl) rfl fun a w s d=>?_
  refine h_n [0,1] [] d rfl rfl fun hC=>?_
  refine ho 36 rfl ?_
  refine cV s d (J5 h57 d.bdom) (j3 call102 rfl) rfl fun a w s d=>?_
  refine h_n [0,1] [] d rfl rfl fun hC=>?_
  refine ho 41 rfl ?_
  refine cV s d (J5 h59 d.bdom) (j3 call102 rfl) rfl fun a w s d=>?_
  refine h_n [0,1] [] d rfl rfl fun hC=>?_
  refine ho 46 rfl ?_
  refine cV s d (J5 h61 d.bdom) (j3 call102 rfl) rfl fun a w s d=>?_
  refine h_n [0,1] [] d rfl rfl fun hC=>?_
  refine ho 53 rfl ?_
  refine cV s d (J5 h63 d.bdom) (j3 call102 rfl) rfl fun a w s d=>?_
  refine h_n [0,1] [] d rfl rfl fun hC=>?_
  refine gv s 54 rfl rfl hC (fun w hC=>D7 (cells:=[iv rv46,iv rv48,iv rv50,iv rv52,iv rv54,iv rv56,iv rv58,iv rv60,iv rv62,iv rv64]) (vs:=[(0,iv rv46),(1,iv rv48),(2,iv rv50),(3,iv rv52),(4,iv rv54),(5,iv rv56),(6,iv rv58),(7,iv rv60),(8,iv rv62),(9,iv rv64)]) Bld150 rfl (by kernel_rfl)) fun a s=>?_
  refine y7 (by kernel_rfl) ?_
  exact ⟨Sv43,wj s d [0,1] [0,1]⟩
 rintro a w ⟨Sv65,s,d⟩
 refine tn (wp_block (u7 (fun sv133 a w=>∃ Sv143,Sl 102 [(2,pt b9),(3,pt b10),(73,.agg #[iv rv46,iv rv48,iv rv50,iv rv52,iv rv54,iv rv56,iv rv58,iv rv60,iv rv62,iv rv64]),(74,iv sv133)] a∧Wd ⟨w0,S0,[]⟩ Sv143 [.box b9 (C56 a1 p2 k3) 56,.box b10 (C56 b5 p6 k7) 56] [Sq p2 k3 a1.Samples,Sq p6 k7 b5.Samples] w) 0 u ⟨Sv65,wj s d [0,1] [0,1]⟩ ?_))
 repeat clear u
 rintro sv133 a w tv149 ⟨Sv143,s,d⟩ u hd148
 refine sz0 1 s rfl fun a s=>?_
 refine wp_seq (cd s u rfl (fun u=>?_) fun u=>?_)
 ·refine sk (wp_seq (wp_block (sr ?_)))
  obtain ⟨x158,h157,u⟩:=bt u
  refine sv s (b5y (α:=Int) (xs:=[rv46,rv48,rv50,rv52,rv54,rv56,rv58,rv60,rv62,rv64]) (cs:=[iv rv46,iv rv48,iv rv50,iv rv52,iv rv54,iv rv56,iv rv58,iv rv60,iv rv62,iv rv64]) (es:=[iv x158]) (v:=iv x158) runUnderlying150 sizeOf3 (.inl ⟨isAgg3,rfl⟩) rfl rfl rfl (fun _ _=>⟨⟨_,rfl,rfl⟩,⟨⟨_,rfl,rfl⟩,⟨⟨_,rfl,rfl⟩,⟨⟨_,rfl,rfl⟩,⟨⟨_,rfl,rfl⟩,⟨⟨_,rfl,rfl⟩,⟨⟨_,rfl,rfl⟩,⟨⟨_,rfl,rfl⟩,⟨⟨_,rfl,rfl⟩,⟨⟨_,rfl,rfl⟩,rfl⟩⟩⟩⟩⟩⟩⟩⟩⟩⟩) h157 (fun _ _ _ he=>by obtain ⟨_,rfl,rfl⟩:=he;rfl)) rfl fun a s=>?_
  refine rz0 1 s rfl fun a s=>?_
  refine sz0 2 s rfl fun a s=>?_
  refine cd s u rfl (fun u=>?_) fun u=>?_
  ·refine sz0 2 s rfl fun a s=>?_
   obtain rfl:=oi u
   have h161:=hd148 _ rfl
   subst h161
   exact wp_ret (A8 (j6 (j6 (A8 (j6 (rt s rfl (d.ret rfl)))))))
  refine wp_skip (l8 (tn (wp_region_lit (rz0 2 s rfl fun a s=>?_))))
  exact ⟨_,io u,Sv143,wj s d [0,1] [0,1]⟩
 obtain ⟨rv445,u,h446⟩:=a0x u
 have h446:=(hd148 _ h446.symm).symm
 subst h446
 refine wp_exit (j5 (j5 (o9 (tn (wp_seq (sz0 1 s rfl fun a s=>?_))))))
 refine wp_block (u7 (fun sv266 a w=>∃ Sv334,Sl 102 [(2,pt b9),(3,pt b10),(9,iv sv266)] a∧Wd ⟨w0,S0,[]⟩ Sv334 [.box b9 (C56 a1 p2 k3) 56,.box b10 (C56 b5 p6 k7) 56] [Sq p2 k3 a1.Samples,Sq p6 k7 b5.Samples] w) 0 u ⟨Sv143,wj s d [0,1] [0,1]⟩ ?_)
 repeat clear u
 rintro sv266 a w tv369 ⟨Sv334,s,d⟩ u hd368
 refine wp_seq (sz 5 [0] s d rfl rfl fun a s=>?_)
 refine cd s u rfl (fun u=>?_) fun u=>?_
 ·refine sk (wp_seq (wp_block (wp_seq ?_)))
  obtain ⟨x406,h404,u⟩:=bt u
  obtain ⟨b412,o413,q410,c411,h414,h407,h408,h409,h405⟩:=d.elemV 0 rfl h404
  have hsv415:=s
  have hwv416:=d
  subst h414
  have s:=hsv415
  have d:=hwv416
  obtain ⟨_,rfl,rfl⟩:=h405
  have d:=d.addE h409
  obtain ⟨x419,h417,u⟩:=bt u
  obtain ⟨b425,o426,q423,c424,h427,h420,h421,h422,h418⟩:=d.elemV 2 rfl h417
  have hsv428:=s
  have hwv429:=d
  subst h427
  have s:=hsv428
  have d:=hwv429
  obtain ⟨_,rfl,rfl⟩:=h418
  have d:=d.addE h422
  obtain ⟨rv431,h430,u⟩:=bt u
  refine A9 (fun a w=>∃ Sv432,Sl 102 [(2,pt b9),(3,pt b10),(9,iv sv266),(10,iv rv431)] a∧Wd ⟨w0,S0,[]⟩ Sv432 [.box b9 (C56 a1 (some ⟨b412,o413,none⟩) k3) 56,.box b10 (C56 b5 (some ⟨b425,o426,none⟩) k7) 56] [Sq (some ⟨b412,o413,none⟩) k3 a1.Samples,Sq (some ⟨b425,o426,none⟩) k7 b5.Samples] w) ?_ ?_
  ·refine h_c [0,1] [0,1] d rfl rfl (by kernel_rfl) rfl fun hC d=>?_
   refine gn 3 [0,1,2] [0] s hC rfl rfl rfl fun a s=>?_
   refine gx s 3 rfl trivial rfl hC runUnderlying22 sizeOf3 rfl rfl h407 h408 fun a s=>?_
   refine gv s 4 rfl rfl hC (fun w hC=>C8 (j:=0) (hC.ceAt 1 rfl) rfl isAgg3 rfl) fun a s=>?_
   refine gn 3 [5,6,7] [1] s hC rfl rfl rfl fun a s=>?_
   refine gx s 8 rfl trivial rfl hC runUnderlying22 sizeOf3 rfl rfl h420 h421 fun a s=>?_
   refine gv s 9 rfl rfl hC (fun w hC=>C8 (j:=0) (hC.ceAt 0 rfl) rfl isAgg3 rfl) fun a s=>?_
   refine ho 10 rfl ?_
   refine cV s d (J5 h430 d.bdom) (j3 call102 rfl) rfl fun a w s d=>?_
   refine h_n [0,1] [0,1] d rfl rfl fun hC=>?_
   refine gv s 11 rfl rfl hC (fun w hC=>R8 rfl) fun a s=>?_
   refine y7 (by kernel_rfl) ?_
   exact ⟨Sv334,wj s d [0,1] [2,3]⟩
  rintro a w ⟨Sv432,s,d⟩
  refine tn (sz0 2 s rfl fun a s=>?_)
  refine cd s u rfl (fun u=>?_) fun u=>?_
  ·refine sz0 2 s rfl fun a s=>?_
   obtain rfl:=oi u
   have h440:=hd368 _ rfl
   subst h440
   exact wp_ret (A8 (j6 (j6 (A8 (j6 (rt s rfl (d.ret rfl)))))))
  refine wp_skip (l8 (tn (wp_region_lit (rn0 2 s rfl fun a s=>?_))))
  obtain ⟨i442,h441,u⟩:=bt u
  refine sv s (o8 rfl h441) rfl fun a s=>?_
  exact nl ⟨_,io u,Sv432,wj s d [0,1] [0,1]⟩
 obtain ⟨rv443,u,h444⟩:=a0x u
 have h444:=(hd368 _ h444.symm).symm
 subst h444
 refine wp_exit (j5 (j5 (o9 (tn (sz0 1 s rfl fun a s=>?_)))))
 obtain rfl:=oi u
 exact q1 s rfl (d.ret rfl)
theorem a6e {w0 S0 p2 k3 l1 r} (u:a2F l1=some r) (hS:Dm S0 w0) (h4:(Sq p2 k3 l1).p S0 w0):Ck Tryz.prog 59 #[sl p2 k3 l1] w0 S0 [] F3 r:=by
 refine en 69 func59 rfl hS rfl rfl rfl fun a s d=>?_
 have d:=d.addE h4
 refine sz0 1 s rfl fun a s=>?_
 refine sz0 1 s rfl fun a s=>?_
 refine wp_seq (sz0 1 s rfl fun a s=>?_)
 obtain ⟨e773,h1414,u⟩:=bt u
 refine q8 (fun a w=>∃ c774 p775 k776 Sv777,Sl 69 [(3,sl p775 k776 e773)] a∧Wd ⟨w0,S0,[]⟩ Sv777 [.row p775 e773.length k776 c774 56 12] [l7 c774 e773] w) ?_ ?_
 ·refine wp_block ?_
  have d:=d.nilRow Record 56
  refine u7 (fun sv5 a w=>∃ c514 p515 k516 Sv517,Sl 69 [(0,sl p2 k3 l1),(3,sl p515 k516 sv5.1),(4,iv sv5.2)] a∧Wd ⟨w0,S0,[]⟩ Sv517 [.row p515 sv5.1.length k516 c514 56 12] [Sq p2 k3 l1,l7 c514 sv5.1] w) (([]:List Record),0) h1414 ⟨[],none,0,S0,wj s d [0] [1,0]⟩ ?_
  clear h1414
  repeat clear u
  rintro sv5 a w tv771 ⟨c514,p515,k516,Sv517,s,d⟩ u hd770
  refine wp_seq (sz0 4 s rfl fun a s=>?_)
  refine cd s u rfl (fun u=>?_) fun u=>?_
  ·refine sk (wp_seq (q8 (fun a w=>∃ (out1028:(List Record)) (c1024 p1025 k1026 Sv1027:_),X9 sv5 out1028=some tv771∧Sl 69 [(0,sl p2 k3 l1),(3,sl p1025 k1026 out1028),(4,iv sv5.2)] a∧Wd ⟨w0,S0,[]⟩ Sv1027 [.row p1025 out1028.length k1026 c1024 56 12] [Sq p2 k3 l1,l7 c1024 out1028] w) ?_ ?_))
   ·refine wp_block (sn0 2 s rfl fun a s=>?_)
    obtain ⟨k1032,h1031,u⟩:=bt u
    refine sv s (o8 rfl h1031) rfl fun a s=>?_
    refine nl (wp_seq ?_)
    obtain ⟨e1162,h1412,u⟩:=bt u
    refine q8 (fun a w=>∃ Sv1163,Sl 69 [(0,sl p2 k3 l1),(3,sl p515 k516 sv5.1),(4,iv sv5.2),(5,iv e1162)] a∧Wd ⟨w0,S0,[]⟩ Sv1163 [.row p515 sv5.1.length k516 c514 56 12] [Sq p2 k3 l1,l7 c514 sv5.1] w) ?_ ?_
    ·refine wp_block (u7 (fun sv1033 a w=>∃ Sv1117,Sl 69 [(0,sl p2 k3 l1),(3,sl p515 k516 sv5.1),(4,iv sv5.2),(5,iv sv1033)] a∧Wd ⟨w0,S0,[]⟩ Sv1117 [.row p515 sv5.1.length k516 c514 56 12] [Sq p2 k3 l1,l7 c514 sv5.1] w) k1032 h1412 ⟨Sv517,wj s d [0] [0,1]⟩ ?_)
     clear h1412
     repeat clear u
     rintro sv1033 a w tv1160 ⟨Sv1117,s,d⟩ u hd1159
     refine wp_seq (wp_seq ?_)
     obtain ⟨c1200,hc1200,u⟩:=bt u
     refine A9 (fun a w=>∃ Sv1201,Sl 69 [(0,sl p2 k3 l1),(3,sl p515 k516 sv5.1),(4,iv sv5.2),(5,iv sv1033),(28,.bool c1200)] a∧Wd ⟨w0,S0,[]⟩ Sv1201 [.row p515 sv5.1.length k516 c514 56 12] [Sq p2 k3 l1,l7 c514 sv5.1] w) ?_ ?_
     ·rcases Bool.eq_false_or_eq_true (decide (0<sv1033)) with h1202 | h1202
      ·have h1203:=E9 hc1200 h1202
       obtain ⟨x1206,h1204,h1203⟩:=H5 h1203
       obtain ⟨b1213,q1210,c1211,h1214,h1207,h1208,h1212,h1205⟩:=d.elemRV (α:=Record) 0 rfl 1 rfl h1204
       have hsv1215:=s
       have hwv1216:=d
       subst h1214
       have s:=hsv1215
       have d:=hwv1216
       obtain ⟨_,_,_,_,_,_,_,_,_,_,_,_,rfl,rfl,rfl,rfl,rfl,rfl,rfl,rfl,rfl,rfl,rfl,rfl,⟨p1217,n1218,k1219,rfl,h1220⟩⟩:=h1205
       obtain rfl:=h1220.1
       have d:=d.addE (e:=SlA p1217 _ k1219 x1206.Samples) h1220
       obtain ⟨x1223,h1221,h1203⟩:=H5 h1203
       obtain ⟨b1229,o1230,q1227,c1228,h1231,h1224,h1225,h1226,h1222⟩:=d.elemV 1 rfl h1221
       have hsv1232:=s
       have hwv1233:=d
       subst h1231
       have s:=hsv1232
       have d:=hwv1233
       obtain ⟨_,_,_,_,_,_,_,_,_,_,_,_,rfl,rfl,rfl,rfl,rfl,rfl,rfl,rfl,rfl,rfl,rfl,rfl,⟨p1234,n1235,k1236,rfl,h1237⟩⟩:=h1222
       obtain rfl:=h1237.1
       have d:=(d.addE (e:=SlA p1234 _ k1236 x1223.Samples) h1237).addE h1226
       obtain ⟨rv1239,h1238,h1203⟩:=H5 h1203
       refine h_c [0] [0] d rfl rfl (by kernel_rfl) rfl fun hC d=>?_
       refine gn 3 [0,1,2] [] s hC rfl rfl rfl fun a s=>?_
       have s:=s.bT 16 rfl h1202
       refine gn 3 [3,4,5] [] s hC rfl rfl rfl fun a s=>?_
       refine gx s 6 rfl ⟨_,rfl,rfl⟩ rfl hC runUnderlying28 sizeOf56 rfl rfl h1207 h1208 fun a s=>?_
       refine gt s 7 rfl ⟨_,rfl,rfl⟩ rfl hC (fun w hC=>I1 (j:=0) (hC.ownAt 0 rfl) rfl isAgg56 sizeOf56 h1212 rfl rfl) fun a s=>?_
       refine gn 2 [8,9] [] s hC rfl rfl rfl fun a s=>?_
       refine gx s 10 rfl ⟨_,rfl,rfl⟩ rfl hC runUnderlying28 sizeOf56 rfl rfl h1224 h1225 fun a s=>?_
       refine gt s 11 rfl ⟨_,rfl,rfl⟩ rfl hC (fun w hC=>G5 (j:=0) (hC.ceAt 0 rfl) rfl isAgg56 sizeOf56 rfl rfl) fun a s=>?_
       refine ho 12 rfl ?_
       refine x9 s (a4L h1238 d.bdom (d.bE 2 rfl) (d.bE 1 rfl)) (j3 call96 rfl) ⟨_,rfl,rfl⟩ rfl rfl ?_
       rintro v1243 Sv1240 w a h1241 rfl s
       have d:=d.callB h1241
       refine h_n [0] [0] d rfl rfl fun hC=>?_
       refine gt s 13 rfl ⟨_,rfl,rfl⟩ rfl hC (fun w hC=>y_gtr rfl rfl) fun a s=>?_
       refine gT s 14 rfl rfl hC rfl rfl h1203 fun a s=>?_
       refine y7 (by kernel_rfl) ?_
       exact ⟨Sv1117,wj s d [0] [3,4]⟩
      have h1245:=F7 hc1200 h1202
      refine h_c [0] [] d rfl rfl (by kernel_rfl) rfl fun hC d=>?_
      refine gn 3 [0,1,2] [] s hC rfl rfl rfl fun a s=>?_
      have s:=s.bF 16 rfl h1202
      refine gn 11 [3,4,5,6,7,8,9,10,11,12,13] [] s hC rfl rfl rfl fun a s=>?_
      refine gF s 14 rfl rfl hC rfl rfl h1245 fun a s=>?_
      refine y7 (by kernel_rfl) ?_
      exact ⟨Sv1117,wj s d [0] [0,1]⟩
     rintro a w ⟨Sv1201,s,d⟩
     refine tn (cd s u rfl (fun u=>?_) fun u=>?_)
     ·refine sk (wp_block (wp_region_lit (rn0 2 s rfl fun a s=>?_)))
      obtain ⟨k1251,h1250,u⟩:=bt u
      refine sv s (o8 rfl h1250) rfl fun a s=>?_
      refine wpList_nil ?_
      exact l8 (tn ⟨_,io u,Sv1201,wj s d [0] [0,1]⟩)
     refine wp_exit (j5 (j5 (o9 ?_)))
     obtain rfl:=oi u
     have h1252:=hd1159 _ rfl
     subst h1252
     exact tn ⟨Sv1201,wj s d [0] [0,1]⟩
    rintro a w ⟨Sv1163,s,d⟩
    refine tn (wp_seq (wp_seq ?_))
    obtain ⟨c1289,hc1289,u⟩:=bt u
    refine A9 (fun a w=>∃ Sv1290,Sl 69 [(0,sl p2 k3 l1),(3,sl p515 k516 sv5.1),(4,iv sv5.2),(5,iv e1162),(45,.bool c1289)] a∧Wd ⟨w0,S0,[]⟩ Sv1290 [.row p515 sv5.1.length k516 c514 56 12] [Sq p2 k3 l1,l7 c514 sv5.1] w) ?_ ?_
    ·rcases Bool.eq_false_or_eq_true (decide (0<e1162)) with h1291 | h1291
     ·have h1292:=E9 hc1289 h1291
      obtain ⟨x1295,h1293,h1292⟩:=H5 h1292
      obtain ⟨b1302,q1299,c1300,h1303,h1296,h1297,h1301,h1294⟩:=d.elemRV (α:=Record) 0 rfl 1 rfl h1293
      have hsv1304:=s
      have hwv1305:=d
      subst h1303
      have s:=hsv1304
      have d:=hwv1305
      obtain ⟨_,_,_,_,_,_,_,_,_,_,_,_,rfl,rfl,rfl,rfl,rfl,rfl,rfl,rfl,rfl,rfl,rfl,rfl,⟨p1306,n1307,k1308,rfl,h1309⟩⟩:=h1294
      obtain rfl:=h1309.1
      have d:=d.addE (e:=SlA p1306 _ k1308 x1295.Samples) h1309
      obtain ⟨x1312,h1310,h1292⟩:=H5 h1292
      obtain ⟨b1318,o1319,q1316,c1317,h1320,h1313,h1314,h1315,h1311⟩:=d.elemV 1 rfl h1310
      have hsv1321:=s
      have hwv1322:=d
      subst h1320
      have s:=hsv1321
      have d:=hwv1322
      obtain ⟨_,_,_,_,_,_,_,_,_,_,_,_,rfl,rfl,rfl,rfl,rfl,rfl,rfl,rfl,rfl,rfl,rfl,rfl,⟨p1323,n1324,k1325,rfl,h1326⟩⟩:=h1311
      obtain rfl:=h1326.1
      have d:=(d.addE (e:=SlA p1323 _ k1325 x1312.Samples) h1326).addE h1315
      obtain ⟨rv1328,h1327,h1292⟩:=H5 h1292
      refine h_c [0] [0] d rfl rfl (by kernel_rfl) rfl fun hC d=>?_
      refine gn 3 [0,1,2] [] s hC rfl rfl rfl fun a s=>?_
      have s:=s.bT 33 rfl h1291
      refine gn 3 [3,4,5] [] s hC rfl rfl rfl fun a s=>?_
      refine gx s 6 rfl ⟨_,rfl,rfl⟩ rfl hC runUnderlying28 sizeOf56 rfl rfl h1296 h1297 fun a s=>?_
      refine gt s 7 rfl ⟨_,rfl,rfl⟩ rfl hC (fun w hC=>I1 (j:=0) (hC.ownAt 0 rfl) rfl isAgg56 sizeOf56 h1301 rfl rfl) fun a s=>?_
      refine gn 2 [8,9] [] s hC rfl rfl rfl fun a s=>?_
      refine gx s 10 rfl ⟨_,rfl,rfl⟩ rfl hC runUnderlying28 sizeOf56 rfl rfl h1313 h1314 fun a s=>?_
      refine gt s 11 rfl ⟨_,rfl,rfl⟩ rfl hC (fun w hC=>G5 (j:=0) (hC.ceAt 0 rfl) rfl isAgg56 sizeOf56 rfl rfl) fun a s=>?_
      refine ho 12 rfl ?_
      refine x9 s (a4L h1327 d.bdom (d.bE 2 rfl) (d.bE 1 rfl)) (j3 call96 rfl) ⟨_,rfl,rfl⟩ rfl rfl ?_
      rintro v1332 Sv1329 w a h1330 rfl s
      have d:=d.callB h1330
      refine h_n [0] [0] d rfl rfl fun hC=>?_
      refine gt s 13 rfl ⟨_,rfl,rfl⟩ rfl hC (fun w hC=>b4T rfl rfl) fun a s=>?_
      refine gT s 14 rfl rfl hC rfl rfl h1292 fun a s=>?_
      refine y7 (by kernel_rfl) ?_
      exact ⟨Sv1163,wj s d [0] [3,4]⟩
     have h1334:=F7 hc1289 h1291
     refine h_c [0] [] d rfl rfl (by kernel_rfl) rfl fun hC d=>?_
     refine gn 3 [0,1,2] [] s hC rfl rfl rfl fun a s=>?_
     have s:=s.bF 33 rfl h1291
     refine gn 11 [3,4,5,6,7,8,9,10,11,12,13] [] s hC rfl rfl rfl fun a s=>?_
     refine gF s 14 rfl rfl hC rfl rfl h1334 fun a s=>?_
     refine y7 (by kernel_rfl) ?_
     exact ⟨Sv1163,wj s d [0] [0,1]⟩
    rintro a w ⟨Sv1290,s,d⟩
    refine tn (cd s u rfl (fun u=>?_) fun u=>?_)
    ·exact wp_exit (j5 (o9 (tn ⟨sv5.1,c514,p515,k516,Sv1290,u,wj s d [0] [0,1]⟩)))
    refine sk (sn0 3 s rfl fun a s=>?_)
    obtain ⟨x1339,h1337,u⟩:=bt u
    obtain ⟨b1345,o1346,q1343,c1344,h1347,h1340,h1341,h1342,h1338⟩:=d.elemV 0 rfl h1337
    have hsv1348:=s
    have hwv1349:=d
    subst h1347
    have s:=hsv1348
    have d:=hwv1349
    obtain ⟨_,_,_,_,_,_,_,_,_,_,_,_,rfl,rfl,rfl,rfl,rfl,rfl,rfl,rfl,rfl,rfl,rfl,rfl,⟨p1350,n1351,k1352,rfl,h1353⟩⟩:=h1338
    obtain rfl:=h1353.1
    have d:=(d.addE (e:=SlA p1350 _ k1352 x1339.Samples) h1353).addE h1342
    refine sv s (o6 runUnderlying28 sizeOf56 rfl rfl h1340.1 h1340.2 h1341) rfl fun a s=>?_
    refine sv s (G5 (j:=0) (d.ceAt 0 rfl) rfl isAgg56 sizeOf56 rfl rfl) rfl fun a s=>?_
    refine o7 (α:=Record) (vs:=[V56 x1339 p1350 k1352]) (cs:=(C56 x1339 p1350 k1352)) (xs:=([x1339]:List Record)) s d a9F rfl rfl rfl rfl rfl rfl ⟨⟨_,_,_,_,_,_,_,_,_,_,_,_,rfl,rfl,rfl,rfl,rfl,rfl,rfl,rfl,rfl,rfl,rfl,rfl,⟨_,_,_,rfl,d.envAt 1 rfl⟩⟩,rfl⟩ rfl trivial rfl fun b1355 a w s d=>?_
    obtain ⟨l1357,h1356,u⟩:=bt u
    refine F4 (α:=Record) s d a9F 1 rfl rfl rfl 4 rfl 0 rfl 0 rfl h1356 rfl trivial ?_
    intro p1358 k1359 c1360 a w s d
    refine rz0 1 s rfl fun a s=>?_
    refine wp_seq ?_
    obtain ⟨l1365,h1361,u⟩:=bt u
    obtain ⟨p1363,k1364,h1362⟩:=a5h (α:=Record) d 1 rfl h1361
    obtain ⟨l1370,h1366,u⟩:=bt u
    obtain ⟨p1368,k1369,h1367⟩:=a5h (α:=Record) d 1 rfl h1366
    obtain ⟨l1371,h1372,u⟩:=bt u
    refine A9 (fun a w=>∃ Sv1375 c1373,Sl 69 [(0,sl (some ⟨b1345,o1346,none⟩) k3 l1),(3,sl p1358 k1359 l1371),(4,iv sv5.2),(5,iv e1162)] a∧Wd ⟨w0,S0,[]⟩ Sv1375 [.row p1358 l1371.length k1359 c1373 56 12] [Sq (some ⟨b1345,o1346,none⟩) k3 l1,l7 c1373 l1371] w) ?_ ?_
    ·refine h_c [0] [2] d rfl rfl (by kernel_rfl) rfl fun hC d=>?_
     refine gn 3 [0,1,2] [] s hC rfl rfl rfl fun a s=>?_
     refine gv s 3 rfl rfl hC (fun w hC=>a4E runUnderlying28 sizeOf56 rfl ⟨_,rfl⟩ (by exact rfl) h1362) fun a s=>?_
     refine gn 2 [4,5] [] s hC rfl rfl rfl fun a s=>?_
     refine gv s 6 rfl rfl hC (fun w hC=>a4E runUnderlying28 sizeOf56 rfl ⟨_,rfl⟩ (by exact rfl) h1367) fun a s=>?_
     refine ho 7 rfl ?_
     obtain ⟨ds_,h1378⟩:=b5t (d.ownAt 1 rfl) (d.envAt 0 rfl) h1366 h1367
     refine b3V (α:=Record) s d 1 rfl 0 rfl runUnderlying28 runUnderlying28 sizeOf56 (by decide) h1361 h1362 rfl rfl rfl h1378.1 h1378.2.1 h1378.2.2 rfl trivial ?_
     intro c1373 a w s d
     rw [Option.some.inj h1372] at d
     have h1374:=(a5M h1361 h1372)
     try have s:=s.fl 3 rfl h1374
     try have s:=s.fl 53 rfl h1374
     try have s:=s.fl 57 rfl h1374
     refine h_n [0] [3] d rfl rfl fun hC=>?_
     refine y7 (by kernel_rfl) ?_
     exact ⟨Sv1290,c1373,wj s d [1] [5,0]⟩
    rintro a w ⟨Sv1375,c1373,s,d⟩
    refine tn (wp_region_lit (rn0 4 s rfl fun a s=>?_))
    obtain ⟨x1381,h1379,u⟩:=bt u
    obtain ⟨q1385,c1386,h1382,h1383,h1384,h1380⟩:=d.elemK 0 rfl h1379
    obtain ⟨_,_,_,_,_,_,_,_,_,_,_,_,rfl,rfl,rfl,rfl,rfl,rfl,rfl,rfl,rfl,rfl,rfl,rfl,⟨p1387,n1388,k1389,rfl,h1390⟩⟩:=h1380
    obtain rfl:=h1390.1
    have d:=(d.addE (e:=SlA p1387 _ k1389 x1381.Samples) h1390).addE h1384
    refine sv s (o6 runUnderlying28 sizeOf56 rfl rfl h1382.1 h1382.2 h1383) rfl fun a s=>?_
    refine sv s (G5 (j:=0) (d.ceAt 0 rfl) rfl isAgg56 sizeOf56 rfl rfl) rfl fun a s=>?_
    obtain ⟨x1393,h1391,u⟩:=bt u
    obtain ⟨b1400,q1397,c1398,h1401,h1394,h1395,h1399,h1392⟩:=d.elemRV (α:=Record) 0 rfl 3 rfl h1391
    have hsv1402:=s
    have hwv1403:=d
    subst h1401
    have s:=hsv1402
    have d:=hwv1403
    obtain ⟨_,_,_,_,_,_,_,_,_,_,_,_,rfl,rfl,rfl,rfl,rfl,rfl,rfl,rfl,rfl,rfl,rfl,rfl,⟨p1404,n1405,k1406,rfl,h1407⟩⟩:=h1392
    obtain rfl:=h1407.1
    have d:=d.addE (e:=SlA p1404 _ k1406 x1393.Samples) h1407
    refine sv s (o6 runUnderlying28 sizeOf56 rfl rfl h1394.1 h1394.2 h1395) rfl fun a s=>?_
    obtain ⟨l1409,h1408,u⟩:=bt u
    refine a2M (α:=Record) s d 0 rfl 4 rfl h1395 rfl rfl sizeOf56 rfl h1408 ⟨_,_,_,_,_,_,_,_,_,_,_,_,rfl,rfl,rfl,rfl,rfl,rfl,rfl,rfl,rfl,rfl,rfl,rfl,⟨_,_,_,rfl,d.envAt 2 rfl⟩⟩ trivial ?_
    intro c1410 a w s d
    have h1411:=Y0 h1408
    try have s:=s.fl 3 rfl h1411
    try have s:=s.fl 61 rfl h1411
    refine wpList_nil ?_
    exact l8 (tn ⟨l1409,c1410,(ad b1400),k1359,Sv1375,u,wj s d [0] [4,0]⟩)
   rintro a w ⟨out1028,c1024,p1025,k1026,Sv1027,u,s,d⟩
   refine tn (wp_region_lit (rn0 2 s rfl fun a s=>?_))
   obtain ⟨i1030,h1029,u⟩:=bt u
   refine sv s (o8 rfl h1029) rfl fun a s=>?_
   exact nl ⟨_,io u,c1024,p1025,k1026,Sv1027,wj s d [0] [0,1]⟩
  refine wp_exit (j5 (j5 (o9 ?_)))
  obtain rfl:=oi u
  have h1413:=hd770 _ rfl
  subst h1413
  exact tn ⟨c514,p515,k516,Sv517,wj s d [0] [1]⟩
 rintro a w ⟨c774,p775,k776,Sv777,s,d⟩
 refine tn (sz0 2 s rfl fun a s=>?_)
 obtain rfl:=oi u
 exact q1 s rfl (d.ret ⟨p775,k776,c774,rfl,(d.outs [0] (by decide) rfl),(d.envAt 0 rfl)⟩)
theorem a8y {w0 S0 p2 k3 l1 r} (u:a2E l1=some r) (hS:Dm S0 w0) (h4:(Sq p2 k3 l1).p S0 w0):Ck Tryz.prog 22 #[sl p2 k3 l1] w0 S0 [] a2N r:=by
 refine en 9 func22 rfl hS rfl rfl rfl fun a s d=>?_
 have d:=d.addE h4
 refine sz0 2 s rfl fun a s=>?_
 refine wp_seq (sn0 1 s rfl fun a s=>?_)
 obtain ⟨rv6,h5,u⟩:=bt u
 refine cV s d (a4l h5 d.bdom (d.bE 0 rfl)) (j3 call56 rfl) rfl fun a w s d=>?_
 refine rz0 1 s rfl fun a s=>?_
 refine cd s u rfl (fun u=>?_) fun u=>?_
 ·refine sz0 2 s rfl fun a s=>?_
  obtain rfl:=oi u
  have d:=d.nilRow Record 56
  exact wp_ret (j6 (Q8 s rfl (q9 rfl) (q9 rfl) (d.ret ⟨none,0,[],rfl,(d.outs [0] (by decide) rfl),(d.envAt 0 rfl)⟩)))
 refine sk (sn0 1 s rfl fun a s=>?_)
 obtain ⟨rv15,h14,u⟩:=bt u
 refine cR s (a6e h14 d.dom (d.envAt 0 rfl)) (j3 call59 rfl) rfl ?_
 rintro v23 Sv20 w a h21 ⟨p16,k17,c19,rfl,h24,h18⟩ s
 have d:=(d.callN h21 h24).addE (e:=l7 c19 rv15) h18
 refine rz0 2 s rfl fun a s=>?_
 obtain rfl:=oi u
 exact wp_ret (Q8 s rfl (q9 rfl) (q9 rfl) (d.ret ⟨p16,k17,c19,rfl,(d.outs [0] (by decide) rfl),(d.envAt 0 rfl)⟩))
theorem b3K {w0 S0 p2 k3 c4 l1 x6 r} (u:a8N l1 x6=some r) (hS:Dm S0 w0) (hin:Ins S0 w0 [.row p2 l1.length k3 c4 3 1]) (h5:(l7 c4 l1).p S0 w0):Ck Tryz.prog 79 #[sl p2 k3 l1,iv x6] w0 S0 (I8 [.row p2 l1.length k3 c4 3 1]) K3 r:=by
 refine enI 49 func79 rfl hS hin rfl rfl rfl fun a s d=>?_
 have d:=(d.addE h5).addE (e:=a1r l1.length l1) b1D
 refine sz0 1 s rfl fun a s=>?_
 refine sz0 1 s rfl fun a s=>?_
 refine wp_seq ?_
 obtain ⟨e109,h220,u⟩:=bt u
 refine q8 (fun a w=>∃ Sv110,Sl 49 [(0,sl p2 k3 l1),(1,iv x6),(5,iv e109)] a∧Wd ⟨w0,S0,I8 [.row p2 l1.length k3 c4 3 1]⟩ Sv110 [.row p2 l1.length k3 c4 3 1] [l7 c4 l1,a1r l1.length l1] w) ?_ ?_
 ·refine wp_block (u7 (fun sv7 a w=>∃ Sv73,Sl 49 [(0,sl p2 k3 l1),(1,iv x6),(5,iv sv7)] a∧Wd ⟨w0,S0,I8 [.row p2 l1.length k3 c4 3 1]⟩ Sv73 [.row p2 l1.length k3 c4 3 1] [l7 c4 l1,a1r l1.length l1] w) 0 h220 ⟨S0,wj s d [0] [1,0]⟩ ?_)
  clear h220
  repeat clear u
  rintro sv7 a w tv107 ⟨Sv73,s,d⟩ u hd106
  refine wp_seq (sn0 5 s rfl fun a s=>?_)
  obtain ⟨c125,hc125,u⟩:=bt u
  refine C7 7 (fun a w=>∃ Sv126,Sl 49 [(0,sl p2 k3 l1),(1,iv x6),(5,iv sv7),(17,.bool c125)] a∧Wd ⟨w0,S0,I8 [.row p2 l1.length k3 c4 3 1]⟩ Sv126 [.row p2 l1.length k3 c4 3 1] [l7 c4 l1,a1r l1.length l1] w) ?_ ?_
  ·rcases Bool.eq_false_or_eq_true (decide (sv7<(l1.length:Int))) with h124 | h124
   ·have s:=s.bT 10 rfl h124
    have u:=E9 hc125 h124
    refine rn0 2 s rfl fun a s=>?_
    obtain ⟨x129,h127,u⟩:=bt u
    obtain ⟨b136,q133,c134,h137,h130,h131,h135,h128⟩:=d.elemRV (α:=Int) 0 rfl 0 rfl h127
    have hsv138:=s
    have hwv139:=d
    subst h137
    have s:=hsv138
    have d:=hwv139
    obtain ⟨_,rfl,rfl⟩:=h128
    refine I6 s (o6 runUnderlying22 sizeOf3 rfl rfl h130.1 h130.2 h131) ⟨_,rfl,rfl⟩ rfl rfl fun a s=>?_
    refine I6 s (A7 (j:=0) (d.ownAt 0 rfl) rfl isAgg3 h135 rfl) ⟨_,rfl,rfl⟩ rfl rfl fun a s=>?_
    refine rn0 3 s rfl fun a s=>?_
    refine wpList_nil ?_
    obtain rfl:=oi u
    exact tn ⟨Sv73,wj s d [0] [0,1]⟩
   have s:=s.bF 10 rfl h124
   have u:=F7 hc125 h124
   refine rn0 7 s rfl fun a s=>?_
   refine wpList_nil ?_
   obtain rfl:=oi u
   exact tn ⟨Sv73,wj s d [0] [0,1]⟩
  rintro a w ⟨Sv126,s,d⟩
  refine nl (cd s u rfl (fun u=>?_) fun u=>?_)
  ·refine sk (wp_block (wp_region_lit (rn0 2 s rfl fun a s=>?_)))
   obtain ⟨k145,h144,u⟩:=bt u
   refine sv s (o8 rfl h144) rfl fun a s=>?_
   refine wpList_nil ?_
   exact l8 (tn ⟨_,io u,Sv126,wj s d [0] [0,1]⟩)
  refine wp_exit (j5 (j5 (o9 ?_)))
  obtain rfl:=oi u
  have h146:=hd106 _ rfl
  subst h146
  exact tn ⟨Sv126,wj s d [0] [0,1]⟩
 rintro a w ⟨Sv110,s,d⟩
 refine tn (wp_seq (sn0 5 s rfl fun a s=>?_))
 obtain ⟨c161,hc161,u⟩:=bt u
 refine C7 7 (fun a w=>∃ Sv162,Sl 49 [(0,sl p2 k3 l1),(1,iv x6),(5,iv e109),(31,.bool c161)] a∧Wd ⟨w0,S0,I8 [.row p2 l1.length k3 c4 3 1]⟩ Sv162 [.row p2 l1.length k3 c4 3 1] [l7 c4 l1,a1r l1.length l1] w) ?_ ?_
 ·rcases Bool.eq_false_or_eq_true (decide (e109<(l1.length:Int))) with h160 | h160
  ·have s:=s.bT 24 rfl h160
   have u:=E9 hc161 h160
   refine rn0 2 s rfl fun a s=>?_
   obtain ⟨x165,h163,u⟩:=bt u
   obtain ⟨b172,q169,c170,h173,h166,h167,h171,h164⟩:=d.elemRV (α:=Int) 0 rfl 0 rfl h163
   have hsv174:=s
   have hwv175:=d
   subst h173
   have s:=hsv174
   have d:=hwv175
   obtain ⟨_,rfl,rfl⟩:=h164
   refine I6 s (o6 runUnderlying22 sizeOf3 rfl rfl h166.1 h166.2 h167) ⟨_,rfl,rfl⟩ rfl rfl fun a s=>?_
   refine I6 s (A7 (j:=0) (d.ownAt 0 rfl) rfl isAgg3 h171 rfl) ⟨_,rfl,rfl⟩ rfl rfl fun a s=>?_
   refine rn0 3 s rfl fun a s=>?_
   refine wpList_nil ?_
   obtain rfl:=oi u
   exact tn ⟨Sv110,wj s d [0] [0,1]⟩
  have s:=s.bF 24 rfl h160
  have u:=F7 hc161 h160
  refine rn0 7 s rfl fun a s=>?_
  refine wpList_nil ?_
  obtain rfl:=oi u
  exact tn ⟨Sv110,wj s d [0] [0,1]⟩
 rintro a w ⟨Sv162,s,d⟩
 refine nl (cd s u rfl (fun u=>?_) fun u=>?_)
 ·refine sz0 2 s rfl fun a s=>?_
  obtain rfl:=oi u
  exact wp_ret (j6 (rt s rfl (d.ret ⟨p2,k3,c4,rfl,(d.outs [0] (by decide) rfl),(d.envAt 0 rfl)⟩)))
 refine sk (sn0 1 s rfl fun a s=>?_)
 refine o7 (α:=Int) (vs:=[iv 0]) (cs:=[iv 0]) (xs:=([0]:List Int)) s d S9 rfl rfl rfl rfl rfl rfl ⟨⟨_,rfl,rfl⟩,rfl⟩ rfl trivial rfl fun b179 a w s d=>?_
 obtain ⟨l181,h180,u⟩:=bt u
 refine F4 (α:=Int) s d S9 1 rfl rfl rfl 1 rfl 0 rfl 0 rfl h180 rfl trivial ?_
 intro p182 k183 c184 a w s d
 refine rz0 1 s rfl fun a s=>?_
 refine wp_seq ?_
 obtain ⟨l189,h185,u⟩:=bt u
 obtain ⟨p187,k188,h186⟩:=a5h (α:=Int) d 1 rfl h185
 obtain ⟨l194,h190,u⟩:=bt u
 obtain ⟨p192,k193,h191⟩:=a5h (α:=Int) d 1 rfl h190
 obtain ⟨l195,h196,u⟩:=bt u
 refine A9 (fun a w=>∃ Sv199 c197,Sl 49 [(0,sl p182 k183 l195),(1,iv x6),(5,iv e109)] a∧Wd ⟨w0,S0,I8 [.row p2 l1.length k3 c4 3 1]⟩ Sv199 [.row p182 l195.length k183 c197 3 1] [l7 c197 l195] w) ?_ ?_
 ·refine h_c [0] [] d rfl rfl (by kernel_rfl) rfl fun hC d=>?_
  refine gn 3 [0,1,2] [] s hC rfl rfl rfl fun a s=>?_
  refine gv s 3 rfl rfl hC (fun w hC=>a4E runUnderlying22 sizeOf3 rfl ⟨_,rfl⟩ (by exact rfl) h186) fun a s=>?_
  refine gn 2 [4,5] [] s hC rfl rfl rfl fun a s=>?_
  refine gv s 6 rfl rfl hC (fun w hC=>a4E runUnderlying22 sizeOf3 rfl ⟨_,rfl⟩ (by exact rfl) h191) fun a s=>?_
  refine ho 7 rfl ?_
  obtain ⟨ds_,h202⟩:=b5t (d.ownAt 1 rfl) (d.envAt 0 rfl) h190 h191
  refine b3V (α:=Int) s d 1 rfl 0 rfl runUnderlying22 runUnderlying22 sizeOf3 (by decide) h185 h186 rfl rfl rfl h202.1 h202.2.1 h202.2.2 rfl trivial ?_
  intro c197 a w s d
  rw [Option.some.inj h196] at d
  have h198:=(a5M h185 h196)
  try have s:=s.fl 0 rfl h198
  try have s:=s.fl 36 rfl h198
  try have s:=s.fl 40 rfl h198
  refine h_n [0] [] d rfl rfl fun hC=>?_
  refine y7 (by kernel_rfl) ?_
  exact ⟨Sv162,c197,wj s d [1] [0]⟩
 rintro a w ⟨Sv199,c197,s,d⟩
 refine tn (sn0 3 s rfl fun a s=>?_)
 obtain ⟨x205,h203,u⟩:=bt u
 obtain ⟨b212,q209,c210,h213,h206,h207,h211,h204⟩:=d.elemRV (α:=Int) 0 rfl 0 rfl h203
 have hsv214:=s
 have hwv215:=d
 subst h213
 have s:=hsv214
 have d:=hwv215
 obtain ⟨_,rfl,rfl⟩:=h204
 refine sv s (o6 runUnderlying22 sizeOf3 rfl rfl h206.1 h206.2 h207) rfl fun a s=>?_
 obtain ⟨l217,h216,u⟩:=bt u
 refine a2M (α:=Int) s d 0 rfl 0 rfl h207 rfl rfl sizeOf3 rfl h216 ⟨_,rfl,rfl⟩ trivial ?_
 intro c218 a w s d
 have h219:=Y0 h216
 try have s:=s.fl 0 rfl h219
 try have s:=s.fl 44 rfl h219
 refine nl (sz0 2 s rfl fun a s=>?_)
 obtain rfl:=oi u
 exact q1 s rfl (d.ret ⟨(ad b212),k183,c218,rfl,(d.outs [0] (by decide) rfl),(d.envAt 0 rfl)⟩)
abbrev b4E (w0:World) (X:List Nat) (r:(List (Arr2 Int))):Rd:=fun S w v=>∃ p0_0 k0_0 c0_0,v=sl p0_0 k0_0 r∧Outs X w0 S w [.row p0_0 r.length k0_0 c0_0 50 2]∧(l7 c0_0 r).p S w
theorem b1h {w0 S0 p2 k3 l1 t5 r} (u:a8A l1 t5=some r) (hS:Dm S0 w0) (h4:(Sq p2 k3 l1).p S0 w0):Ck Tryz.prog 80 #[sl p2 k3 l1,iv t5] w0 S0 [] b4E r:=by
 refine en 79 func80 rfl hS rfl rfl rfl fun a s d=>?_
 have d:=d.addE h4
 refine sz0 1 s rfl fun a s=>?_
 refine sz0 1 s rfl fun a s=>?_
 refine wp_seq (sz0 1 s rfl fun a s=>?_)
 obtain ⟨e1191,h2220,u⟩:=bt u
 refine q8 (fun a w=>∃ c1192 p1193 k1194 Sv1195,Sl 79 [(5,sl p1193 k1194 e1191)] a∧Wd ⟨w0,S0,[]⟩ Sv1195 [.row p1193 e1191.length k1194 c1192 50 2] [l7 c1192 e1191] w) ?_ ?_
 ·refine wp_block ?_
  have d:=d.nilRow (Arr2 Int) 50
  refine u7 (fun sv6 a w=>∃ c793 p794 k795 Sv796,Sl 79 [(0,sl p2 k3 l1),(1,iv t5),(5,sl p794 k795 sv6.1),(6,iv sv6.2)] a∧Wd ⟨w0,S0,[]⟩ Sv796 [.row p794 sv6.1.length k795 c793 50 2] [Sq p2 k3 l1,l7 c793 sv6.1] w) (([]:List (Arr2 Int)),0) h2220 ⟨[],none,0,S0,wj s d [0] [1,0]⟩ ?_
  clear h2220
  repeat clear u
  rintro sv6 a w tv1189 ⟨c793,p794,k795,Sv796,s,d⟩ u hd1188
  refine wp_seq (sz0 4 s rfl fun a s=>?_)
  refine cd s u rfl (fun u=>?_) fun u=>?_
  ·refine sk (wp_seq (q8 (fun a w=>∃ (out1585:(List (Arr2 Int))) (c1581:List Value) (p1582:Option Addr) (k1583:Nat) (Sv1584:Nat→Prop),a6G sv6 out1585=some tv1189∧Sl 79 [(0,sl p2 k3 l1),(1,iv t5),(5,sl p1582 k1583 out1585),(6,iv sv6.2)] a∧Wd ⟨w0,S0,[]⟩ Sv1584 [.row p1582 out1585.length k1583 c1581 50 2] [Sq p2 k3 l1,l7 c1581 out1585] w) ?_ ?_))
   ·refine wp_block (sn0 2 s rfl fun a s=>?_)
    obtain ⟨x1590,h1588,u⟩:=bt u
    obtain ⟨b1596,o1597,q1594,c1595,h1598,h1591,h1592,h1593,h1589⟩:=d.elemV 0 rfl h1588
    have hsv1599:=s
    have hwv1600:=d
    subst h1598
    have s:=hsv1599
    have d:=hwv1600
    obtain ⟨_,_,_,_,_,_,_,_,_,_,_,_,rfl,rfl,rfl,rfl,rfl,rfl,rfl,rfl,rfl,rfl,rfl,rfl,⟨p1601,n1602,k1603,rfl,h1604⟩⟩:=h1589
    obtain rfl:=h1604.1
    have d:=(d.addE (e:=SlA p1601 _ k1603 x1590.Samples) h1604).addE h1593
    refine sv s (o6 runUnderlying28 sizeOf56 rfl rfl h1591.1 h1591.2 h1592) rfl fun a s=>?_
    refine sv s (G5 (j:=0) (d.ceAt 0 rfl) rfl isAgg56 sizeOf56 rfl rfl) rfl fun a s=>?_
    obtain ⟨rv1606,h1605,u⟩:=bt u
    refine cV s d (a5e h1605 d.bdom (d.bE 1 rfl)) (j3 call31 rfl) rfl fun a w s d=>?_
    refine rn0 3 s rfl fun a s=>?_
    refine wa [iv 0,iv 0] s d zeroValue71 fun b1612 a w s d=>?_
    refine ws (C71 rv1606.1) s d 0 rfl rfl rfl sizeOf71 fun a w s d=>?_
    refine rz0 1 s rfl fun a s=>?_
    refine wp_seq (sn 5 [0] s d rfl rfl fun a s=>?_)
    refine rO 5 29 [0] s d rfl rfl rfl rfl rfl fun a s=>?_
    refine nl (cd s u rfl (fun u=>?_) fun u=>?_)
    ·exact wp_exit (j5 (o9 (tn ⟨sv6.1,c793,p794,k795,Sv796,u,wj s d [1] [2,3]⟩)))
    refine sk (sz0 1 s rfl fun a s=>?_)
    obtain ⟨e1967,h2218,u⟩:=bt u
    refine q8 (fun a w=>∃ c1968 p1969 k1970 Sv1971,Sl 79 [(0,sl (some ⟨b1596,o1597,none⟩) k3 l1),(1,iv t5),(5,sl p1969 k1970 e1967),(6,iv sv6.2)] a∧Wd ⟨w0,S0,[]⟩ Sv1971 [.row p1969 e1967.length k1970 c1968 50 2] [Sq (some ⟨b1596,o1597,none⟩) k3 l1,l7 c1968 e1967] w) ?_ ?_
    ·refine wp_block (u7 (fun sv1616 a w=>∃ c1847 p1848 k1849 Sv1850,Sl 79 [(0,sl (some ⟨b1596,o1597,none⟩) k3 l1),(1,iv t5),(5,sl p1848 k1849 sv1616.1),(6,iv sv6.2),(9,iv sv1616.2)] a∧Wd ⟨w0,S0,[]⟩ Sv1850 [.row p1848 sv1616.1.length k1849 c1847 50 2] [Sq (some ⟨b1596,o1597,none⟩) k3 l1,l7 c1847 sv1616.1] w) (sv6.1,0) h2218 ⟨c793,p794,k795,Sv796,wj s d [1] [2,3]⟩ ?_)
     clear h2218
     repeat clear u
     rintro sv1616 a w tv1965 ⟨c1847,p1848,k1849,Sv1850,s,d⟩ u hd1964
     refine wp_seq (sn0 3 s rfl fun a s=>?_)
     obtain ⟨x1974,h1972,u⟩:=bt u
     obtain ⟨q1978,c1979,h1975,h1976,h1977,h1973⟩:=d.elemK 0 rfl h1972
     obtain ⟨_,_,_,_,_,_,_,_,_,_,_,_,rfl,rfl,rfl,rfl,rfl,rfl,rfl,rfl,rfl,rfl,rfl,rfl,⟨p1980,n1981,k1982,rfl,h1983⟩⟩:=h1973
     obtain rfl:=h1983.1
     have d:=(d.addE (e:=SlA p1980 _ k1982 x1974.Samples) h1983).addE h1977
     refine sv s (o6 runUnderlying28 sizeOf56 rfl rfl h1975.1 h1975.2 h1976) rfl fun a s=>?_
     refine sv s (l5 (o':=q1978+11) runUnderlying56 rfl sizeOf22 rfl rfl rfl) rfl fun a s=>?_
     refine sv s (C8 (j:=11) (d.ceAt 0 rfl) rfl isAgg22 rfl) rfl fun a s=>?_
     refine rz0 2 s rfl fun a s=>?_
     refine cd s u rfl (fun u=>?_) fun u=>?_
     ·refine sk (wp_seq (wp_block (sn0 2 s rfl fun a s=>?_)))
      obtain ⟨x2086,h2084,u⟩:=bt u
      obtain ⟨q2090,c2091,h2087,h2088,h2089,h2085⟩:=d.elemK 2 rfl h2084
      obtain ⟨_,_,_,_,_,_,_,_,_,_,_,_,rfl,rfl,rfl,rfl,rfl,rfl,rfl,rfl,rfl,rfl,rfl,rfl,⟨p2092,n2093,k2094,rfl,h2095⟩⟩:=h2085
      obtain rfl:=h2095.1
      have d:=(d.addE (e:=SlA p2092 _ k2094 x2086.Samples) h2095).addE h2089
      refine sv s (o6 runUnderlying28 sizeOf56 rfl rfl h2087.1 h2087.2 h2088) rfl fun a s=>?_
      refine sv s (G5 (j:=0) (d.ceAt 0 rfl) rfl isAgg56 sizeOf56 rfl rfl) rfl fun a s=>?_
      refine mv s rfl rfl fun a s=>?_
      obtain ⟨rv2097,h2096,u⟩:=bt u
      refine cV s d (J9 h2096 d.bdom (d.bE 1 rfl)) (j3 call62 rfl) rfl fun a w s d=>?_
      refine rz0 1 s rfl fun a s=>?_
      refine sn0 4 s rfl fun a s=>?_
      obtain ⟨c2123,hc2123,u⟩:=bt u
      refine C7 10 (fun a w=>∃ Sv2124,Sl 79 [(0,sl (some ⟨b1596,o1597,none⟩) k3 l1),(1,iv t5),(5,sl p1848 k1849 sv1616.1),(6,iv sv6.2),(9,iv sv1616.2),(10,iv rv2097),(64,.bool c2123)] a∧Wd ⟨w0,S0,[]⟩ Sv2124 [.row p1848 sv1616.1.length k1849 c1847 50 2] [Sq (some ⟨b1596,o1597,none⟩) k3 l1,l7 c1847 sv1616.1] w) ?_ ?_
      ·rcases Bool.eq_false_or_eq_true (decide (rv2097≤t5)) with h2122 | h2122
       ·have s:=s.bT 54 rfl h2122
        have u:=E9 hc2123 h2122
        refine rn0 3 s rfl fun a s=>?_
        obtain ⟨x2127,h2125,u⟩:=bt u
        obtain ⟨q2131,c2132,h2128,h2129,h2130,h2126⟩:=d.elemK 4 rfl h2125
        obtain ⟨_,_,_,_,_,_,_,_,_,_,_,_,rfl,rfl,rfl,rfl,rfl,rfl,rfl,rfl,rfl,rfl,rfl,rfl,⟨p2133,n2134,k2135,rfl,h2136⟩⟩:=h2126
        obtain rfl:=h2136.1
        have d:=(d.addE (e:=SlA p2133 _ k2135 x2127.Samples) h2136).addE h2130
        refine I6 s (o6 runUnderlying28 sizeOf56 rfl rfl h2128.1 h2128.2 h2129) ⟨_,rfl,rfl⟩ rfl rfl fun a s=>?_
        refine I6 s (G5 (j:=0) (d.ceAt 0 rfl) rfl isAgg56 sizeOf56 rfl rfl) ⟨_,rfl,rfl⟩ rfl rfl fun a s=>?_
        refine rn0 2 s rfl fun a s=>?_
        obtain ⟨rv2138,h2137,u⟩:=bt u
        refine x9 s (J9 h2137 d.bdom (d.bE 1 rfl)) (j3 call62 rfl) ⟨_,rfl,rfl⟩ rfl rfl ?_
        rintro v2142 Sv2139 w a h2140 rfl s
        have d:=d.callB h2140
        refine rn0 2 s rfl fun a s=>?_
        refine wpList_nil ?_
        obtain rfl:=oi u
        exact tn ⟨Sv1850,wj s d [0] [6,7]⟩
       have s:=s.bF 54 rfl h2122
       have u:=F7 hc2123 h2122
       refine rn0 10 s rfl fun a s=>?_
       refine wpList_nil ?_
       obtain rfl:=oi u
       exact tn ⟨Sv1850,wj s d [0] [4,5]⟩
      rintro a w ⟨Sv2124,s,d⟩
      refine nl (q8 (fun a w=>∃ (out2181:(List (Arr2 Int))) (c2177:List Value) (p2178:Option Addr) (k2179:Nat) (Sv2180:Nat→Prop),a6H sv1616 out2181=some tv1965∧Sl 79 [(0,sl (some ⟨b1596,o1597,none⟩) k3 l1),(1,iv t5),(5,sl p2178 k2179 out2181),(6,iv sv6.2),(9,iv sv1616.2)] a∧Wd ⟨w0,S0,[]⟩ Sv2180 [.row p2178 out2181.length k2179 c2177 50 2] [Sq (some ⟨b1596,o1597,none⟩) k3 l1,l7 c2177 out2181] w) ?_ ?_)
      ·refine cd s u rfl (fun u=>?_) fun u=>?_
       ·refine wp_region_lit (rn0 4 s rfl fun a s=>?_)
        obtain ⟨x2187,h2185,u⟩:=bt u
        obtain ⟨q2191,c2192,h2188,h2189,h2190,h2186⟩:=d.elemK 0 rfl h2185
        obtain ⟨_,_,_,_,_,_,_,_,_,_,_,_,rfl,rfl,rfl,rfl,rfl,rfl,rfl,rfl,rfl,rfl,rfl,rfl,⟨p2193,n2194,k2195,rfl,h2196⟩⟩:=h2186
        obtain rfl:=h2196.1
        have d:=(d.addE (e:=SlA p2193 _ k2195 x2187.Samples) h2196).addE h2190
        refine sv s (o6 runUnderlying28 sizeOf56 rfl rfl h2188.1 h2188.2 h2189) rfl fun a s=>?_
        refine sv s (l5 (o':=q2191+11) runUnderlying56 rfl sizeOf22 rfl rfl rfl) rfl fun a s=>?_
        refine sv s (C8 (j:=11) (d.ceAt 0 rfl) rfl isAgg22 rfl) rfl fun a s=>?_
        refine mv s rfl rfl fun a s=>?_
        obtain ⟨x2199,h2197,u⟩:=bt u
        obtain ⟨b2205,o2206,q2203,c2204,h2207,h2200,h2201,h2202,h2198⟩:=d.elemV 1 rfl h2197
        have hsv2208:=s
        have hwv2209:=d
        subst h2207
        have s:=hsv2208
        have d:=hwv2209
        obtain ⟨_,rfl,rfl⟩:=h2198
        have d:=d.addE h2202
        refine sv s (o6 runUnderlying22 sizeOf3 rfl rfl h2200.1 h2200.2 h2201) rfl fun a s=>?_
        refine sv s (C8 (j:=0) (d.ceAt 0 rfl) rfl isAgg3 rfl) rfl fun a s=>?_
        refine sv s (D7 (vs:=[(0,iv rv2097),(1,iv x2199)]) b1H rfl rfl) rfl fun a s=>?_
        refine o7 (α:=(Arr2 Int)) (vs:=[.agg #[iv rv2097,iv x2199]]) (cs:=[iv rv2097,iv x2199]) (xs:=([(⟨rv2097,x2199⟩:(Arr2 Int))]:List (Arr2 Int))) s d El80 rfl rfl rfl rfl rfl rfl ⟨⟨_,_,rfl,rfl,rfl⟩,rfl⟩ rfl trivial rfl fun b2211 a w s d=>?_
        obtain ⟨l2213,h2212,u⟩:=bt u
        refine F4 (α:=(Arr2 Int)) s d El80 1 rfl rfl rfl 5 rfl 0 rfl 0 rfl h2212 rfl trivial ?_
        intro p2214 k2215 c2216 a w s d
        refine rz0 1 s rfl fun a s=>?_
        exact ⟨l2213,c2216,p2214,k2215,Sv2124,u,wj s d [1] [5,0]⟩
       exact sk ⟨sv1616.1,c1847,p1848,k1849,Sv2124,u,wj s d [0] [0,1]⟩
      rintro a w ⟨out2181,c2177,p2178,k2179,Sv2180,u,s,d⟩
      refine l8 (tn (wp_region_lit (rn0 2 s rfl fun a s=>?_)))
      obtain ⟨j2183,h2182,u⟩:=bt u
      refine sv s (o8 rfl h2182) rfl fun a s=>?_
      exact nl ⟨_,io u,c2177,p2178,k2179,Sv2180,wj s d [0] [0,1]⟩
     refine wp_exit (j5 (j5 (o9 ?_)))
     obtain rfl:=oi u
     have h2217:=hd1964 _ rfl
     subst h2217
     exact tn ⟨c1847,p1848,k1849,Sv1850,wj s d [0] [2,3]⟩
    rintro a w ⟨c1968,p1969,k1970,Sv1971,s,d⟩
    exact l8 (tn ⟨e1967,c1968,p1969,k1970,Sv1971,u,wj s d [0] [0,1]⟩)
   rintro a w ⟨out1585,c1581,p1582,k1583,Sv1584,u,s,d⟩
   refine tn (wp_region_lit (rn0 2 s rfl fun a s=>?_))
   obtain ⟨i1587,h1586,u⟩:=bt u
   refine sv s (o8 rfl h1586) rfl fun a s=>?_
   exact nl ⟨_,io u,c1581,p1582,k1583,Sv1584,wj s d [0] [0,1]⟩
  refine wp_exit (j5 (j5 (o9 ?_)))
  obtain rfl:=oi u
  have h2219:=hd1188 _ rfl
  subst h2219
  exact tn ⟨c793,p794,k795,Sv796,wj s d [0] [1]⟩
 rintro a w ⟨c1192,p1193,k1194,Sv1195,s,d⟩
 refine tn (sz0 2 s rfl fun a s=>?_)
 obtain rfl:=oi u
 exact q1 s rfl (d.ret ⟨p1193,k1194,c1192,rfl,(d.outs [0] (by decide) rfl),(d.envAt 0 rfl)⟩)
end Go.Proofs.YtdcafiefjakfeaaGreat.Wk

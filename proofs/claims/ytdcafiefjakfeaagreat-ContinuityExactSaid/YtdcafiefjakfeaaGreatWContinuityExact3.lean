/- The walks of ContinuityExact, part 3: each Go function computes what its plain program computes. Printed by a program of ours. -/
import Derived.Test.YtdcafiefjakfeaaGreatProg
import Derived.Test.YtdcafiefjakfeaaGreatDat
import Derived.Test.YtdcafiefjakfeaaGreatSh
import Derived.Test.YtdcafiefjakfeaaGreatLa1
import Derived.KernelRfl
import Derived.Test.YtdcafiefjakfeaaGreatLb1
import Derived.Shelf.SlLaysF0
import Derived.Shelf.SlLaysM
import Derived.Test.YtdcafiefjakfeaaGreatWContinuityExact2
namespace Go.Proofs.YtdcafiefjakfeaaGreat.Wk
open Go Go.RowKit Go.Proofs Go.Proofs.YtdcafiefjakfeaaGreat.Sh Go.Proofs.Tryz
set_option linter.unusedVariables false
set_option linter.unusedSimpArgs false
set_option maxHeartbeats 4000000
set_option maxRecDepth 100000
theorem b0d {w0 S0 p2 k3 l1 from5 to6 r} (u:a4o l1 from5 to6=some r) (hS:Dm S0 w0) (h4:(Sq p2 k3 l1).p S0 w0):Ck Tryz.prog 37 #[sl p2 k3 l1,iv from5,iv to6] w0 S0 [] a4a r:=by
 refine en 167 func37 rfl hS rfl rfl rfl fun a s d=>?_
 have d:=d.addE h4
 refine sz0 2 s rfl fun a s=>?_
 refine wp_seq (sn0 3 s rfl fun a s=>?_)
 obtain ⟨rv8,h7,u⟩:=bt u
 refine cV s d (a7Z h7 d.bdom (d.bE 0 rfl)) (j3 call77 rfl) rfl fun a w s d=>?_
 refine rz0 1 s rfl fun a s=>?_
 refine sz0 2 s rfl fun a s=>?_
 refine cd s u rfl (fun u=>?_) fun u=>?_
 ·refine sz0 3 s rfl fun a s=>?_
  obtain rfl:=oi u
  have d:=d.nilRow Overlap 42
  exact wp_ret (j6 (Q8 s rfl (q9 rfl) (q9 rfl) (d.ret ⟨none,0,[],rfl,(d.outs [0] (by decide) rfl),(d.envAt 0 rfl)⟩)))
 refine sk (sn0 1 s rfl fun a s=>?_)
 obtain ⟨rv17,h16,u⟩:=bt u
 refine cR s (a8y h16 d.dom (d.envAt 0 rfl)) (j3 call22 rfl) rfl ?_
 rintro v25 Sv22 w a h23 ⟨p18,k19,c21,rfl,h26,h20⟩ s
 have d:=(d.callN h23 h26).addE (e:=l7 c21 rv17.1) h20
 refine rz0 5 s rfl fun a s=>?_
 refine sn0 2 s rfl fun a s=>?_
 refine o7 (α:=Int) (vs:=[iv from5,iv to6]) (cs:=[iv from5,iv to6]) (xs:=([from5,to6]:List Int)) s d S9 rfl rfl rfl rfl rfl rfl ⟨⟨_,rfl,rfl⟩,⟨⟨_,rfl,rfl⟩,rfl⟩⟩ rfl trivial rfl fun b28 a w s d=>?_
 refine rz0 1 s rfl fun a s=>?_
 refine wp_seq (sz0 1 s rfl fun a s=>?_)
 obtain ⟨e623,h2399,u⟩:=bt u
 refine q8 (fun a w=>∃ c624 p625 k626 Sv627,Sl 167 [(9,sl p18 k19 rv17.1),(11,sl p625 k626 e623)] a∧Wd ⟨w0,S0,[]⟩ Sv627 [.row p18 rv17.1.length k19 c21 56 12,.row p625 e623.length k626 c624 3 1] [l7 c21 rv17.1,l7 c624 e623] w) ?_ ?_
 ·refine wp_block (u7 (fun sv29 a w=>∃ c422 p423 k424 Sv425,Sl 167 [(1,iv from5),(2,iv to6),(9,sl p18 k19 rv17.1),(11,sl p423 k424 sv29.1),(12,iv sv29.2)] a∧Wd ⟨w0,S0,[]⟩ Sv425 [.row p18 rv17.1.length k19 c21 56 12,.row p423 sv29.1.length k424 c422 3 1] [l7 c21 rv17.1,l7 c422 sv29.1] w) (([from5,to6]:List Int),0) h2399 ⟨[iv from5,iv to6],(ad b28),([from5,to6]:List Int).length,Sv22,wj s d [1,0] [1,0]⟩ ?_)
  clear h2399
  repeat clear u
  rintro sv29 a w tv621 ⟨c422,p423,k424,Sv425,s,d⟩ u hd620
  refine wp_seq (sz0 4 s rfl fun a s=>?_)
  refine cd s u rfl (fun u=>?_) fun u=>?_
  ·refine sk (wp_seq (wp_block (sz0 1 s rfl fun a s=>?_)))
   obtain ⟨e1007,h1124,u⟩:=bt u
   refine q8 (fun a w=>∃ c1008 p1009 k1010 Sv1011,Sl 167 [(1,iv from5),(2,iv to6),(9,sl p18 k19 rv17.1),(11,sl p1009 k1010 e1007),(12,iv sv29.2)] a∧Wd ⟨w0,S0,[]⟩ Sv1011 [.row p18 rv17.1.length k19 c21 56 12,.row p1009 e1007.length k1010 c1008 3 1] [l7 c21 rv17.1,l7 c1008 e1007] w) ?_ ?_
   ·refine wp_block (u7 (fun sv821 a w=>∃ c942 p943 k944 Sv945,Sl 167 [(1,iv from5),(2,iv to6),(9,sl p18 k19 rv17.1),(11,sl p943 k944 sv821.1),(12,iv sv29.2),(13,iv sv821.2)] a∧Wd ⟨w0,S0,[]⟩ Sv945 [.row p18 rv17.1.length k19 c21 56 12,.row p943 sv821.1.length k944 c942 3 1] [l7 c21 rv17.1,l7 c942 sv821.1] w) (sv29.1,0) h1124 ⟨c422,p423,k424,Sv425,wj s d [0,1] [0,1]⟩ ?_)
    clear h1124
    repeat clear u
    rintro sv821 a w tv1005 ⟨c942,p943,k944,Sv945,s,d⟩ u hd1004
    refine wp_seq (sn0 3 s rfl fun a s=>?_)
    obtain ⟨x1014,h1012,u⟩:=bt u
    obtain ⟨b1021,q1018,c1019,h1022,h1015,h1016,h1020,h1013⟩:=d.elemRV (α:=Record) 0 rfl 0 rfl h1012
    have hsv1023:=s
    have hwv1024:=d
    subst h1022
    have s:=hsv1023
    have d:=hwv1024
    obtain ⟨_,_,_,_,_,_,_,_,_,_,_,_,rfl,rfl,rfl,rfl,rfl,rfl,rfl,rfl,rfl,rfl,rfl,rfl,⟨p1025,n1026,k1027,rfl,h1028⟩⟩:=h1013
    obtain rfl:=h1028.1
    have d:=d.addE (e:=SlA p1025 _ k1027 x1014.Samples) h1028
    refine sv s (o6 runUnderlying28 sizeOf56 rfl rfl h1015.1 h1015.2 h1016) rfl fun a s=>?_
    refine sv s (l5 (o':=q1018+11) runUnderlying56 rfl sizeOf22 rfl rfl rfl) rfl fun a s=>?_
    refine sv s (A7 (j:=11) (d.ownAt 0 rfl) rfl isAgg22 h1020 rfl) rfl fun a s=>?_
    refine rz0 2 s rfl fun a s=>?_
    refine cd s u rfl (fun u=>?_) fun u=>?_
    ·refine sk (wp_seq (wp_block (sn0 2 s rfl fun a s=>?_)))
     obtain ⟨x1071,h1069,u⟩:=bt u
     obtain ⟨q1075,c1076,h1072,h1073,h1077,h1070⟩:=d.elemRK (α:=Record) 0 rfl 1 rfl h1069
     obtain ⟨_,_,_,_,_,_,_,_,_,_,_,_,rfl,rfl,rfl,rfl,rfl,rfl,rfl,rfl,rfl,rfl,rfl,rfl,⟨p1078,n1079,k1080,rfl,h1081⟩⟩:=h1070
     obtain rfl:=h1081.1
     have d:=d.addE (e:=SlA p1078 _ k1080 x1071.Samples) h1081
     refine sv s (o6 runUnderlying28 sizeOf56 rfl rfl h1072.1 h1072.2 h1073) rfl fun a s=>?_
     refine sv s (I1 (j:=0) (d.ownAt 0 rfl) rfl isAgg56 sizeOf56 h1077 rfl rfl) rfl fun a s=>?_
     refine mv s rfl rfl fun a s=>?_
     obtain ⟨rv1083,h1082,u⟩:=bt u
     refine cV s d (J9 h1082 d.bdom (d.bE 0 rfl)) (j3 call62 rfl) rfl fun a w s d=>?_
     refine rz0 1 s rfl fun a s=>?_
     refine sn0 4 s rfl fun a s=>?_
     refine rA 4 61 [] s d rfl rfl rfl rfl rfl fun a s=>?_
     refine nl (q8 (fun a w=>∃ (cuts1106:(List Int)) (c1102 p1103 k1104 Sv1105:_),a0L sv821 cuts1106=some tv1005∧Sl 167 [(1,iv from5),(2,iv to6),(9,sl (ad b1021) k19 rv17.1),(11,sl p1103 k1104 cuts1106),(12,iv sv29.2),(13,iv sv821.2)] a∧Wd ⟨w0,S0,[]⟩ Sv1105 [.row (ad b1021) rv17.1.length k19 c21 56 12,.row p1103 cuts1106.length k1104 c1102 3 1] [l7 c21 rv17.1,l7 c1102 cuts1106] w) ?_ ?_)
     ·refine cd s u rfl (fun u=>?_) fun u=>?_
      ·refine wp_region_lit (rn0 2 s rfl fun a s=>?_)
       obtain ⟨rv1111,h1110,u⟩:=bt u
       refine cR s (b3K h1110 d.dom (d.ins [1] (by decide) rfl) (d.envAt 3 rfl)) (j3 call79 rfl) rfl ?_
       rintro v1119 Sv1116 w a h1117 ⟨p1112,k1113,c1115,rfl,h1120,h1114⟩ s
       have d:=(d.callO [1] [0] (by decide) rfl h1117 h1120).addE (e:=l7 c1115 rv1111) h1114
       refine rz0 1 s rfl fun a s=>?_
       exact ⟨rv1111,c1115,p1112,k1113,Sv1116,u,wj s d [1,0] [3,0]⟩
      exact sk ⟨sv821.1,c942,p943,k944,Sv945,u,wj s d [0,1] [2,3]⟩
     rintro a w ⟨cuts1106,c1102,p1103,k1104,Sv1105,u,s,d⟩
     refine l8 (tn (wp_region_lit (rn0 2 s rfl fun a s=>?_)))
     obtain ⟨j1108,h1107,u⟩:=bt u
     refine sv s (o8 rfl h1107) rfl fun a s=>?_
     exact nl ⟨_,io u,c1102,p1103,k1104,Sv1105,wj s d [0,1] [0,1]⟩
    refine wp_exit (j5 (j5 (o9 ?_)))
    obtain rfl:=oi u
    have h1121:=hd1004 _ rfl
    subst h1121
    exact tn ⟨c942,p943,k944,Sv945,wj s d [0,1] [1,2]⟩
   rintro a w ⟨c1008,p1009,k1010,Sv1011,s,d⟩
   refine l8 (tn (wp_region_lit (rn0 2 s rfl fun a s=>?_)))
   obtain ⟨i1123,h1122,u⟩:=bt u
   refine sv s (o8 rfl h1122) rfl fun a s=>?_
   exact nl ⟨_,io u,c1008,p1009,k1010,Sv1011,wj s d [0,1] [0,1]⟩
  refine wp_exit (j5 (j5 (o9 ?_)))
  obtain rfl:=oi u
  have h1125:=hd620 _ rfl
  subst h1125
  exact tn ⟨c422,p423,k424,Sv425,wj s d [0,1] [0,1]⟩
 rintro a w ⟨c624,p625,k626,Sv627,s,d⟩
 refine tn (sz0 1 s rfl fun a s=>?_)
 refine wp_seq (sz0 1 s rfl fun a s=>?_)
 obtain ⟨e1797,h2398,u⟩:=bt u
 refine q8 (fun a w=>∃ c1798 p1799 k1800 Sv1801,Sl 167 [(15,sl p1799 k1800 e1797)] a∧Wd ⟨w0,S0,[]⟩ Sv1801 [.row p1799 e1797.length k1800 c1798 42 3] [l7 c1798 e1797] w) ?_ ?_
 ·refine wp_block ?_
  obtain ⟨Sv1795,d⟩:=D6 (α:=Record) d 0 rfl 0 rfl
  have d:=d.nilRow Overlap 42
  refine u7 (fun sv1126 a w=>∃ c1567 p1568 k1569 Sv1570,Sl 167 [(9,sl p18 k19 rv17.1),(11,sl p625 k626 e623),(15,sl p1568 k1569 sv1126.1),(16,iv sv1126.2)] a∧Wd ⟨w0,S0,[]⟩ Sv1570 [.row p625 e623.length k626 c624 3 1,.row p1568 sv1126.1.length k1569 c1567 42 3] [Sq p18 k19 rv17.1,l7 c624 e623,l7 c1567 sv1126.1] w) (([]:List Overlap),0) h2398 ⟨[],none,0,Sv1795,wj s d [1,0] [1,3,0]⟩ ?_
  clear h2398
  repeat clear u
  rintro sv1126 a w tv1794 ⟨c1567,p1568,k1569,Sv1570,s,d⟩ u hd1793
  refine wp_seq (sz0 5 s rfl fun a s=>?_)
  refine cd s u rfl (fun u=>?_) fun u=>?_
  ·refine sk (wp_seq (q8 (fun a w=>∃ (out2022:(List Overlap)) (c2018 p2019 k2020 Sv2021:_),a0M sv1126 out2022=some tv1794∧Sl 167 [(9,sl p18 k19 rv17.1),(11,sl p625 k626 e623),(15,sl p2019 k2020 out2022),(16,iv sv1126.2)] a∧Wd ⟨w0,S0,[]⟩ Sv2021 [.row p625 e623.length k626 c624 3 1,.row p2019 out2022.length k2020 c2018 42 3] [Sq p18 k19 rv17.1,l7 c624 e623,l7 c2018 out2022] w) ?_ ?_))
   ·refine wp_block (sn0 3 s rfl fun a s=>?_)
    obtain ⟨x2027,h2025,u⟩:=bt u
    obtain ⟨b2034,q2031,c2032,h2035,h2028,h2029,h2033,h2026⟩:=d.elemRV (α:=Int) 0 rfl 1 rfl h2025
    have hsv2036:=s
    have hwv2037:=d
    subst h2035
    have s:=hsv2036
    have d:=hwv2037
    obtain ⟨_,rfl,rfl⟩:=h2026
    refine sv s (o6 runUnderlying22 sizeOf3 rfl rfl h2028.1 h2028.2 h2029) rfl fun a s=>?_
    refine sv s (A7 (j:=0) (d.ownAt 0 rfl) rfl isAgg3 h2033 rfl) rfl fun a s=>?_
    obtain ⟨rv2039,h2038,u⟩:=bt u
    refine cR s (b1h h2038 d.dom (d.envAt 0 rfl)) (j3 call80 rfl) rfl ?_
    rintro v2047 Sv2044 w a h2045 ⟨p2040,k2041,c2043,rfl,h2048,h2042⟩ s
    have d:=(d.callN h2045 h2048).addE (e:=l7 c2043 rv2039) h2042
    refine rz0 1 s rfl fun a s=>?_
    refine wp_seq (wp_seq ?_)
    obtain ⟨c2067,hc2067,u⟩:=bt u
    refine A9 (fun a w=>∃ Sv2068,Sl 167 [(9,sl p18 k19 rv17.1),(11,sl (ad b2034) k626 e623),(15,sl p1568 k1569 sv1126.1),(16,iv sv1126.2),(17,sl p2040 k2041 rv2039),(96,.bool c2067)] a∧Wd ⟨w0,S0,[]⟩ Sv2068 [.row (ad b2034) e623.length k626 c624 3 1,.row p1568 sv1126.1.length k1569 c1567 42 3,.row p2040 rv2039.length k2041 c2043 50 2] [Sq p18 k19 rv17.1,l7 c624 e623,l7 c1567 sv1126.1,l7 c2043 rv2039] w) ?_ ?_
    ·rcases Bool.eq_false_or_eq_true (decide ((rv2039.length:Int)<2)) with h2069 | h2069
     ·have h2070:=E9 hc2067 h2069
      refine h_c [0,1,2] [] d rfl rfl (by kernel_rfl) rfl fun hC d=>?_
      refine gn 4 [0,1,2,3] [] s hC rfl rfl rfl fun a s=>?_
      have s:=s.bT 85 rfl h2069
      refine gn 10 [4,5,6,7,8,9,10,11,12,13] [] s hC rfl rfl rfl fun a s=>?_
      refine gT s 14 rfl rfl hC rfl rfl h2070 fun a s=>?_
      refine y7 (by kernel_rfl) ?_
      exact ⟨Sv2044,wj s d [1,2,0] [1,2,3,0]⟩
     have h2071:=F7 hc2067 h2069
     obtain ⟨x2074,h2072,h2071⟩:=H5 h2071
     obtain ⟨q2078,c2079,h2075,h2076,h2080,h2073⟩:=d.elemRK (α:=Int) 1 rfl 2 rfl h2072
     obtain ⟨_,rfl,rfl⟩:=h2073
     obtain ⟨x2083,h2081,h2071⟩:=H5 h2071
     obtain ⟨q2087,c2088,h2084,h2085,h2089,h2082⟩:=d.elemRK (α:=Int) 1 rfl 2 rfl h2081
     obtain ⟨_,rfl,rfl⟩:=h2082
     refine h_c [0,1,2] [] d rfl rfl (by kernel_rfl) rfl fun hC d=>?_
     refine gn 4 [0,1,2,3] [] s hC rfl rfl rfl fun a s=>?_
     have s:=s.bF 85 rfl h2069
     refine gn 2 [4,5] [] s hC rfl rfl rfl fun a s=>?_
     refine gx s 6 rfl ⟨_,rfl,rfl⟩ rfl hC runUnderlying22 sizeOf3 rfl rfl h2075 h2076 fun a s=>?_
     refine gt s 7 rfl ⟨_,rfl,rfl⟩ rfl hC (fun w hC=>A7 (j:=0) (hC.ownAt 1 rfl) rfl isAgg3 h2080 rfl) fun a s=>?_
     refine gn 3 [8,9,10] [] s hC rfl rfl rfl fun a s=>?_
     refine gx s 11 rfl ⟨_,rfl,rfl⟩ rfl hC runUnderlying22 sizeOf3 rfl rfl h2084 h2085 fun a s=>?_
     refine gt s 12 rfl ⟨_,rfl,rfl⟩ rfl hC (fun w hC=>A7 (j:=0) (hC.ownAt 1 rfl) rfl isAgg3 h2089 rfl) fun a s=>?_
     refine gt s 13 rfl ⟨_,rfl,rfl⟩ rfl hC (fun w hC=>b0n rfl rfl) fun a s=>?_
     refine gF s 14 rfl rfl hC rfl rfl h2071 fun a s=>?_
     refine y7 (by kernel_rfl) ?_
     exact ⟨Sv2044,wj s d [1,2,0] [1,2,3,0]⟩
    rintro a w ⟨Sv2068,s,d⟩
    refine tn (cd s u rfl (fun u=>?_) fun u=>?_)
    ·exact wp_exit (j5 (o9 (tn ⟨sv1126.1,c1567,p1568,k1569,Sv2068,u,wj s d [0,1] [0,1,2]⟩)))
    refine sk (wp_seq ?_)
    obtain ⟨x2094,h2092,u⟩:=bt u
    obtain ⟨q2098,c2099,h2095,h2096,h2100,h2093⟩:=d.elemRK (α:=Int) 0 rfl 1 rfl h2092
    obtain ⟨_,rfl,rfl⟩:=h2093
    obtain ⟨x2103,h2101,u⟩:=bt u
    obtain ⟨q2107,c2108,h2104,h2105,h2109,h2102⟩:=d.elemRK (α:=Int) 0 rfl 1 rfl h2101
    obtain ⟨_,rfl,rfl⟩:=h2102
    refine A9 (fun a w=>∃ Sv2111 b2110,Sl 167 [(9,sl p18 k19 rv17.1),(11,sl (ad b2034) k626 e623),(15,sl p1568 k1569 sv1126.1),(16,iv sv1126.2),(17,sl p2040 k2041 rv2039),(18,pt b2110)] a∧Wd ⟨w0,S0,[]⟩ Sv2111 [.box b2110 [iv x2094,iv x2103,.bool true] 42,.row (ad b2034) e623.length k626 c624 3 1,.row p1568 sv1126.1.length k1569 c1567 42 3,.row p2040 rv2039.length k2041 c2043 50 2] [Sq p18 k19 rv17.1,l7 c624 e623,l7 c1567 sv1126.1,l7 c2043 rv2039] w) ?_ ?_
    ·refine h_c [0,1,2] [] d rfl rfl (by kernel_rfl) rfl fun hC d=>?_
     refine gn 2 [0,1] [] s hC rfl rfl rfl fun a s=>?_
     refine gx s 2 rfl trivial rfl hC runUnderlying22 sizeOf3 rfl rfl h2095 h2096 fun a s=>?_
     refine gv s 3 rfl rfl hC (fun w hC=>A7 (j:=0) (hC.ownAt 0 rfl) rfl isAgg3 h2100 rfl) fun a s=>?_
     refine gn 3 [4,5,6] [] s hC rfl rfl rfl fun a s=>?_
     refine gx s 7 rfl trivial rfl hC runUnderlying22 sizeOf3 rfl rfl h2104 h2105 fun a s=>?_
     refine gv s 8 rfl rfl hC (fun w hC=>A7 (j:=0) (hC.ownAt 0 rfl) rfl isAgg3 h2109 rfl) fun a s=>?_
     refine gv s 9 rfl rfl hC (fun w hC=>D7 (vs:=[(0,iv x2094),(1,iv x2103),(2,.bool true)]) Bld42 rfl rfl) fun a s=>?_
     refine ho 10 rfl ?_
     refine wa [iv 0,iv 0,.bool false] s d zeroValue42 fun b2110 a w s d=>?_
     refine h_n [1,2,3] [] d rfl rfl fun hC=>?_
     refine ho 11 rfl ?_
     refine ws [iv x2094,iv x2103,.bool true] s d 0 rfl rfl rfl sizeOf42 fun a w s d=>?_
     refine h_n [1,2,3] [] d rfl rfl fun hC=>?_
     refine y7 (by kernel_rfl) ?_
     exact ⟨Sv2068,b2110,wj s d [0,1,2,3] [0,1,2,3]⟩
    rintro a w ⟨Sv2111,b2110,s,d⟩
    refine tn (wp_seq (sz0 1 s rfl fun a s=>?_))
    obtain ⟨e2198,h2394,u⟩:=bt u
    refine q8 (fun a w=>∃ Sv2199,Sl 167 [(9,sl p18 k19 rv17.1),(11,sl (ad b2034) k626 e623),(15,sl p1568 k1569 sv1126.1),(16,iv sv1126.2),(18,pt b2110)] a∧Wd ⟨w0,S0,[]⟩ Sv2199 [.box b2110 [iv x2094,iv x2103,.bool e2198] 42,.row (ad b2034) e623.length k626 c624 3 1,.row p1568 sv1126.1.length k1569 c1567 42 3] [Sq p18 k19 rv17.1,l7 c624 e623,l7 c1567 sv1126.1] w) ?_ ?_
    ·refine wp_block (u7 (fun sv2112 a w=>∃ Sv2167,Sl 167 [(9,sl p18 k19 rv17.1),(11,sl (ad b2034) k626 e623),(15,sl p1568 k1569 sv1126.1),(16,iv sv1126.2),(17,sl p2040 k2041 rv2039),(18,pt b2110),(19,iv sv2112.2)] a∧Wd ⟨w0,S0,[]⟩ Sv2167 [.box b2110 [iv x2094,iv x2103,.bool sv2112.1] 42,.row (ad b2034) e623.length k626 c624 3 1,.row p1568 sv1126.1.length k1569 c1567 42 3,.row p2040 rv2039.length k2041 c2043 50 2] [Sq p18 k19 rv17.1,l7 c624 e623,l7 c1567 sv1126.1,l7 c2043 rv2039] w) (true,1) h2394 ⟨Sv2111,wj s d [0,1,2,3] [0,1,2,3]⟩ ?_)
     clear h2394
     repeat clear u
     rintro sv2112 a w tv2196 ⟨Sv2167,s,d⟩ u hd2195
     refine wp_seq (sz0 4 s rfl fun a s=>?_)
     refine cd s u rfl (fun u=>?_) fun u=>?_
     ·refine sk (wp_seq (wp_block ?_))
      obtain ⟨c2248,hc2248,u⟩:=bt u
      refine A9 (fun a w=>∃ Sv2249,Sl 167 [(9,sl p18 k19 rv17.1),(11,sl (ad b2034) k626 e623),(15,sl p1568 k1569 sv1126.1),(16,iv sv1126.2),(17,sl p2040 k2041 rv2039),(18,pt b2110),(19,iv sv2112.2)] a∧Wd ⟨w0,S0,[]⟩ Sv2249 [.box b2110 [iv x2094,iv x2103,.bool c2248] 42,.row (ad b2034) e623.length k626 c624 3 1,.row p1568 sv1126.1.length k1569 c1567 42 3,.row p2040 rv2039.length k2041 c2043 50 2] [Sq p18 k19 rv17.1,l7 c624 e623,l7 c1567 sv1126.1,l7 c2043 rv2039] w) ?_ ?_
      ·rcases Bool.eq_false_or_eq_true sv2112.1 with h2250 | h2250
       ·have h2251:=E9 hc2248 h2250
        obtain ⟨x2254,h2252,h2251⟩:=H5 h2251
        obtain ⟨b2261,q2258,c2259,h2262,h2255,h2256,h2260,h2253⟩:=d.elemRV (α:=(Arr2 Int)) 3 rfl 3 rfl h2252
        have hsv2263:=s
        have hwv2264:=d
        subst h2262
        have s:=hsv2263
        have d:=hwv2264
        obtain ⟨_,_,rfl,rfl,rfl⟩:=h2253
        obtain ⟨x2267,h2265,h2251⟩:=H5 h2251
        obtain ⟨q2271,c2272,h2268,h2269,h2273,h2266⟩:=d.elemRK (α:=(Arr2 Int)) 3 rfl 3 rfl h2265
        obtain ⟨_,_,rfl,rfl,rfl⟩:=h2266
        refine h_c [1,2,3] [] d rfl rfl (by kernel_rfl) rfl fun hC d=>?_
        refine gv s 0 rfl rfl hC (fun w hC=>l5 (o':=2) runUnderlying42 rfl sizeOf4 rfl rfl rfl) fun a s=>?_
        refine ho 1 rfl ?_
        refine sv s (I9 (d.ownAt 0 rfl) rfl isAgg4 rfl) rfl fun a s=>?_
        refine h_n [1,2,3] [] d rfl rfl fun hC=>?_
        refine gm s 2 rfl rfl rfl hC fun a s=>?_
        have s:=s.bT 115 rfl h2250
        refine gn 2 [3,4] [] s hC rfl rfl rfl fun a s=>?_
        refine gx s 5 rfl ⟨_,rfl,rfl⟩ rfl hC runUnderlying80 sizeOf50 rfl rfl h2255 h2256 fun a s=>?_
        refine gt s 6 rfl ⟨_,rfl,rfl⟩ rfl hC (fun w hC=>I1 (j:=0) (hC.ownAt 2 rfl) rfl isAgg50 sizeOf50 h2260 rfl rfl) fun a s=>?_
        refine gt s 7 rfl ⟨_,rfl,rfl⟩ rfl hC (fun w hC=>O5 rfl) fun a s=>?_
        refine gx s 8 rfl ⟨_,rfl,rfl⟩ rfl hC runUnderlying80 sizeOf50 rfl rfl h2268 h2269 fun a s=>?_
        refine gt s 9 rfl ⟨_,rfl,rfl⟩ rfl hC (fun w hC=>I1 (j:=0) (hC.ownAt 2 rfl) rfl isAgg50 sizeOf50 h2273 rfl rfl) fun a s=>?_
        refine gt s 10 rfl ⟨_,rfl,rfl⟩ rfl hC (fun w hC=>b2x (by kernel_rfl) rfl rfl (b6i runUnderlying50 sizeOf3 (EqA.cons1 isAgg3 rfl rfl (Q6 runUnderlying3) (EqA.cons1 isAgg3 rfl rfl (Q6 runUnderlying3) EqA.nil)))) fun a s=>?_
        refine gT s 11 rfl rfl hC rfl rfl h2251 fun a s=>?_
        refine gv s 12 rfl rfl hC (fun w hC=>l5 (o':=2) runUnderlying42 rfl sizeOf4 rfl rfl rfl) fun a s=>?_
        refine ho 13 rfl ?_
        refine ws [iv x2094,iv x2103,.bool c2248] s d 0 rfl rfl rfl sizeOf4 fun a w s d=>?_
        refine h_n [1,2,3] [] d rfl rfl fun hC=>?_
        refine y7 (by kernel_rfl) ?_
        exact ⟨Sv2167,wj s d [0,1,2,3] [0,1,2,3]⟩
       have h2274:=F7 hc2248 h2250
       refine h_c [1,2,3] [] d rfl rfl (by kernel_rfl) rfl fun hC d=>?_
       refine gv s 0 rfl rfl hC (fun w hC=>l5 (o':=2) runUnderlying42 rfl sizeOf4 rfl rfl rfl) fun a s=>?_
       refine ho 1 rfl ?_
       refine sv s (I9 (d.ownAt 0 rfl) rfl isAgg4 rfl) rfl fun a s=>?_
       refine h_n [1,2,3] [] d rfl rfl fun hC=>?_
       refine gm s 2 rfl rfl rfl hC fun a s=>?_
       have s:=s.bF 115 rfl h2250
       refine gn 8 [3,4,5,6,7,8,9,10] [] s hC rfl rfl rfl fun a s=>?_
       refine gF s 11 rfl rfl hC rfl rfl h2274 fun a s=>?_
       refine gv s 12 rfl rfl hC (fun w hC=>l5 (o':=2) runUnderlying42 rfl sizeOf4 rfl rfl rfl) fun a s=>?_
       refine ho 13 rfl ?_
       refine ws [iv x2094,iv x2103,.bool c2248] s d 0 rfl rfl rfl sizeOf4 fun a w s d=>?_
       refine h_n [1,2,3] [] d rfl rfl fun hC=>?_
       refine y7 (by kernel_rfl) ?_
       exact ⟨Sv2167,wj s d [0,1,2,3] [0,1,2,3]⟩
      rintro a w ⟨Sv2249,s,d⟩
      refine l8 (tn (wp_region_lit (rn0 2 s rfl fun a s=>?_)))
      obtain ⟨k2276,h2275,u⟩:=bt u
      refine sv s (o8 rfl h2275) rfl fun a s=>?_
      exact nl ⟨_,io u,Sv2249,wj s d [0,1,2,3] [0,1,2,3]⟩
     refine wp_exit (j5 (j5 (o9 ?_)))
     obtain rfl:=oi u
     have h2277:=hd2195 _ rfl
     subst h2277
     exact tn ⟨Sv2167,wj s d [0,1,2] [0,1,2]⟩
    rintro a w ⟨Sv2199,s,d⟩
    refine tn (sn0 2 s rfl fun a s=>?_)
    obtain ⟨n2279,h2278,u⟩:=bt u
    refine sv s (o8 rfl h2278) rfl fun a s=>?_
    refine nl (wp_seq ?_)
    obtain ⟨c2293,hc2293,u⟩:=bt u
    obtain ⟨c2307,hc2307,u⟩:=bt u
    refine A9 (fun a w=>∃ Sv2308,Sl 167 [(9,sl p18 k19 rv17.1),(11,sl (ad b2034) k626 e623),(15,sl p1568 k1569 sv1126.1),(16,iv sv1126.2),(18,pt b2110),(20,iv n2279),(151,.bool c2307)] a∧Wd ⟨w0,S0,[]⟩ Sv2308 [.box b2110 [iv x2094,iv x2103,.bool e2198] 42,.row (ad b2034) e623.length k626 c624 3 1,.row p1568 sv1126.1.length k1569 c1567 42 3] [Sq p18 k19 rv17.1,l7 c624 e623,l7 c1567 sv1126.1] w) ?_ ?_
    ·rcases Bool.eq_false_or_eq_true (decide (0<n2279)) with h2309 | h2309
     ·have h2310:=E9 hc2293 h2309
      obtain ⟨x2313,h2311,h2310⟩:=H5 h2310
      obtain ⟨b2320,q2317,c2318,h2321,h2314,h2315,h2319,h2312⟩:=d.elemRV (α:=Overlap) 2 rfl 2 rfl h2311
      have hsv2322:=s
      have hwv2323:=d
      subst h2321
      have s:=hsv2322
      have d:=hwv2323
      obtain ⟨_,_,_,rfl,rfl,rfl,rfl⟩:=h2312
      rcases Bool.eq_false_or_eq_true c2293 with h2324 | h2324
      ·have h2325:=E9 hc2307 h2324
       obtain ⟨x2328,h2326,h2325⟩:=H5 h2325
       obtain ⟨q2332,c2333,h2329,h2330,h2334,h2327⟩:=d.elemRK (α:=Overlap) 2 rfl 2 rfl h2326
       obtain ⟨_,_,_,rfl,rfl,rfl,rfl⟩:=h2327
       refine h_c [0,1,2] [] d rfl rfl (by kernel_rfl) rfl fun hC d=>?_
       refine gn 3 [0,1,2] [] s hC rfl rfl rfl fun a s=>?_
       have s:=s.bT 130 rfl h2309
       refine gn 3 [3,4,5] [] s hC rfl rfl rfl fun a s=>?_
       refine gx s 6 rfl ⟨_,rfl,rfl⟩ rfl hC runUnderlying34 sizeOf42 rfl rfl h2314 h2315 fun a s=>?_
       refine gt s 7 rfl ⟨_,rfl,rfl⟩ rfl hC (fun w hC=>l5 (o':=q2317+1) runUnderlying42 rfl sizeOf3 rfl rfl rfl) fun a s=>?_
       refine gt s 8 rfl ⟨_,rfl,rfl⟩ rfl hC (fun w hC=>A7 (j:=1) (hC.ownAt 2 rfl) rfl isAgg3 h2319 rfl) fun a s=>?_
       refine gn 3 [9,10,11] [0] s hC rfl rfl rfl fun a s=>?_
       refine gT s 12 rfl rfl hC rfl rfl h2310 fun a s=>?_
       refine gm s 13 rfl rfl rfl hC fun a s=>?_
       have s:=s.bT 141 rfl h2324
       refine gn 3 [14,15,16] [] s hC rfl rfl rfl fun a s=>?_
       refine gx s 17 rfl ⟨_,rfl,rfl⟩ rfl hC runUnderlying34 sizeOf42 rfl rfl h2329 h2330 fun a s=>?_
       refine gt s 18 rfl ⟨_,rfl,rfl⟩ rfl hC (fun w hC=>l5 (o':=q2332+2) runUnderlying42 rfl sizeOf4 rfl rfl rfl) fun a s=>?_
       refine gt s 19 rfl ⟨_,rfl,rfl⟩ rfl hC (fun w hC=>A7 (j:=2) (hC.ownAt 2 rfl) rfl isAgg4 h2334 rfl) fun a s=>?_
       refine gn 2 [20,21] [0] s hC rfl rfl rfl fun a s=>?_
       refine gt s 22 rfl ⟨_,rfl,rfl⟩ rfl hC (fun w hC=>y_eqlB runUnderlying4 rfl rfl) fun a s=>?_
       refine gT s 23 rfl rfl hC rfl rfl h2325 fun a s=>?_
       refine y7 (by kernel_rfl) ?_
       exact ⟨Sv2199,wj s d [0,1,2] [0,1,2]⟩
      have h2335:=F7 hc2307 h2324
      refine h_c [0,1,2] [] d rfl rfl (by kernel_rfl) rfl fun hC d=>?_
      refine gn 3 [0,1,2] [] s hC rfl rfl rfl fun a s=>?_
      have s:=s.bT 130 rfl h2309
      refine gn 3 [3,4,5] [] s hC rfl rfl rfl fun a s=>?_
      refine gx s 6 rfl ⟨_,rfl,rfl⟩ rfl hC runUnderlying34 sizeOf42 rfl rfl h2314 h2315 fun a s=>?_
      refine gt s 7 rfl ⟨_,rfl,rfl⟩ rfl hC (fun w hC=>l5 (o':=q2317+1) runUnderlying42 rfl sizeOf3 rfl rfl rfl) fun a s=>?_
      refine gt s 8 rfl ⟨_,rfl,rfl⟩ rfl hC (fun w hC=>A7 (j:=1) (hC.ownAt 2 rfl) rfl isAgg3 h2319 rfl) fun a s=>?_
      refine gn 3 [9,10,11] [0] s hC rfl rfl rfl fun a s=>?_
      refine gT s 12 rfl rfl hC rfl rfl h2310 fun a s=>?_
      refine gm s 13 rfl rfl rfl hC fun a s=>?_
      have s:=s.bF 141 rfl h2324
      refine gn 9 [14,15,16,17,18,19,20,21,22] [] s hC rfl rfl rfl fun a s=>?_
      refine gF s 23 rfl rfl hC rfl rfl h2335 fun a s=>?_
      refine y7 (by kernel_rfl) ?_
      exact ⟨Sv2199,wj s d [0,1,2] [0,1,2]⟩
     have h2336:=F7 hc2293 h2309
     have h2337:c2293=false:=(Option.some.inj h2336).symm
     have h2338:=F7 hc2307 h2337
     refine h_c [0,1,2] [] d rfl rfl (by kernel_rfl) rfl fun hC d=>?_
     refine gn 3 [0,1,2] [] s hC rfl rfl rfl fun a s=>?_
     have s:=s.bF 130 rfl h2309
     refine gn 9 [3,4,5,6,7,8,9,10,11] [] s hC rfl rfl rfl fun a s=>?_
     refine gF s 12 rfl rfl hC rfl rfl h2336 fun a s=>?_
     refine gm s 13 rfl rfl rfl hC fun a s=>?_
     have s:=s.bF 141 rfl h2337
     refine gn 9 [14,15,16,17,18,19,20,21,22] [] s hC rfl rfl rfl fun a s=>?_
     refine gF s 23 rfl rfl hC rfl rfl h2338 fun a s=>?_
     refine y7 (by kernel_rfl) ?_
     exact ⟨Sv2199,wj s d [0,1,2] [0,1,2]⟩
    rintro a w ⟨Sv2308,s,d⟩
    refine tn (q8 (fun a w=>∃ (out2368:(List Overlap)) (c2364 p2365 k2366 Sv2367:_),a2u sv1126 out2368=some tv1794∧Sl 167 [(9,sl p18 k19 rv17.1),(11,sl (ad b2034) k626 e623),(15,sl p2365 k2366 out2368),(16,iv sv1126.2)] a∧Wd ⟨w0,S0,[]⟩ Sv2367 [.row (ad b2034) e623.length k626 c624 3 1,.row p2365 out2368.length k2366 c2364 42 3] [Sq p18 k19 rv17.1,l7 c624 e623,l7 c2364 out2368] w) ?_ ?_)
    ·refine cd s u rfl (fun u=>?_) fun u=>?_
     ·refine wp_region_lit (rn 5 [0] s d rfl rfl fun a s=>?_)
      obtain ⟨x2372,h2370,u⟩:=bt u
      obtain ⟨b2379,q2376,c2377,h2380,h2373,h2374,h2378,h2371⟩:=d.elemRV (α:=Overlap) 2 rfl 2 rfl h2370
      have hsv2381:=s
      have hwv2382:=d
      subst h2380
      have s:=hsv2381
      have d:=hwv2382
      obtain ⟨_,_,_,rfl,rfl,rfl,rfl⟩:=h2371
      refine sv s (o6 runUnderlying34 sizeOf42 rfl rfl h2373.1 h2373.2 h2374) rfl fun a s=>?_
      refine sv s (l5 (o':=q2376+1) runUnderlying42 rfl sizeOf3 rfl rfl rfl) rfl fun a s=>?_
      obtain ⟨l2384,h2383,u⟩:=bt u
      refine a7s (α:=Overlap) (f:=1) (m:=1) s d 2 rfl 2 rfl h2374 rfl rfl sizeOf3 rfl rfl rfl h2383 (fun es he=>by rw [h2378] at he;subst he;exact ⟨_,_,_,rfl,rfl,rfl,rfl⟩) trivial ?_
      intro c2385 a w s d
      have h2386:=Y0 h2383
      try have s:=s.fl 15 rfl h2386
      try have s:=s.fl 152 rfl h2386
      exact nl ⟨l2384,c2385,(ad b2379),k1569,Sv2308,u,wj s d [1,2] [1,2,0]⟩
     refine wp_region_lit (rn 2 [0] s d rfl rfl fun a s=>?_)
     refine o7 (α:=Overlap) (vs:=[.agg #[iv x2094,iv x2103,.bool e2198]]) (cs:=[iv x2094,iv x2103,.bool e2198]) (xs:=([(⟨x2094,x2103,e2198⟩:Overlap)]:List Overlap)) s d El34 rfl rfl rfl rfl rfl rfl ⟨⟨_,_,_,rfl,rfl,rfl,rfl⟩,rfl⟩ rfl trivial rfl fun b2388 a w s d=>?_
     obtain ⟨l2390,h2389,u⟩:=bt u
     refine F4 (α:=Overlap) s d El34 3 rfl rfl rfl 3 rfl 0 rfl 0 rfl h2389 rfl trivial ?_
     intro p2391 k2392 c2393 a w s d
     refine rz0 1 s rfl fun a s=>?_
     exact ⟨l2390,c2393,p2391,k2392,Sv2308,u,wj s d [2,3] [2,3,0]⟩
    rintro a w ⟨out2368,c2364,p2365,k2366,Sv2367,u,s,d⟩
    exact l8 (tn ⟨out2368,c2364,p2365,k2366,Sv2367,u,wj s d [0,1] [0,1,2]⟩)
   rintro a w ⟨out2022,c2018,p2019,k2020,Sv2021,u,s,d⟩
   refine tn (wp_region_lit (rn0 2 s rfl fun a s=>?_))
   obtain ⟨i2024,h2023,u⟩:=bt u
   refine sv s (o8 rfl h2023) rfl fun a s=>?_
   exact nl ⟨_,io u,c2018,p2019,k2020,Sv2021,wj s d [0,1] [0,1,2]⟩
  refine wp_exit (j5 (j5 (o9 ?_)))
  obtain rfl:=oi u
  have h2395:=hd1793 _ rfl
  subst h2395
  exact tn ⟨c1567,p1568,k1569,Sv1570,wj s d [1] [2]⟩
 rintro a w ⟨c1798,p1799,k1800,Sv1801,s,d⟩
 refine tn (wp_seq (sz0 3 s rfl fun a s=>?_))
 refine cd s u rfl (fun u=>?_) fun u=>?_
 ·refine sz0 2 s rfl fun a s=>?_
  obtain rfl:=oi u
  have d:=d.nilRow Overlap 42
  exact wp_ret (j6 (Q8 s rfl (q9 rfl) (q9 rfl) (d.ret ⟨none,0,[],rfl,(d.outs [0] (by decide) rfl),(d.envAt 0 rfl)⟩)))
 refine sk (sz0 3 s rfl fun a s=>?_)
 obtain rfl:=oi u
 exact wp_ret (Q8 s rfl (q9 rfl) (q9 rfl) (d.ret ⟨p1799,k1800,c1798,rfl,(d.outs [0] (by decide) rfl),(d.envAt 0 rfl)⟩))
theorem a2k {w0 S0 p2 k3 p6 k7 a1 b5 r} (u:a1P a1 b5=some r) (hS:Dm S0 w0) (h4:(Sq p2 k3 a1).p S0 w0) (h8:(Sq p6 k7 b5).p S0 w0):Ck Tryz.prog 38 #[sl p2 k3 a1,sl p6 k7 b5] w0 S0 [] u6 r:=by
 refine en 26 func38 rfl hS rfl rfl rfl fun a s d=>?_
 have d:=(d.addE h4).addE h8
 refine sz0 1 s rfl fun a s=>?_
 refine wp_seq (sz0 5 s rfl fun a s=>?_)
 refine cd s u rfl (fun u=>?_) fun u=>?_
 ·refine sz0 1 s rfl fun a s=>?_
  obtain rfl:=oi u
  exact wp_ret (j6 (rt s rfl (d.ret rfl)))
 refine sk (wp_seq (sz0 1 s rfl fun a s=>?_))
 refine wp_block (u7 (fun sv109 a w=>∃ Sv173,Sl 26 [(0,sl p2 k3 a1),(1,sl p6 k7 b5),(5,iv sv109)] a∧Wd ⟨w0,S0,[]⟩ Sv173 [] [Sq p2 k3 a1,Sq p6 k7 b5] w) 0 u ⟨S0,wj s d [] [1,0]⟩ ?_)
 repeat clear u
 rintro sv109 a w tv206 ⟨Sv173,s,d⟩ u hd205
 refine wp_seq (sz0 4 s rfl fun a s=>?_)
 refine cd s u rfl (fun u=>?_) fun u=>?_
 ·refine sk (wp_seq (wp_block (wp_seq ?_)))
  obtain ⟨x241,h239,u⟩:=bt u
  obtain ⟨b247,o248,q245,c246,h249,h242,h243,h244,h240⟩:=d.elemV 0 rfl h239
  have hsv250:=s
  have hwv251:=d
  subst h249
  have s:=hsv250
  have d:=hwv251
  obtain ⟨_,_,_,rfl,rfl,rfl,rfl⟩:=h240
  have d:=d.addE h244
  obtain ⟨x254,h252,u⟩:=bt u
  obtain ⟨b260,o261,q258,c259,h262,h255,h256,h257,h253⟩:=d.elemV 2 rfl h252
  have hsv263:=s
  have hwv264:=d
  subst h262
  have s:=hsv263
  have d:=hwv264
  obtain ⟨_,_,_,rfl,rfl,rfl,rfl⟩:=h253
  have d:=d.addE h257
  refine A9 (fun a w=>∃ Sv265,Sl 26 [(0,sl (some ⟨b247,o248,none⟩) k3 a1),(1,sl (some ⟨b260,o261,none⟩) k7 b5),(5,iv sv109),(25,.bool (!((x241.From == x254.From) && ((x241.To == x254.To) && ((x241.Same == x254.Same) && true)))))] a∧Wd ⟨w0,S0,[]⟩ Sv265 [] [Sq (some ⟨b247,o248,none⟩) k3 a1,Sq (some ⟨b260,o261,none⟩) k7 b5] w) ?_ ?_
  ·refine h_c [] [0,1] d rfl rfl (by kernel_rfl) rfl fun hC d=>?_
   refine gn 2 [0,1] [] s hC rfl rfl rfl fun a s=>?_
   refine gx s 2 rfl trivial rfl hC runUnderlying34 sizeOf42 rfl rfl h242 h243 fun a s=>?_
   refine gv s 3 rfl rfl hC (fun w hC=>G5 (j:=0) (hC.ceAt 1 rfl) rfl isAgg42 sizeOf42 rfl rfl) fun a s=>?_
   refine gn 2 [4,5] [] s hC rfl rfl rfl fun a s=>?_
   refine gx s 6 rfl trivial rfl hC runUnderlying34 sizeOf42 rfl rfl h255 h256 fun a s=>?_
   refine gv s 7 rfl rfl hC (fun w hC=>G5 (j:=0) (hC.ceAt 0 rfl) rfl isAgg42 sizeOf42 rfl rfl) fun a s=>?_
   refine gv s 8 rfl rfl hC (fun w hC=>a6V (by kernel_rfl) rfl rfl (R4 runUnderlying42 (by kernel_rfl) (EqF.cons1 rfl isAgg3 rfl rfl (Q6 runUnderlying3) (EqF.cons1 rfl isAgg3 rfl rfl (Q6 runUnderlying3) (EqF.cons1 rfl isAgg4 rfl rfl (b4o runUnderlying4) EqF.nil))))) fun a s=>?_
   refine y7 (by kernel_rfl) ?_
   exact ⟨Sv173,wj s d [] [2,3]⟩
  rintro a w ⟨Sv265,s,d⟩
  refine tn (cd s u rfl (fun u=>?_) fun u=>?_)
  ·refine sz0 1 s rfl fun a s=>?_
   obtain rfl:=oi u
   have h268:=hd205 _ rfl
   subst h268
   exact wp_ret (A8 (j6 (j6 (A8 (j6 (rt s rfl (d.ret rfl)))))))
  refine wp_skip (l8 (tn (wp_region_lit (rn0 2 s rfl fun a s=>?_))))
  obtain ⟨i270,h269,u⟩:=bt u
  refine sv s (o8 rfl h269) rfl fun a s=>?_
  exact nl ⟨_,io u,Sv265,wj s d [] [0,1]⟩
 obtain ⟨rv271,u,h272⟩:=a0x u
 have h272:=(hd205 _ h272.symm).symm
 subst h272
 refine wp_exit (j5 (j5 (o9 (tn (sz0 1 s rfl fun a s=>?_)))))
 obtain rfl:=oi u
 exact q1 s rfl (d.ret rfl)
theorem a3n {w0 S0 p2 k3 l1 t5 r} (u:U9 l1 t5=some r) (hS:Dm S0 w0) (h4:(Sq p2 k3 l1).p S0 w0):Ck Tryz.prog 15 #[sl p2 k3 l1,iv t5] w0 S0 [] j4 r:=by
 refine en 36 func15 rfl hS rfl rfl rfl fun a s d=>?_
 have d:=d.addE h4
 refine sz0 1 s rfl fun a s=>?_
 refine sn0 1 s rfl fun a s=>?_
 obtain ⟨rv7,h6,u⟩:=bt u
 refine cR s (a6Y h6 d.dom (d.envAt 0 rfl)) (j3 call51 rfl) rfl ?_
 rintro v15 Sv12 w a h13 ⟨p8,k9,c11,rfl,h16,h10⟩ s
 have d:=(d.callN h13 h16).addE (e:=l7 c11 rv7.1) h10
 refine rz0 5 s rfl fun a s=>?_
 refine sz0 1 s rfl fun a s=>?_
 refine wp_seq (sz0 3 s rfl fun a s=>?_)
 obtain ⟨e116,h184,u⟩:=bt u
 refine q8 (fun a w=>∃ Sv117,Sl 36 [(7,iv e116)] a∧Wd ⟨w0,S0,[]⟩ Sv117 [] [] w) ?_ ?_
 ·refine wp_block (u7 (fun sv17 a w=>∃ Sv81,Sl 36 [(1,iv t5),(7,iv sv17.1),(18,sl p8 k9 rv7.1),(19,iv (rv7.1.length:Int)),(20,iv sv17.2)] a∧Wd ⟨w0,S0,[]⟩ Sv81 [.row p8 rv7.1.length k9 c11 56 12] [l7 c11 rv7.1] w) (0,0) h184 ⟨Sv12,wj s d [0] [0]⟩ ?_)
  clear h184
  repeat clear u
  rintro sv17 a w tv114 ⟨Sv81,s,d⟩ u hd113
  refine sz0 1 s rfl fun a s=>?_
  refine wp_seq (cd s u rfl (fun u=>?_) fun u=>?_)
  ·refine sk (wp_seq (wp_block (sr ?_)))
   obtain ⟨x152,h150,u⟩:=bt u
   obtain ⟨b159,q156,c157,h160,h153,h154,h158,h151⟩:=d.elemRV (α:=Record) 0 rfl 0 rfl h150
   have hsv161:=s
   have hwv162:=d
   subst h160
   have s:=hsv161
   have d:=hwv162
   obtain ⟨_,_,_,_,_,_,_,_,_,_,_,_,rfl,rfl,rfl,rfl,rfl,rfl,rfl,rfl,rfl,rfl,rfl,rfl,⟨p163,n164,k165,rfl,h166⟩⟩:=h151
   obtain rfl:=h166.1
   have d:=d.addE (e:=SlA p163 _ k165 x152.Samples) h166
   refine sv s (o6 runUnderlying28 sizeOf56 rfl rfl h153.1 h153.2 h154) rfl fun a s=>?_
   refine sv s (I1 (j:=0) (d.ownAt 0 rfl) rfl isAgg56 sizeOf56 h158 rfl rfl) rfl fun a s=>?_
   refine wa Z0 s d zeroValue56 fun b167 a w s d=>?_
   refine ws (C56 x152 p163 k165) s d 0 rfl rfl rfl sizeOf56 fun a w s d=>?_
   refine nl (sn 2 [0] s d rfl rfl fun a s=>?_)
   obtain ⟨rv169,h168,u⟩:=bt u
   refine cV s d (a5z h168 d.bdom (d.bE 0 rfl)) (j3 call54 rfl) rfl fun a w s d=>?_
   refine rz0 7 s rfl fun a s=>?_
   refine sz0 1 s rfl fun a s=>?_
   refine q8 (fun a w=>∃ (n179:Int) (Sv178:_),a1b sv17 n179=some tv114∧Sl 36 [(1,iv t5),(7,iv n179),(18,sl (ad b159) k9 rv7.1),(19,iv (rv7.1.length:Int)),(20,iv sv17.2)] a∧Wd ⟨w0,S0,[]⟩ Sv178 [.row (ad b159) rv7.1.length k9 c11 56 12] [l7 c11 rv7.1] w) ?_ ?_
   ·refine cd s u rfl (fun u=>?_) fun u=>?_
    ·refine wp_region_lit (rn0 2 s rfl fun a s=>?_)
     obtain ⟨n182,h181,u⟩:=bt u
     refine sv s (o8 rfl h181) rfl fun a s=>?_
     exact nl ⟨n182,Sv81,u,wj s d [1] [1]⟩
    exact sk ⟨sv17.1,Sv81,u,wj s d [1] [1]⟩
   rintro a w ⟨n179,Sv178,u,s,d⟩
   refine l8 (tn (wp_region_lit (rz0 2 s rfl fun a s=>?_)))
   exact ⟨_,io u,Sv178,wj s d [0] [0]⟩
  refine wp_exit (j5 (j5 (o9 ?_)))
  obtain rfl:=oi u
  have h183:=hd113 _ rfl
  subst h183
  exact tn ⟨Sv81,wj s d [] []⟩
 rintro a w ⟨Sv117,s,d⟩
 refine tn (sz0 2 s rfl fun a s=>?_)
 obtain rfl:=oi u
 exact q1 s rfl (d.ret rfl)
theorem a6f {w0 S0 p2 k3 l1 t5 r} (u:a3V l1 t5=some r) (hS:Dm S0 w0) (h4:(Sq p2 k3 l1).p S0 w0):Ck Tryz.prog 39 #[sl p2 k3 l1,iv t5] w0 S0 [] j4 r:=by
 refine en 18 func39 rfl hS rfl rfl rfl fun a s d=>?_
 have d:=d.addE h4
 refine sz0 1 s rfl fun a s=>?_
 refine sn0 1 s rfl fun a s=>?_
 obtain ⟨rv7,h6,u⟩:=bt u
 refine cR s (a8y h6 d.dom (d.envAt 0 rfl)) (j3 call22 rfl) rfl ?_
 rintro v15 Sv12 w a h13 ⟨p8,k9,c11,rfl,h16,h10⟩ s
 have d:=(d.callN h13 h16).addE (e:=l7 c11 rv7.1) h10
 refine rz0 5 s rfl fun a s=>?_
 refine wp_seq (sz0 2 s rfl fun a s=>?_)
 refine cd s u rfl (fun u=>?_) fun u=>?_
 ·refine sz0 1 s rfl fun a s=>?_
  obtain rfl:=oi u
  exact wp_ret (j6 (rt s rfl (d.ret rfl)))
 refine sk (sn0 2 s rfl fun a s=>?_)
 obtain ⟨rv20,h19,u⟩:=bt u
 obtain ⟨Sv25,d⟩:=D6 (α:=Record) d 0 rfl 0 rfl
 refine cR s (b1h h19 d.dom (d.envAt 0 rfl)) (j3 call80 rfl) rfl ?_
 rintro v29 Sv26 w a h27 ⟨p21,k22,c24,rfl,h30,h23⟩ s
 have d:=(d.callN h27 h30).addE (e:=l7 c24 rv20) h23
 refine sv s (y_len runUnderlying80 rfl) rfl fun a s=>?_
 obtain ⟨x32,h31,u⟩:=bt u
 refine sv s (o8 rfl h31) rfl fun a s=>?_
 refine nl ?_
 obtain rfl:=oi u
 exact q1 s rfl (d.ret rfl)
theorem b0J {w0 S0 p2 k3 p6 k7 a1 b5 r} (u:a4S a1 b5=some r) (hS:Dm S0 w0) (h4:(Sq p2 k3 a1.Samples).p S0 w0) (h8:(Sq p6 k7 b5.Samples).p S0 w0):Ck Tryz.prog 139 #[V56 a1 p2 k3,V56 b5 p6 k7] w0 S0 [] u6 r:=by
 refine en 26 func139 rfl hS rfl rfl rfl fun a s d=>?_
 have d:=(d.addE h4).addE h8
 refine sr (wb (C56 a1 p2 k3) s d rfl fun b9 a w s d=>?_)
 refine wb (C56 b5 p6 k7) s d rfl fun b10 a w s d=>?_
 refine rz0 1 s rfl fun a s=>?_
 refine wp_seq ?_
 obtain ⟨rv12,h11,u⟩:=bt u
 obtain ⟨rv14,h13,u⟩:=bt u
 obtain ⟨rv16,h15,u⟩:=bt u
 obtain ⟨rv18,h17,u⟩:=bt u
 obtain ⟨rv22,h21,u⟩:=bt u
 refine A9 (fun a w=>∃ Sv23,Sl 26 [(4,.bool (decide (rv22<0)))] a∧Wd ⟨w0,S0,[]⟩ Sv23 [] [] w) ?_ ?_
 ·refine h_c [0,1] [] d rfl rfl (by kernel_rfl) rfl fun hC d=>?_
  refine gn 14 [0,1,2,3,5,6,7,8,10,11,12,13,15,16] [1,0,0,1,0,1,1,0] s hC rfl rfl rfl fun a s=>?_
  refine ho 4 rfl ?_
  refine cV s d (F6 h11 d.bdom) (j3 call123 rfl) rfl fun a w s d=>?_
  refine h_n [0,1] [] d rfl rfl fun hC=>?_
  refine ho 9 rfl ?_
  refine cV s d (F6 h13 d.bdom) (j3 call123 rfl) rfl fun a w s d=>?_
  refine h_n [0,1] [] d rfl rfl fun hC=>?_
  refine ho 14 rfl ?_
  refine cV s d (F6 h15 d.bdom) (j3 call123 rfl) rfl fun a w s d=>?_
  refine h_n [0,1] [] d rfl rfl fun hC=>?_
  refine ho 17 rfl ?_
  refine cV s d (a6A h17 d.bdom (d.bE 1 rfl) (d.bE 0 rfl)) (j3 call126 rfl) rfl fun a w s d=>?_
  refine h_n [0,1] [] d rfl rfl fun hC=>?_
  refine ho 18 rfl ?_
  refine o7 (α:=Int) (vs:=[iv rv12,iv rv14,iv rv16,iv rv18]) (cs:=[iv rv12,iv rv14,iv rv16,iv rv18]) (xs:=([rv12,rv14,rv16,rv18]:List Int)) s d S9 rfl rfl rfl rfl rfl rfl ⟨⟨_,rfl,rfl⟩,⟨⟨_,rfl,rfl⟩,⟨⟨_,rfl,rfl⟩,⟨⟨_,rfl,rfl⟩,rfl⟩⟩⟩⟩ rfl trivial rfl fun b20 a w s d=>?_
  refine h_n [1,2] [] d rfl rfl fun hC=>?_
  refine h_d [1,2,0] [] [0,1] [] d rfl rfl rfl rfl fun hC=>?_
  refine ho 19 rfl ?_
  refine cV s d (a6M h21 d.bdom (d.bRow 0 rfl 0 rfl)) (j3 call153 rfl) rfl fun a w s d=>?_
  refine h_n [1,2,0] [] d rfl rfl fun hC=>?_
  refine gn 2 [20,21] [] s hC rfl rfl rfl fun a s=>?_
  refine y7 (by kernel_rfl) ?_
  exact ⟨S0,wj s d [] []⟩
 rintro a w ⟨Sv23,s,d⟩
 refine tn ?_
 obtain rfl:=oi u
 exact q1 s rfl (d.ret rfl)
theorem b0u {w0 S0 p2 k3 r1 r} (u:a4P r1=some r) (hS:Dm S0 w0) (h4:(Sq p2 k3 r1.Samples).p S0 w0):Ck Tryz.prog 174 #[V56 r1 p2 k3] w0 S0 [] K3 r:=by
 refine en 20 func174 rfl hS rfl rfl rfl fun a s d=>?_
 have d:=d.addE h4
 refine sr (wb (C56 r1 p2 k3) s d rfl fun b5 a w s d=>?_)
 refine rz0 1 s rfl fun a s=>?_
 refine sz0 1 s rfl fun a s=>?_
 refine wp_seq (sz 5 [0] s d rfl rfl fun a s=>?_)
 obtain ⟨e63,h99,u⟩:=bt u
 refine q8 (fun a w=>∃ c64 p65 k66 Sv67,Sl 20 [(3,sl p65 k66 e63)] a∧Wd ⟨w0,S0,[]⟩ Sv67 [.row p65 e63.length k66 c64 3 1] [l7 c64 e63] w) ?_ ?_
 ·refine wp_block ?_
  have d:=d.nilRow Int 3
  refine u7 (fun sv6 a w=>∃ c41 p42 k43 Sv44,Sl 20 [(1,pt b5),(3,sl p42 k43 sv6.1),(8,iv (w64 ((r1.Samples.length:Int)+1))),(9,iv sv6.2)] a∧Wd ⟨w0,S0,[]⟩ Sv44 [.box b5 (C56 r1 p2 k3) 56,.row p42 sv6.1.length k43 c41 3 1] [Sq p2 k3 r1.Samples,l7 c41 sv6.1] w) (([]:List Int),0) h99 ⟨[],none,0,S0,wj s d [1,0] [1,0]⟩ ?_
  clear h99
  repeat clear u
  rintro sv6 a w tv61 ⟨c41,p42,k43,Sv44,s,d⟩ u hd60
  refine sz0 1 s rfl fun a s=>?_
  refine wp_seq (cd s u rfl (fun u=>?_) fun u=>?_)
  ·refine sk (wp_seq (wp_block (sz0 2 s rfl fun a s=>?_)))
   refine wp_region_lit (rn 3 [0] s d rfl rfl fun a s=>?_)
   obtain ⟨rv85,h84,u⟩:=bt u
   refine cV s d (a6O h84 d.bdom (d.bE 0 rfl)) (j3 call116 rfl) rfl fun a w s d=>?_
   refine o7 (α:=Int) (vs:=[iv rv85]) (cs:=[iv rv85]) (xs:=([rv85]:List Int)) s d S9 rfl rfl rfl rfl rfl rfl ⟨⟨_,rfl,rfl⟩,rfl⟩ rfl trivial rfl fun b92 a w s d=>?_
   obtain ⟨l94,h93,u⟩:=bt u
   refine F4 (α:=Int) s d S9 2 rfl rfl rfl 2 rfl 0 rfl 0 rfl h93 rfl trivial ?_
   intro p95 k96 c97 a w s d
   refine av s rfl rfl fun a s=>?_
   refine wpList_nil ?_
   refine l8 (tn (wp_region_lit (rz0 2 s rfl fun a s=>?_)))
   exact ⟨_,io u,c97,p95,k96,Sv44,wj s d [1,2] [2,0]⟩
  refine wp_exit (j5 (j5 (o9 ?_)))
  obtain rfl:=oi u
  have h98:=hd60 _ rfl
  subst h98
  exact tn ⟨c41,p42,k43,Sv44,wj s d [1] [1]⟩
 rintro a w ⟨c64,p65,k66,Sv67,s,d⟩
 refine tn (sz0 2 s rfl fun a s=>?_)
 obtain rfl:=oi u
 exact q1 s rfl (d.ret ⟨p65,k66,c64,rfl,(d.outs [0] (by decide) rfl),(d.envAt 0 rfl)⟩)
abbrev b1o (w0:World) (X:List Nat) (r:(List Bool)):Rd:=fun S w v=>∃ p0_0 k0_0 c0_0,v=sl p0_0 k0_0 r∧Outs X w0 S w [.row p0_0 r.length k0_0 c0_0 4 1]∧(l7 c0_0 r).p S w
theorem b1n {w0 S0 p2 k3 p6 k7 r1 better5 r} (u:a5C r1 better5=some r) (hS:Dm S0 w0) (h4:(Sq p2 k3 r1.Samples).p S0 w0) (h8:(Sq p6 k7 better5).p S0 w0):Ck Tryz.prog 141 #[V56 r1 p2 k3,sl p6 k7 better5] w0 S0 [] b1o r:=by
 refine en 60 func141 rfl hS rfl rfl rfl fun a s d=>?_
 have d:=(d.addE h4).addE h8
 refine sr (wb (C56 r1 p2 k3) s d rfl fun b9 a w s d=>?_)
 refine rz0 1 s rfl fun a s=>?_
 refine sn 1 [0] s d rfl rfl fun a s=>?_
 obtain ⟨rv11,h10,u⟩:=bt u
 refine cR s (b0u h10 d.dom (d.envAt 1 rfl)) (j3 call174 rfl) rfl ?_
 rintro v19 Sv16 w a h17 ⟨p12,k13,c15,rfl,h20,h14⟩ s
 have d:=(d.callN h17 h20).addE (e:=l7 c15 rv11) h14
 refine rz0 1 s rfl fun a s=>?_
 refine sn 3 [1] s d rfl rfl fun a s=>?_
 obtain ⟨l22,h21,u⟩:=bt u
 refine w_make (α:=Bool) s d El153 ⟨_,rfl,rfl⟩ rfl rfl h21 rfl trivial ?_
 intro p23 c24 a w s d
 refine rz0 1 s rfl fun a s=>?_
 refine sz0 1 s rfl fun a s=>?_
 refine wp_seq (sz0 3 s rfl fun a s=>?_)
 obtain ⟨e478,h872,u⟩:=bt u
 refine q8 (fun a w=>∃ c479 p480 k481 Sv482,Sl 60 [(6,sl p480 k481 e478)] a∧Wd ⟨w0,S0,[]⟩ Sv482 [.row p480 e478.length k481 c479 4 1] [l7 c479 e478] w) ?_ ?_
 ·refine wp_block (u7 (fun sv25 a w=>∃ c324 p325 k326 Sv327,Sl 60 [(1,sl p6 k7 better5),(5,sl p12 k13 rv11),(6,sl p325 k326 sv25.1),(7,iv sv25.2.1),(16,iv (l22.length:Int)),(17,iv sv25.2.2)] a∧Wd ⟨w0,S0,[]⟩ Sv327 [.row p12 rv11.length k13 c15 3 1,.row p325 sv25.1.length k326 c324 4 1] [Sq p6 k7 better5,l7 c15 rv11,l7 c324 sv25.1] w) (l22,0,0) h872 ⟨c24,p23,l22.length,Sv16,wj s d [1,0] [2,1,0]⟩ ?_)
  clear h872
  repeat clear u
  rintro sv25 a w tv476 ⟨c324,p325,k326,Sv327,s,d⟩ u hd475
  refine sz0 1 s rfl fun a s=>?_
  refine wp_seq (cd s u rfl (fun u=>?_) fun u=>?_)
  ·refine sk (wp_seq (wp_block (sz0 2 s rfl fun a s=>?_)))
   refine wp_seq ?_
   obtain ⟨e730,h870,u⟩:=bt u
   refine q8 (fun a w=>∃ Sv731,Sl 60 [(1,sl p6 k7 better5),(5,sl p12 k13 rv11),(6,sl p325 k326 sv25.1),(7,iv e730),(8,iv sv25.2.2),(16,iv (l22.length:Int)),(17,iv sv25.2.2)] a∧Wd ⟨w0,S0,[]⟩ Sv731 [.row p12 rv11.length k13 c15 3 1,.row p325 sv25.1.length k326 c324 4 1] [Sq p6 k7 better5,l7 c15 rv11,l7 c324 sv25.1] w) ?_ ?_
   ·refine wp_block (u7 (fun sv631 a w=>∃ Sv695,Sl 60 [(1,sl p6 k7 better5),(5,sl p12 k13 rv11),(6,sl p325 k326 sv25.1),(7,iv sv631),(8,iv sv25.2.2),(16,iv (l22.length:Int)),(17,iv sv25.2.2)] a∧Wd ⟨w0,S0,[]⟩ Sv695 [.row p12 rv11.length k13 c15 3 1,.row p325 sv25.1.length k326 c324 4 1] [Sq p6 k7 better5,l7 c15 rv11,l7 c324 sv25.1] w) sv25.2.1 h870 ⟨Sv327,wj s d [0,1] [0,1,2]⟩ ?_)
    clear h870
    repeat clear u
    rintro sv631 a w tv728 ⟨Sv695,s,d⟩ u hd727
    refine wp_seq (wp_seq ?_)
    obtain ⟨c758,hc758,u⟩:=bt u
    refine A9 (fun a w=>∃ Sv759,Sl 60 [(1,sl p6 k7 better5),(5,sl p12 k13 rv11),(6,sl p325 k326 sv25.1),(7,iv sv631),(8,iv sv25.2.2),(16,iv (l22.length:Int)),(17,iv sv25.2.2),(35,.bool c758)] a∧Wd ⟨w0,S0,[]⟩ Sv759 [.row p12 rv11.length k13 c15 3 1,.row p325 sv25.1.length k326 c324 4 1] [Sq p6 k7 better5,l7 c15 rv11,l7 c324 sv25.1] w) ?_ ?_
    ·rcases Bool.eq_false_or_eq_true (decide (sv631<(better5.length:Int))) with h760 | h760
     ·have h761:=E9 hc758 h760
      obtain ⟨x764,h762,h761⟩:=H5 h761
      obtain ⟨b770,o771,q768,c769,h772,h765,h766,h767,h763⟩:=d.elemV 0 rfl h762
      have hsv773:=s
      have hwv774:=d
      subst h772
      have s:=hsv773
      have d:=hwv774
      obtain ⟨_,_,rfl,rfl,rfl⟩:=h763
      have d:=d.addE h767
      obtain ⟨x777,h775,h761⟩:=H5 h761
      obtain ⟨b784,q781,c782,h785,h778,h779,h783,h776⟩:=d.elemRV (α:=Int) 0 rfl 2 rfl h775
      have hsv786:=s
      have hwv787:=d
      subst h785
      have s:=hsv786
      have d:=hwv787
      obtain ⟨_,rfl,rfl⟩:=h776
      refine h_c [0,1] [0] d rfl rfl (by kernel_rfl) rfl fun hC d=>?_
      refine gn 5 [0,1,2,3,4] [] s hC rfl rfl rfl fun a s=>?_
      have s:=s.bT 24 rfl h760
      refine gn 2 [5,6] [] s hC rfl rfl rfl fun a s=>?_
      refine gx s 7 rfl ⟨_,rfl,rfl⟩ rfl hC runUnderlying30 sizeOf71 rfl rfl h765 h766 fun a s=>?_
      refine gt s 8 rfl ⟨_,rfl,rfl⟩ rfl hC (fun w hC=>l5 (o':=q768+1) runUnderlying71 rfl sizeOf3 rfl rfl rfl) fun a s=>?_
      refine gt s 9 rfl ⟨_,rfl,rfl⟩ rfl hC (fun w hC=>C8 (j:=1) (hC.ceAt 0 rfl) rfl isAgg3 rfl) fun a s=>?_
      refine gn 2 [10,11] [] s hC rfl rfl rfl fun a s=>?_
      refine gx s 12 rfl ⟨_,rfl,rfl⟩ rfl hC runUnderlying22 sizeOf3 rfl rfl h778 h779 fun a s=>?_
      refine gt s 13 rfl ⟨_,rfl,rfl⟩ rfl hC (fun w hC=>A7 (j:=0) (hC.ownAt 0 rfl) rfl isAgg3 h783 rfl) fun a s=>?_
      refine gt s 14 rfl ⟨_,rfl,rfl⟩ rfl hC (fun w hC=>b1j rfl rfl) fun a s=>?_
      refine gT s 15 rfl rfl hC rfl rfl h761 fun a s=>?_
      refine y7 (by kernel_rfl) ?_
      exact ⟨Sv695,wj s d [0,1] [1,2,3]⟩
     have h788:=F7 hc758 h760
     refine h_c [0,1] [] d rfl rfl (by kernel_rfl) rfl fun hC d=>?_
     refine gn 5 [0,1,2,3,4] [] s hC rfl rfl rfl fun a s=>?_
     have s:=s.bF 24 rfl h760
     refine gn 10 [5,6,7,8,9,10,11,12,13,14] [] s hC rfl rfl rfl fun a s=>?_
     refine gF s 15 rfl rfl hC rfl rfl h788 fun a s=>?_
     refine y7 (by kernel_rfl) ?_
     exact ⟨Sv695,wj s d [0,1] [0,1,2]⟩
    rintro a w ⟨Sv759,s,d⟩
    refine tn (cd s u rfl (fun u=>?_) fun u=>?_)
    ·refine sk (wp_block (wp_region_lit (rn0 2 s rfl fun a s=>?_)))
     obtain ⟨k794,h793,u⟩:=bt u
     refine sv s (o8 rfl h793) rfl fun a s=>?_
     refine wpList_nil ?_
     exact l8 (tn ⟨_,io u,Sv759,wj s d [0,1] [0,1,2]⟩)
    refine wp_exit (j5 (j5 (o9 ?_)))
    obtain rfl:=oi u
    have h795:=hd727 _ rfl
    subst h795
    exact tn ⟨Sv759,wj s d [0,1] [0,1,2]⟩
   rintro a w ⟨Sv731,s,d⟩
   refine tn ?_
   obtain ⟨c822,hc822,u⟩:=bt u
   obtain ⟨x825,h823,u⟩:=bt u
   obtain ⟨b832,q829,c830,h833,h826,h827,h831,h824⟩:=d.elemRV (α:=Bool) 1 rfl 2 rfl h823
   have hsv834:=s
   have hwv835:=d
   subst h833
   have s:=hsv834
   have d:=hwv835
   obtain ⟨_,rfl,rfl⟩:=h824
   obtain ⟨l837,h836,u⟩:=bt u
   refine A9 (fun a w=>∃ Sv840 c838,Sl 60 [(1,sl p6 k7 better5),(5,sl p12 k13 rv11),(6,sl (ad b832) k326 l837),(7,iv e730),(16,iv (l22.length:Int)),(17,iv sv25.2.2)] a∧Wd ⟨w0,S0,[]⟩ Sv840 [.row p12 rv11.length k13 c15 3 1,.row (ad b832) l837.length k326 c838 4 1] [Sq p6 k7 better5,l7 c15 rv11,l7 c838 l837] w) ?_ ?_
   ·rcases Bool.eq_false_or_eq_true (e730 == (better5.length:Int)) with h841 | h841
    ·have h842:=E9 hc822 h841
     refine h_c [0] [] d rfl rfl (by kernel_rfl) rfl fun hC d=>?_
     refine gn 7 [0,1,2,3,4,5,6] [] s hC rfl rfl rfl fun a s=>?_
     have s:=s.bT 44 rfl h841
     refine gn 11 [7,8,9,10,11,12,13,14,15,16,17] [] s hC rfl rfl rfl fun a s=>?_
     refine gT s 18 rfl rfl hC rfl rfl h842 fun a s=>?_
     refine gx s 19 rfl trivial rfl hC runUnderlying153 sizeOf4 rfl rfl h826 h827 fun a s=>?_
     refine ho 20 rfl ?_
     refine a2M (α:=Bool) s d 1 rfl 2 rfl h827 rfl rfl sizeOf4 rfl h836 ⟨_,rfl,rfl⟩ trivial ?_
     intro c838 a w s d
     have h839:=Y0 h836
     try have s:=s.fl 6 rfl h839
     try have s:=s.fl 38 rfl h839
     refine h_n [0] [] d rfl rfl fun hC=>?_
     refine y7 (by kernel_rfl) ?_
     exact ⟨Sv731,c838,wj s d [0,1] [1,2,0]⟩
    have h843:=F7 hc822 h841
    obtain ⟨x846,h844,h843⟩:=H5 h843
    obtain ⟨b852,o853,q850,c851,h854,h847,h848,h849,h845⟩:=d.elemV 0 rfl h844
    have hsv855:=s
    have hwv856:=d
    subst h854
    have s:=hsv855
    have d:=hwv856
    obtain ⟨_,_,rfl,rfl,rfl⟩:=h845
    have d:=d.addE h849
    obtain ⟨x859,h857,h843⟩:=H5 h843
    obtain ⟨b866,q863,c864,h867,h860,h861,h865,h858⟩:=d.elemRV (α:=Int) 0 rfl 2 rfl h857
    have hsv868:=s
    have hwv869:=d
    subst h867
    have s:=hsv868
    have d:=hwv869
    obtain ⟨_,rfl,rfl⟩:=h858
    refine h_c [0] [0] d rfl rfl (by kernel_rfl) rfl fun hC d=>?_
    refine gn 7 [0,1,2,3,4,5,6] [] s hC rfl rfl rfl fun a s=>?_
    have s:=s.bF 44 rfl h841
    refine gn 2 [7,8] [] s hC rfl rfl rfl fun a s=>?_
    refine gx s 9 rfl ⟨_,rfl,rfl⟩ rfl hC runUnderlying30 sizeOf71 rfl rfl h847 h848 fun a s=>?_
    refine gt s 10 rfl ⟨_,rfl,rfl⟩ rfl hC (fun w hC=>l5 (o':=q850+0) runUnderlying71 rfl sizeOf3 rfl rfl rfl) fun a s=>?_
    refine gt s 11 rfl ⟨_,rfl,rfl⟩ rfl hC (fun w hC=>C8 (j:=0) (hC.ceAt 0 rfl) rfl isAgg3 rfl) fun a s=>?_
    refine gn 3 [12,13,14] [] s hC rfl rfl rfl fun a s=>?_
    refine gx s 15 rfl ⟨_,rfl,rfl⟩ rfl hC runUnderlying22 sizeOf3 rfl rfl h860 h861 fun a s=>?_
    refine gt s 16 rfl ⟨_,rfl,rfl⟩ rfl hC (fun w hC=>A7 (j:=0) (hC.ownAt 0 rfl) rfl isAgg3 h865 rfl) fun a s=>?_
    refine gt s 17 rfl ⟨_,rfl,rfl⟩ rfl hC (fun w hC=>b0n rfl rfl) fun a s=>?_
    refine gF s 18 rfl rfl hC rfl rfl h843 fun a s=>?_
    refine gx s 19 rfl trivial rfl hC runUnderlying153 sizeOf4 rfl rfl h826 h827 fun a s=>?_
    refine ho 20 rfl ?_
    refine a2M (α:=Bool) s d 1 rfl 3 rfl h827 rfl rfl sizeOf4 rfl h836 ⟨_,rfl,rfl⟩ trivial ?_
    intro c838 a w s d
    have h839:=Y0 h836
    try have s:=s.fl 6 rfl h839
    try have s:=s.fl 38 rfl h839
    refine h_n [0] [1] d rfl rfl fun hC=>?_
    refine y7 (by kernel_rfl) ?_
    exact ⟨Sv731,c838,wj s d [0,1] [2,3,0]⟩
   rintro a w ⟨Sv840,c838,s,d⟩
   refine l8 (tn (wp_region_lit (rz0 2 s rfl fun a s=>?_)))
   exact ⟨_,io u,c838,(ad b832),k326,Sv840,wj s d [0,1] [0,1,2]⟩
  refine wp_exit (j5 (j5 (o9 ?_)))
  obtain rfl:=oi u
  have h871:=hd475 _ rfl
  subst h871
  exact tn ⟨c324,p325,k326,Sv327,wj s d [1] [2]⟩
 rintro a w ⟨c479,p480,k481,Sv482,s,d⟩
 refine tn (sz0 2 s rfl fun a s=>?_)
 obtain rfl:=oi u
 exact q1 s rfl (d.ret ⟨p480,k481,c479,rfl,(d.outs [0] (by decide) rfl),(d.envAt 0 rfl)⟩)
abbrev b2H (w0:World) (X:List Nat) (r:Record):Rd:=fun S w v=>∃ p0_11 k0_11 c0_11,v=V56 r p0_11 k0_11∧Outs X w0 S w [.row p0_11 r.Samples.length k0_11 c0_11 3 1]∧(l7 c0_11 r.Samples).p S w
theorem a9e {w0 S0 p2 k3 r1 from5 to6 r} (u:a6a r1 from5 to6=some r) (hS:Dm S0 w0) (h4:(Sq p2 k3 r1.Samples).p S0 w0):Ck Tryz.prog 143 #[V56 r1 p2 k3,iv from5,iv to6] w0 S0 [] b2H r:=by
 refine en 20 func143 rfl hS rfl rfl rfl fun a s d=>?_
 have d:=d.addE h4
 refine sr (wb (C56 r1 p2 k3) s d rfl fun b7 a w s d=>?_)
 refine wa Z0 s d zeroValue56 fun b8 a w s d=>?_
 refine nl (sn 5 [1] s d rfl rfl fun a s=>?_)
 refine ws (C56 ⟨r1.Source,r1.Start,(w64 (r1.First+from5)),r1.Rate,r1.Error,r1.Run,r1.Seq,r1.Samples⟩ p2 k3) s d 1 rfl rfl rfl sizeOf3 fun a w s d=>?_
 refine nl (sn 4 [1] s d rfl rfl fun a s=>?_)
 obtain ⟨l14,h9,u⟩:=bt u
 obtain ⟨p12,k13,h10,h11⟩:=b5Q (d.envAt 0 rfl) h9
 have d:=d.addE h10
 refine sv s (a4E runUnderlying22 sizeOf3 rfl ⟨_,rfl⟩ ⟨_,rfl⟩ h11) rfl fun a s=>?_
 obtain ⟨rv16,h15,u⟩:=bt u
 refine cR s (a0Y h15 d.dom (d.envAt 0 rfl)) (j3 call66 rfl) rfl ?_
 rintro v24 Sv21 w a h22 ⟨p17,k18,c20,rfl,h25,h19⟩ s
 have d:=(d.callN h22 h25).addE (e:=l7 c20 rv16) h19
 refine sv s (l5 (o':=11) runUnderlying56 rfl sizeOf22 rfl rfl rfl) rfl fun a s=>?_
 refine ws (C56 ⟨r1.Source,r1.Start,(w64 (r1.First+from5)),r1.Rate,r1.Error,r1.Run,r1.Seq,rv16⟩ p17 k18) s d 2 rfl rfl rfl sizeOf22 fun a w s d=>?_
 refine nl (sn 1 [2] s d rfl rfl fun a s=>?_)
 refine ws (C56 ⟨r1.Source,r1.Start,(w64 (r1.First+from5)),r1.Rate,r1.Error,r1.Run,r1.Seq,rv16⟩ p17 k18) s d 1 rfl rfl rfl sizeOf56 fun a w s d=>?_
 refine nl ?_
 obtain rfl:=oi u
 exact wp_ret (b2m s rfl (K4 d 1 rfl rfl isAgg56 sizeOf56 rfl) (d.ret ⟨p17,k18,c20,rfl,(d.outs [0] (by decide) rfl),(d.envAt 0 rfl)⟩))
abbrev a9d (w0:World) (X:List Nat) (r:(Record × Int)):Rd:=fun S w v=>∃ p0_11 k0_11 c0_11,v=.tuple #[V56 r.1 p0_11 k0_11,iv r.2]∧Outs X w0 S w [.row p0_11 r.1.Samples.length k0_11 c0_11 3 1]∧(l7 c0_11 r.1.Samples).p S w
theorem b2G {w0 S0 p2 k3 r1 from5 to6 r} (u:a7P r1 from5 to6=some r) (hS:Dm S0 w0) (h4:(Sq p2 k3 r1.Samples).p S0 w0):Ck Tryz.prog 173 #[V56 r1 p2 k3,iv from5,iv to6] w0 S0 [] a9d r:=by
 refine en 31 func173 rfl hS rfl rfl rfl fun a s d=>?_
 have d:=d.addE h4
 refine sr (wb (C56 r1 p2 k3) s d rfl fun b7 a w s d=>?_)
 refine wa Z0 s d zeroValue56 fun b8 a w s d=>?_
 refine rz0 1 s rfl fun a s=>?_
 refine wp_seq (sn 1 [1] s d rfl rfl fun a s=>?_)
 obtain ⟨rv10,h9,u⟩:=bt u
 refine cV s d (a0a h9 d.bdom (d.bE 0 rfl)) (j3 call84 rfl) rfl fun a w s d=>?_
 refine rz0 1 s rfl fun a s=>?_
 refine cd s u rfl (fun u=>?_) fun u=>?_
 ·refine sr (sv s (D7 (vs:=[]) a6s rfl rfl) rfl fun a s=>?_)
  refine ws Z0 s d 0 rfl rfl rfl sizeOf56 fun a w s d=>?_
  refine rz0 1 s rfl fun a s=>?_
  obtain rfl:=oi u
  have d:=d.nilRow Int 3
  exact wp_ret (j6 (Q8 s rfl (K4 d 1 rfl rfl isAgg56 sizeOf56 rfl) (q9 rfl) (d.ret ⟨none,0,[],rfl,(d.outs [0] (by decide) rfl),(d.envAt 0 rfl)⟩)))
 refine sk (wp_seq (sn0 3 s rfl fun a s=>?_))
 refine rO 4 14 [] s d rfl rfl rfl rfl rfl fun a s=>?_
 refine mv s rfl rfl fun a s=>?_
 refine rO 6 19 [1] s d rfl rfl rfl rfl rfl fun a s=>?_
 refine nl (cd s u rfl (fun u=>?_) fun u=>?_)
 ·refine sr (sv s (D7 (vs:=[]) a6s rfl rfl) rfl fun a s=>?_)
  refine ws Z0 s d 0 rfl rfl rfl sizeOf56 fun a w s d=>?_
  refine rz0 1 s rfl fun a s=>?_
  obtain rfl:=oi u
  have d:=d.nilRow Int 3
  exact wp_ret (j6 (Q8 s rfl (K4 d 1 rfl rfl isAgg56 sizeOf56 rfl) (q9 rfl) (d.ret ⟨none,0,[],rfl,(d.outs [0] (by decide) rfl),(d.envAt 0 rfl)⟩)))
 refine sk (sn 3 [1] s d rfl rfl fun a s=>?_)
 obtain ⟨rv23,h22,u⟩:=bt u
 refine cR s (a9e h22 d.dom (d.envAt 0 rfl)) (j3 call143 rfl) rfl ?_
 rintro v31 Sv28 w a h29 ⟨p24,k25,c27,rfl,h32,h26⟩ s
 have d:=(d.callN h29 h32).addE (e:=l7 c27 rv23.Samples) h26
 refine ws (C56 rv23 p24 k25) s d 1 rfl rfl rfl sizeOf56 fun a w s d=>?_
 refine rz0 1 s rfl fun a s=>?_
 obtain rfl:=oi u
 exact wp_ret (Q8 s rfl (K4 d 1 rfl rfl isAgg56 sizeOf56 rfl) (q9 rfl) (d.ret ⟨p24,k25,c27,rfl,(d.outs [0] (by decide) rfl),(d.envAt 0 rfl)⟩))
theorem b1p {w0 S0 p2 k3 p6 k7 r1 keep5 r} (u:a2Q r1 keep5=some r) (hS:Dm S0 w0) (h4:(Sq p2 k3 r1.Samples).p S0 w0) (h8:(Sq p6 k7 keep5).p S0 w0):Ck Tryz.prog 140 #[V56 r1 p2 k3,sl p6 k7 keep5] w0 S0 [] F3 r:=by
 refine en 45 func140 rfl hS rfl rfl rfl fun a s d=>?_
 have d:=(d.addE h4).addE h8
 refine sr (wb (C56 r1 p2 k3) s d rfl fun b9 a w s d=>?_)
 refine rz0 1 s rfl fun a s=>?_
 refine sz0 1 s rfl fun a s=>?_
 refine wp_seq (sz0 1 s rfl fun a s=>?_)
 obtain ⟨e424,h754,u⟩:=bt u
 refine q8 (fun a w=>∃ c425 p426 k427 Sv428,Sl 45 [(5,sl p426 k427 e424)] a∧Wd ⟨w0,S0,[]⟩ Sv428 [.row p426 e424.length k427 c425 56 12] [l7 c425 e424] w) ?_ ?_
 ·refine wp_block ?_
  have d:=d.nilRow Record 56
  refine u7 (fun sv10 a w=>∃ c283 p284 k285 Sv286,Sl 45 [(1,sl p6 k7 keep5),(2,pt b9),(5,sl p284 k285 sv10.1),(6,iv sv10.2)] a∧Wd ⟨w0,S0,[]⟩ Sv286 [.box b9 (C56 r1 p2 k3) 56,.row p284 sv10.1.length k285 c283 56 12] [Sq p6 k7 keep5,Sq p2 k3 r1.Samples,l7 c283 sv10.1] w) (([]:List Record),0) h754 ⟨[],none,0,S0,wj s d [1,0] [1,2,0]⟩ ?_
  clear h754
  repeat clear u
  rintro sv10 a w tv422 ⟨c283,p284,k285,Sv286,s,d⟩ u hd421
  refine wp_seq (sz0 4 s rfl fun a s=>?_)
  refine cd s u rfl (fun u=>?_) fun u=>?_
  ·refine sk (wp_seq (wp_block (sz0 2 s rfl fun a s=>?_)))
   refine wp_seq ?_
   obtain ⟨e664,h752,u⟩:=bt u
   refine q8 (fun a w=>∃ Sv665,Sl 45 [(1,sl p6 k7 keep5),(2,pt b9),(5,sl p284 k285 sv10.1),(6,iv sv10.2),(7,iv e664)] a∧Wd ⟨w0,S0,[]⟩ Sv665 [.box b9 (C56 r1 p2 k3) 56,.row p284 sv10.1.length k285 c283 56 12] [Sq p6 k7 keep5,Sq p2 k3 r1.Samples,l7 c283 sv10.1] w) ?_ ?_
   ·refine wp_block (u7 (fun sv562 a w=>∃ Sv628,Sl 45 [(1,sl p6 k7 keep5),(2,pt b9),(5,sl p284 k285 sv10.1),(6,iv sv10.2),(7,iv sv562)] a∧Wd ⟨w0,S0,[]⟩ Sv628 [.box b9 (C56 r1 p2 k3) 56,.row p284 sv10.1.length k285 c283 56 12] [Sq p6 k7 keep5,Sq p2 k3 r1.Samples,l7 c283 sv10.1] w) sv10.2 h752 ⟨Sv286,wj s d [0,1] [0,1,2]⟩ ?_)
    clear h752
    repeat clear u
    rintro sv562 a w tv662 ⟨Sv628,s,d⟩ u hd661
    refine wp_seq (sn0 5 s rfl fun a s=>?_)
    obtain ⟨c680,hc680,u⟩:=bt u
    refine C7 5 (fun a w=>∃ Sv681,Sl 45 [(1,sl p6 k7 keep5),(2,pt b9),(5,sl p284 k285 sv10.1),(6,iv sv10.2),(7,iv sv562),(26,.bool c680)] a∧Wd ⟨w0,S0,[]⟩ Sv681 [.box b9 (C56 r1 p2 k3) 56,.row p284 sv10.1.length k285 c283 56 12] [Sq p6 k7 keep5,Sq p2 k3 r1.Samples,l7 c283 sv10.1] w) ?_ ?_
    ·rcases Bool.eq_false_or_eq_true (decide (sv562<(keep5.length:Int))) with h679 | h679
     ·have s:=s.bT 21 rfl h679
      have u:=E9 hc680 h679
      refine rn0 2 s rfl fun a s=>?_
      obtain ⟨x684,h682,u⟩:=bt u
      obtain ⟨b690,o691,q688,c689,h692,h685,h686,h687,h683⟩:=d.elemV 0 rfl h682
      have hsv693:=s
      have hwv694:=d
      subst h692
      have s:=hsv693
      have d:=hwv694
      obtain ⟨_,rfl,rfl⟩:=h683
      have d:=d.addE h687
      refine I6 s (o6 runUnderlying153 sizeOf4 rfl rfl h685.1 h685.2 h686) ⟨_,rfl,rfl⟩ rfl rfl fun a s=>?_
      refine I6 s (C8 (j:=0) (d.ceAt 0 rfl) rfl isAgg4 rfl) ⟨_,rfl,rfl⟩ rfl rfl fun a s=>?_
      refine sv s (X4 rfl rfl) rfl fun a s=>?_
      refine wpList_nil ?_
      obtain rfl:=oi u
      exact tn ⟨Sv628,wj s d [0,1] [1,2,3]⟩
     have s:=s.bF 21 rfl h679
     have u:=F7 hc680 h679
     refine rn0 5 s rfl fun a s=>?_
     refine wpList_nil ?_
     obtain rfl:=oi u
     exact tn ⟨Sv628,wj s d [0,1] [0,1,2]⟩
    rintro a w ⟨Sv681,s,d⟩
    refine nl (cd s u rfl (fun u=>?_) fun u=>?_)
    ·refine sk (wp_block (wp_region_lit (rn0 2 s rfl fun a s=>?_)))
     obtain ⟨to700,h699,u⟩:=bt u
     refine sv s (o8 rfl h699) rfl fun a s=>?_
     refine wpList_nil ?_
     exact l8 (tn ⟨_,io u,Sv681,wj s d [0,1] [0,1,2]⟩)
    refine wp_exit (j5 (j5 (o9 ?_)))
    obtain rfl:=oi u
    have h701:=hd661 _ rfl
    subst h701
    exact tn ⟨Sv681,wj s d [0,1] [0,1,2]⟩
   rintro a w ⟨Sv665,s,d⟩
   refine tn (sz0 3 s rfl fun a s=>?_)
   refine q8 (fun a w=>∃ (out727:(List Record)) (fromv728:Int) (c723 p724 k725 Sv726:_),a3D out727 fromv728=some tv422∧Sl 45 [(1,sl p6 k7 keep5),(2,pt b9),(5,sl p724 k725 out727),(6,iv fromv728)] a∧Wd ⟨w0,S0,[]⟩ Sv726 [.box b9 (C56 r1 p2 k3) 56,.row p724 out727.length k725 c723 56 12] [Sq p6 k7 keep5,Sq p2 k3 r1.Samples,l7 c723 out727] w) ?_ ?_
   ·refine cd s u rfl (fun u=>?_) fun u=>?_
    ·refine sn 3 [0] s d rfl rfl fun a s=>?_
     obtain ⟨rv733,h732,u⟩:=bt u
     refine cR s (b2G h732 d.dom (d.envAt 1 rfl)) (j3 call173 rfl) rfl ?_
     rintro v741 Sv738 w a h739 ⟨p734,k735,c737,rfl,h742,h736⟩ s
     have d:=(d.callN h739 h742).addE (e:=l7 c737 rv733.1.Samples) h736
     refine rn0 3 s rfl fun a s=>?_
     refine wa Z0 s d zeroValue56 fun b743 a w s d=>?_
     refine ws (C56 rv733.1 p734 k735) s d 0 rfl rfl rfl sizeOf56 fun a w s d=>?_
     refine rz0 1 s rfl fun a s=>?_
     refine wp_region_lit (rn 2 [0] s d rfl rfl fun a s=>?_)
     obtain ⟨Sv746,d⟩:=D6 (α:=Int) d 1 rfl 0 rfl
     refine o7 (α:=Record) (vs:=[V56 rv733.1 p734 k735]) (cs:=(C56 rv733.1 p734 k735)) (xs:=([rv733.1]:List Record)) s d a9F rfl rfl rfl rfl rfl rfl ⟨⟨_,_,_,_,_,_,_,_,_,_,_,_,rfl,rfl,rfl,rfl,rfl,rfl,rfl,rfl,rfl,rfl,rfl,rfl,⟨_,_,_,rfl,d.envAt 0 rfl⟩⟩,rfl⟩ rfl trivial rfl fun b745 a w s d=>?_
     obtain ⟨l748,h747,u⟩:=bt u
     refine F4 (α:=Record) s d a9F 3 rfl rfl rfl 5 rfl 0 rfl 0 rfl h747 rfl trivial ?_
     intro p749 k750 c751 a w s d
     refine rz0 3 s rfl fun a s=>?_
     exact ⟨l748,e664,c751,p749,k750,Sv746,u,wj s d [2,3] [4,5,0]⟩
    exact sk ⟨sv10.1,sv10.2,c283,p284,k285,Sv665,u,wj s d [0,1] [0,1,2]⟩
   rintro a w ⟨out727,fromv728,c723,p724,k725,Sv726,u,s,d⟩
   refine l8 (tn (wp_region_lit (rn0 2 s rfl fun a s=>?_)))
   obtain ⟨fromv730,h729,u⟩:=bt u
   refine sv s (o8 rfl h729) rfl fun a s=>?_
   exact nl ⟨_,io u,c723,p724,k725,Sv726,wj s d [0,1] [0,1,2]⟩
  refine wp_exit (j5 (j5 (o9 ?_)))
  obtain rfl:=oi u
  have h753:=hd421 _ rfl
  subst h753
  exact tn ⟨c283,p284,k285,Sv286,wj s d [1] [2]⟩
 rintro a w ⟨c425,p426,k427,Sv428,s,d⟩
 refine tn (sz0 2 s rfl fun a s=>?_)
 obtain rfl:=oi u
 exact q1 s rfl (d.ret ⟨p426,k427,c425,rfl,(d.outs [0] (by decide) rfl),(d.envAt 0 rfl)⟩)
theorem a9r {w0 S0 p2 k3 l1 r} (u:a1U l1=some r) (hS:Dm S0 w0) (h4:(Sq p2 k3 l1).p S0 w0):Ck Tryz.prog 99 #[sl p2 k3 l1] w0 S0 [] F3 r:=by
 refine en 45 func99 rfl hS rfl rfl rfl fun a s d=>?_
 have d:=d.addE h4
 refine sz0 1 s rfl fun a s=>?_
 refine sn0 1 s rfl fun a s=>?_
 obtain ⟨rv6,h5,u⟩:=bt u
 refine cR s (a6Z h5 d.dom (d.envAt 0 rfl)) (j3 call89 rfl) rfl ?_
 rintro v14 Sv11 w a h12 ⟨p7,k8,c10,rfl,h15,h9⟩ s
 have d:=(d.callN h12 h15).addE (e:=l7 c10 rv6) h9
 refine rz0 1 s rfl fun a s=>?_
 refine sz0 1 s rfl fun a s=>?_
 refine wp_seq (sz0 3 s rfl fun a s=>?_)
 obtain ⟨e586,h1095,u⟩:=bt u
 refine q8 (fun a w=>∃ c587 p588 k589 Sv590,Sl 45 [(4,sl p588 k589 e586)] a∧Wd ⟨w0,S0,[]⟩ Sv590 [.row p588 e586.length k589 c587 56 12] [l7 c587 e586] w) ?_ ?_
 ·refine wp_block ?_
  have d:=d.nilRow Record 56
  refine u7 (fun sv16 a w=>∃ c393 p394 k395 Sv396,Sl 45 [(3,sl p7 k8 rv6),(4,sl p394 k395 sv16.1),(12,sl p7 k8 rv6),(13,iv (rv6.length:Int)),(14,iv sv16.2)] a∧Wd ⟨w0,S0,[]⟩ Sv396 [.row p7 rv6.length k8 c10 56 12,.row p394 sv16.1.length k395 c393 56 12] [l7 c10 rv6,l7 c393 sv16.1] w) (([]:List Record),0) h1095 ⟨[],none,0,Sv11,wj s d [1,0] [1,0]⟩ ?_
  clear h1095
  repeat clear u
  rintro sv16 a w tv584 ⟨c393,p394,k395,Sv396,s,d⟩ u hd583
  refine sz0 1 s rfl fun a s=>?_
  refine wp_seq (cd s u rfl (fun u=>?_) fun u=>?_)
  ·refine sk (wp_seq (wp_block (sr ?_)))
   obtain ⟨x780,h778,u⟩:=bt u
   obtain ⟨b787,q784,c785,h788,h781,h782,h786,h779⟩:=d.elemRV (α:=Record) 0 rfl 0 rfl h778
   have hsv789:=s
   have hwv790:=d
   subst h788
   have s:=hsv789
   have d:=hwv790
   obtain ⟨_,_,_,_,_,_,_,_,_,_,_,_,rfl,rfl,rfl,rfl,rfl,rfl,rfl,rfl,rfl,rfl,rfl,rfl,⟨p791,n792,k793,rfl,h794⟩⟩:=h779
   obtain rfl:=h794.1
   have d:=d.addE (e:=SlA p791 _ k793 x780.Samples) h794
   refine sv s (o6 runUnderlying28 sizeOf56 rfl rfl h781.1 h781.2 h782) rfl fun a s=>?_
   refine sv s (I1 (j:=0) (d.ownAt 0 rfl) rfl isAgg56 sizeOf56 h786 rfl rfl) rfl fun a s=>?_
   refine wa Z0 s d zeroValue56 fun b795 a w s d=>?_
   refine ws (C56 x780 p791 k793) s d 0 rfl rfl rfl sizeOf56 fun a w s d=>?_
   refine nl (sz0 1 s rfl fun a s=>?_)
   refine wp_seq (sz0 3 s rfl fun a s=>?_)
   obtain ⟨e934,h1081,u⟩:=bt u
   refine q8 (fun a w=>∃ c935 p936 k937 Sv938,Sl 45 [(3,sl (ad b787) k8 rv6),(4,sl p394 k395 sv16.1),(6,pt b795),(7,sl p936 k937 e934),(12,sl (ad b787) k8 rv6),(13,iv (rv6.length:Int)),(14,iv sv16.2)] a∧Wd ⟨w0,S0,[]⟩ Sv938 [.box b795 (C56 x780 p791 k793) 56,.row (ad b787) rv6.length k8 c10 56 12,.row p394 sv16.1.length k395 c393 56 12,.row p936 e934.length k937 c935 71 2] [Sq p791 k793 x780.Samples,l7 c10 rv6,l7 c393 sv16.1,l7 c935 e934] w) ?_ ?_
   ·refine wp_block ?_
    have d:=d.nilRow Span 71
    refine u7 (fun sv796 a w=>∃ c885 p886 k887 Sv888,Sl 45 [(3,sl (ad b787) k8 rv6),(4,sl p394 k395 sv16.1),(6,pt b795),(7,sl p886 k887 sv796.1),(12,sl (ad b787) k8 rv6),(13,iv (rv6.length:Int)),(14,iv sv16.2),(18,sl (ad b787) k8 rv6),(19,iv (rv6.length:Int)),(20,iv sv796.2)] a∧Wd ⟨w0,S0,[]⟩ Sv888 [.box b795 (C56 x780 p791 k793) 56,.row (ad b787) rv6.length k8 c10 56 12,.row p394 sv16.1.length k395 c393 56 12,.row p886 sv796.1.length k887 c885 71 2] [Sq p791 k793 x780.Samples,l7 c10 rv6,l7 c393 sv16.1,l7 c885 sv796.1] w) (([]:List Span),0) h1081 ⟨[],none,0,Sv396,wj s d [1,2,3,0] [1,2,3,0]⟩ ?_
    clear h1081
    repeat clear u
    rintro sv796 a w tv932 ⟨c885,p886,k887,Sv888,s,d⟩ u hd931
    refine sz0 1 s rfl fun a s=>?_
    refine wp_seq (cd s u rfl (fun u=>?_) fun u=>?_)
    ·refine sk (wp_seq (wp_block (sr ?_)))
     obtain ⟨x984,h982,u⟩:=bt u
     obtain ⟨q988,c989,h985,h986,h990,h983⟩:=d.elemRK (α:=Record) 1 rfl 1 rfl h982
     obtain ⟨_,_,_,_,_,_,_,_,_,_,_,_,rfl,rfl,rfl,rfl,rfl,rfl,rfl,rfl,rfl,rfl,rfl,rfl,⟨p991,n992,k993,rfl,h994⟩⟩:=h983
     obtain rfl:=h994.1
     have d:=d.addE (e:=SlA p991 _ k993 x984.Samples) h994
     refine sv s (o6 runUnderlying28 sizeOf56 rfl rfl h985.1 h985.2 h986) rfl fun a s=>?_
     refine sv s (I1 (j:=0) (d.ownAt 1 rfl) rfl isAgg56 sizeOf56 h990 rfl rfl) rfl fun a s=>?_
     refine wa Z0 s d zeroValue56 fun b995 a w s d=>?_
     refine ws (C56 x984 p991 k993) s d 0 rfl rfl rfl sizeOf56 fun a w s d=>?_
     refine nl (sn 2 [0,1] s d rfl rfl fun a s=>?_)
     obtain ⟨rv997,h996,u⟩:=bt u
     refine cV s d (b0J h996 d.bdom (d.bE 0 rfl) (d.bE 1 rfl)) (j3 call139 rfl) rfl fun a w s d=>?_
     refine nl (q8 (fun a w=>∃ (better1022:(List Span)) (c1018 p1019 k1020 Sv1021:_),a1y sv796 better1022=some tv932∧Sl 45 [(3,sl (ad b787) k8 rv6),(4,sl p394 k395 sv16.1),(6,pt b795),(7,sl p1019 k1020 better1022),(12,sl (ad b787) k8 rv6),(13,iv (rv6.length:Int)),(14,iv sv16.2),(18,sl (ad b787) k8 rv6),(19,iv (rv6.length:Int)),(20,iv sv796.2)] a∧Wd ⟨w0,S0,[]⟩ Sv1021 [.box b795 (C56 x780 p791 k793) 56,.row (ad b787) rv6.length k8 c10 56 12,.row p394 sv16.1.length k395 c393 56 12,.row p1019 better1022.length k1020 c1018 71 2] [Sq p791 k793 x780.Samples,l7 c10 rv6,l7 c393 sv16.1,l7 c1018 better1022] w) ?_ ?_)
     ·refine cd s u rfl (fun u=>?_) fun u=>?_
      ·refine wp_region_lit (rn 2 [0] s d rfl rfl fun a s=>?_)
       obtain ⟨rv1025,h1024,u⟩:=bt u
       refine cV s d (a6u h1024 d.bdom (d.bE 0 rfl)) (j3 call87 rfl) rfl fun a w s d=>?_
       refine o7 (α:=Span) (vs:=[V71 rv1025]) (cs:=(C71 rv1025)) (xs:=([rv1025]:List Span)) s d a3o rfl rfl rfl rfl rfl rfl ⟨⟨_,_,rfl,rfl,rfl⟩,rfl⟩ rfl trivial rfl fun b1032 a w s d=>?_
       obtain ⟨l1034,h1033,u⟩:=bt u
       refine F4 (α:=Span) s d a3o 5 rfl rfl rfl 5 rfl 0 rfl 0 rfl h1033 rfl trivial ?_
       intro p1035 k1036 c1037 a w s d
       refine rz0 1 s rfl fun a s=>?_
       exact ⟨l1034,c1037,p1035,k1036,Sv888,u,wj s d [2,3,4,5] [3,4,5,0]⟩
      exact sk ⟨sv796.1,c885,p886,k887,Sv888,u,wj s d [1,2,3,4] [1,2,3,4]⟩
     rintro a w ⟨better1022,c1018,p1019,k1020,Sv1021,u,s,d⟩
     refine l8 (tn (wp_region_lit (rz0 2 s rfl fun a s=>?_)))
     exact ⟨_,io u,c1018,p1019,k1020,Sv1021,wj s d [0,1,2,3] [0,1,2,3]⟩
    refine wp_exit (j5 (j5 (o9 ?_)))
    obtain rfl:=oi u
    have h1038:=hd931 _ rfl
    subst h1038
    exact tn ⟨c885,p886,k887,Sv888,wj s d [0,1,2,3] [0,1,2,3]⟩
   rintro a w ⟨c935,p936,k937,Sv938,s,d⟩
   refine tn ?_
   obtain ⟨rv1040,h1039,u⟩:=bt u
   obtain ⟨rv1046,h1045,u⟩:=bt u
   obtain ⟨rv1052,h1051,u⟩:=bt u
   obtain ⟨l1058,h1057,u⟩:=bt u
   refine A9 (fun a w=>∃ Sv1062 c1061 k1060 p1059,Sl 45 [(3,sl (ad b787) k8 rv6),(4,sl p1059 k1060 l1058),(12,sl (ad b787) k8 rv6),(13,iv (rv6.length:Int)),(14,iv sv16.2)] a∧Wd ⟨w0,S0,[]⟩ Sv1062 [.row (ad b787) rv6.length k8 c10 56 12,.row p1059 l1058.length k1060 c1061 56 12] [l7 c10 rv6,l7 c1061 l1058] w) ?_ ?_
   ·refine h_c [0,1] [] d rfl rfl (by kernel_rfl) rfl fun hC d=>?_
    refine gn 4 [0,1,2,3] [0,0] s hC rfl rfl rfl fun a s=>?_
    refine ho 4 rfl ?_
    obtain ⟨Sv1063,d⟩:=D6 (α:=Span) d 3 rfl 3 rfl
    refine cR s (a4z h1039 d.dom (d.envAt 0 rfl)) (j3 call88 rfl) rfl ?_
    rintro v1067 Sv1064 w a h1065 ⟨p1041,k1042,c1044,rfl,h1068,h1043⟩ s
    have d:=(d.callN h1065 h1068).addE (e:=l7 c1044 rv1040) h1043
    refine h_n [1,2] [] d rfl rfl fun hC=>?_
    refine ho 5 rfl ?_
    obtain ⟨Sv1069,d⟩:=D6 (α:=Span) d 0 rfl 0 rfl
    refine cR s (b1n h1045 d.dom (d.envAt 3 rfl) (d.envAt 0 rfl)) (j3 call141 rfl) rfl ?_
    rintro v1073 Sv1070 w a h1071 ⟨p1047,k1048,c1050,rfl,h1074,h1049⟩ s
    have d:=(d.callN h1071 h1074).addE (e:=l7 c1050 rv1046) h1049
    refine h_n [1,2] [] d rfl rfl fun hC=>?_
    refine ho 6 rfl ?_
    obtain ⟨Sv1075,d⟩:=D6 (α:=Bool) d 0 rfl 0 rfl
    refine cR s (b1p h1051 d.dom (d.envAt 5 rfl) (d.envAt 0 rfl)) (j3 call140 rfl) rfl ?_
    rintro v1079 Sv1076 w a h1077 ⟨p1053,k1054,c1056,rfl,h1080,h1055⟩ s
    have d:=(d.callN h1077 h1080).addE (e:=l7 c1056 rv1052) h1055
    refine h_n [1,2] [] d rfl rfl fun hC=>?_
    refine h_d [1,2,0] [] [0,1] [] d rfl rfl rfl rfl fun hC=>?_
    refine ho 7 rfl ?_
    refine F4 (α:=Record) s d a9F 3 rfl rfl rfl 8 rfl 0 rfl 0 rfl h1057 rfl trivial ?_
    intro p1059 k1060 c1061 a w s d
    refine h_n [1,2,0] [] d rfl rfl fun hC=>?_
    refine gv s 8 rfl rfl hC (fun w hC=>R8 rfl) fun a s=>?_
    refine y7 (by kernel_rfl) ?_
    exact ⟨Sv1076,c1061,k1060,p1059,wj s d [2,3] [8,0]⟩
   rintro a w ⟨Sv1062,c1061,k1060,p1059,s,d⟩
   refine l8 (tn (wp_region_lit (rz0 2 s rfl fun a s=>?_)))
   exact ⟨_,io u,c1061,p1059,k1060,Sv1062,wj s d [0,1] [0,1]⟩
  refine wp_exit (j5 (j5 (o9 ?_)))
  obtain rfl:=oi u
  have h1082:=hd583 _ rfl
  subst h1082
  exact tn ⟨c393,p394,k395,Sv396,wj s d [1] [1]⟩
 rintro a w ⟨c587,p588,k589,Sv590,s,d⟩
 refine tn (sn0 1 s rfl fun a s=>?_)
 obtain ⟨rv1084,h1083,u⟩:=bt u
 refine cR s (U1 h1083 d.dom (d.ins [0] (by decide) rfl) (d.envAt 0 rfl) (a6z _ _)) (j3 call125 rfl) rfl ?_
 rintro v1091 Sv1088 w a h1089 ⟨c1085,rfl,h1092,h1086,h1087⟩ s
 have d:=(d.callO [0] [] (by decide) rfl h1089 h1092).addE (e:=l7 c1085 rv1084) h1086
 have h1093:=h1087
 have h1094:=Eq.symm h1093
 try have s:=s.fl 4 rfl h1094
 try have s:=s.fl 42 rfl h1094
 refine nl (sz0 2 s rfl fun a s=>?_)
 obtain rfl:=oi u
 exact q1 s rfl (d.ret ⟨p588,k589,c1085,rfl,(d.outs [0] (by decide) rfl),(d.envAt 0 rfl)⟩)
theorem a9p {w0 S0 p2 k3 l1 r} (u:a0z l1=some r) (hS:Dm S0 w0) (h4:(Sq p2 k3 l1).p S0 w0):Ck Tryz.prog 63 #[sl p2 k3 l1] w0 S0 [] a2N r:=by
 refine en 9 func63 rfl hS rfl rfl rfl fun a s d=>?_
 have d:=d.addE h4
 refine sz0 2 s rfl fun a s=>?_
 refine wp_seq (sn0 1 s rfl fun a s=>?_)
 obtain ⟨rv6,h5,u⟩:=bt u
 refine cV s d (a2O h5 d.bdom (d.bE 0 rfl)) (j3 call86 rfl) rfl fun a w s d=>?_
 refine rz0 1 s rfl fun a s=>?_
 refine cd s u rfl (fun u=>?_) fun u=>?_
 ·refine sz0 2 s rfl fun a s=>?_
  obtain rfl:=oi u
  have d:=d.nilRow Record 56
  exact wp_ret (j6 (Q8 s rfl (q9 rfl) (q9 rfl) (d.ret ⟨none,0,[],rfl,(d.outs [0] (by decide) rfl),(d.envAt 0 rfl)⟩)))
 refine sk (sn0 1 s rfl fun a s=>?_)
 obtain ⟨rv15,h14,u⟩:=bt u
 refine cR s (a9r h14 d.dom (d.envAt 0 rfl)) (j3 call99 rfl) rfl ?_
 rintro v23 Sv20 w a h21 ⟨p16,k17,c19,rfl,h24,h18⟩ s
 have d:=(d.callN h21 h24).addE (e:=l7 c19 rv15) h18
 refine rz0 2 s rfl fun a s=>?_
 obtain rfl:=oi u
 exact wp_ret (Q8 s rfl (q9 rfl) (q9 rfl) (d.ret ⟨p16,k17,c19,rfl,(d.outs [0] (by decide) rfl),(d.envAt 0 rfl)⟩))
theorem b0v {w0 S0 n1 low2 high3 r} (u:a4Q n1 low2 high3=some r) (hS:Dm S0 w0):Ck Tryz.prog 64 #[iv n1,iv low2,iv high3] w0 S0 [] u6 r:=by
 refine en 15 func64 rfl hS rfl rfl rfl fun a s d=>?_
 refine sz0 1 s rfl fun a s=>?_
 refine sn0 4 s rfl fun a s=>?_
 refine rA 4 10 [] s d rfl rfl rfl rfl rfl fun a s=>?_
 refine rz0 1 s rfl fun a s=>?_
 obtain rfl:=oi u
 exact q1 s rfl (d.ret rfl)
theorem a9u {w0 S0 n1 r} (u:a3F n1=some r) (hS:Dm S0 w0):Ck Tryz.prog 100 #[iv n1] w0 S0 [] j4 r:=by
 refine en 7 func100 rfl hS rfl rfl rfl fun a s d=>?_
 refine sz0 1 s rfl fun a s=>?_
 refine sn0 4 s rfl fun a s=>?_
 obtain ⟨x3,h2,u⟩:=bt u
 refine sv s (o8 rfl h2) rfl fun a s=>?_
 refine nl ?_
 obtain rfl:=oi u
 exact q1 s rfl (d.ret rfl)
theorem a6p {w0 S0 n1 r} (u:a0j n1=some r) (hS:Dm S0 w0):Ck Tryz.prog 142 #[.slice none 0 0,iv n1] w0 S0 [] K3 r:=by
 refine en 27 func142 rfl hS rfl rfl rfl fun a s d=>?_
 refine sz0 1 s rfl fun a s=>?_
 refine wp_seq (sz0 2 s rfl fun a s=>?_)
 refine cd s u rfl (fun u=>?_) fun u=>?_
 ·cases u
 refine sk (wp_seq (sn0 2 s rfl fun a s=>?_))
 refine sv s (y_cap runUnderlying22 rfl) rfl fun a s=>?_
 refine rn0 4 s rfl fun a s=>?_
 obtain ⟨n5,h4,u⟩:=bt u
 refine sv s (o8 rfl h4) rfl fun a s=>?_
 refine nl (sz0 2 s rfl fun a s=>?_)
 refine q8 (fun a w=>∃ (sv23:(List Int)) (c19 p20 k21 Sv22:_),U6 sv23=some r∧Sl 27 [(0,sl p20 k21 sv23)] a∧Wd ⟨w0,S0,[]⟩ Sv22 [.row p20 sv23.length k21 c19 3 1] [l7 c19 sv23] w) ?_ ?_
 ·refine cd s u rfl (fun u=>?_) fun u=>?_
  ·refine wp_region_lit (rn0 2 s rfl fun a s=>?_)
   refine sv s (y_cap runUnderlying22 rfl) rfl fun a s=>?_
   obtain ⟨l28,h25,u⟩:=bt u
   obtain ⟨h26,h27⟩:=sub_nil 1 h25
   subst h26
   refine sv s (a4E runUnderlying22 sizeOf3 rfl (by exact rfl) ⟨_,rfl⟩ h27) rfl fun a s=>?_
   refine mv s rfl rfl fun a s=>?_
   obtain ⟨l30,h29,u⟩:=bt u
   refine b5v (α:=Int) s d S9 ⟨_,rfl,rfl⟩ underlying3 rfl rfl h29 rfl rfl trivial ?_
   intro p31 k32 c33 a w s d
   refine rn0 2 s rfl fun a s=>?_
   obtain ⟨l36,h34,u⟩:=bt u
   obtain ⟨d,h35⟩:=w_cut d 0 rfl 0 rfl h34
   refine sv s (a4E runUnderlying22 sizeOf3 rfl (by exact rfl) ⟨_,rfl⟩ h35) rfl fun a s=>?_
   refine rz0 1 s rfl fun a s=>?_
   exact ⟨l36,(c33.take (l36.length * 1)),p31,k32,S0,u,wj s d [0] [0]⟩
  refine sk ?_
  have d:=d.nilRow Int 3
  exact ⟨([]:List Int),[],none,0,S0,u,wj s d [0] [0]⟩
 rintro a w ⟨sv23,c19,p20,k21,Sv22,u,s,d⟩
 refine tn (sz0 2 s rfl fun a s=>?_)
 obtain rfl:=oi u
 exact q1 s rfl (d.ret ⟨p20,k21,c19,rfl,(d.outs [0] (by decide) rfl),(d.envAt 0 rfl)⟩)
theorem a6o {w0 S0 p2 k3 slices1 r} (u:a0i slices1=some r) (hS:Dm S0 w0) (h4:(Sq p2 k3 slices1).p S0 w0):Ck Tryz.prog 101 #[sl p2 k3 slices1] w0 S0 [] K3 r:=by
 refine en 36 func101 rfl hS rfl rfl rfl fun a s d=>?_
 have d:=d.addE h4
 refine sz0 1 s rfl fun a s=>?_
 refine sz0 1 s rfl fun a s=>?_
 refine wp_seq (sz0 3 s rfl fun a s=>?_)
 obtain ⟨e74,h265,u⟩:=bt u
 refine q8 (fun a w=>∃ Sv75,Sl 36 [(0,sl p2 k3 slices1),(3,iv e74)] a∧Wd ⟨w0,S0,[]⟩ Sv75 [] [Sq p2 k3 slices1] w) ?_ ?_
 ·refine wp_block (u7 (fun sv5 a w=>∃ Sv49,Sl 36 [(0,sl p2 k3 slices1),(3,iv sv5.1),(9,sl p2 k3 slices1),(10,iv (slices1.length:Int)),(11,iv sv5.2)] a∧Wd ⟨w0,S0,[]⟩ Sv49 [] [Sq p2 k3 slices1] w) (0,0) h265 ⟨S0,wj s d [] [0]⟩ ?_)
  clear h265
  repeat clear u
  rintro sv5 a w tv72 ⟨Sv49,s,d⟩ u hd71
  refine sz0 1 s rfl fun a s=>?_
  refine wp_seq (cd s u rfl (fun u=>?_) fun u=>?_)
  ·refine sk (wp_seq (wp_block (sr ?_)))
   obtain ⟨x100,h98,u⟩:=bt u
   obtain ⟨b106,o107,q104,c105,h108,h101,h102,h103,h99⟩:=d.elemV 0 rfl h98
   have hsv109:=s
   have hwv110:=d
   subst h108
   have s:=hsv109
   have d:=hwv110
   obtain ⟨_,rfl,⟨p111,n112,k113,rfl,h114⟩⟩:=h99
   obtain rfl:=h114.1
   have d:=(d.addE (e:=SlA p111 _ k113 x100) h114).addE h103
   refine sv s (o6 runUnderlying155 sizeOf22 rfl rfl h101.1 h101.2 h102) rfl fun a s=>?_
   refine sv s (C8 (j:=0) (d.ceAt 0 rfl) rfl isAgg22 rfl) rfl fun a s=>?_
   refine rz0 1 s rfl fun a s=>?_
   refine sn0 4 s rfl fun a s=>?_
   obtain ⟨size116,h115,u⟩:=bt u
   refine sv s (o8 rfl h115) rfl fun a s=>?_
   refine nl (sz0 2 s rfl fun a s=>?_)
   refine cd s u rfl (fun u=>?_) fun u=>?_
   ·cases u
   refine wp_skip (l8 (tn (wp_region_lit (rz0 2 s rfl fun a s=>?_))))
   exact ⟨_,io u,Sv49,wj s d [] [2]⟩
  refine wp_exit (j5 (j5 (o9 ?_)))
  obtain rfl:=oi u
  have h119:=hd71 _ rfl
  subst h119
  exact tn ⟨Sv49,wj s d [] [0]⟩
 rintro a w ⟨Sv75,s,d⟩
 refine tn (sn0 1 s rfl fun a s=>?_)
 obtain ⟨rv121,h120,u⟩:=bt u
 refine cR s (a6p h120 d.dom) (j3 call142 rfl) rfl ?_
 rintro v129 Sv126 w a h127 ⟨p122,k123,c125,rfl,h130,h124⟩ s
 have d:=(d.callN h127 h130).addE (e:=l7 c125 rv121) h124
 refine rz0 1 s rfl fun a s=>?_
 refine wp_seq (sz0 3 s rfl fun a s=>?_)
 obtain ⟨e212,h264,u⟩:=bt u
 refine q8 (fun a w=>∃ c213 p214 k215 Sv216,Sl 36 [(6,sl p214 k215 e212)] a∧Wd ⟨w0,S0,[]⟩ Sv216 [.row p214 e212.length k215 c213 3 1] [l7 c213 e212] w) ?_ ?_
 ·refine wp_block (u7 (fun sv131 a w=>∃ c182 p183 k184 Sv185,Sl 36 [(6,sl p183 k184 sv131.1),(25,sl p2 k3 slices1),(26,iv (slices1.length:Int)),(27,iv sv131.2)] a∧Wd ⟨w0,S0,[]⟩ Sv185 [.row p183 sv131.1.length k184 c182 3 1] [Sq p2 k3 slices1,l7 c182 sv131.1] w) (rv121,0) h264 ⟨c125,p122,k123,Sv126,wj s d [0] [1,0]⟩ ?_)
  clear h264
  repeat clear u
  rintro sv131 a w tv210 ⟨c182,p183,k184,Sv185,s,d⟩ u hd209
  refine sz0 1 s rfl fun a s=>?_
  refine wp_seq (cd s u rfl (fun u=>?_) fun u=>?_)
  ·refine sk (wp_seq (wp_block (sr ?_)))
   obtain ⟨x243,h241,u⟩:=bt u
   obtain ⟨b249,o250,q247,c248,h251,h244,h245,h246,h242⟩:=d.elemV 0 rfl h241
   have hsv252:=s
   have hwv253:=d
   subst h251
   have s:=hsv252
   have d:=hwv253
   obtain ⟨_,rfl,⟨p254,n255,k256,rfl,h257⟩⟩:=h242
   obtain rfl:=h257.1
   have d:=(d.addE (e:=SlA p254 _ k256 x243) h257).addE h246
   refine sv s (o6 runUnderlying155 sizeOf22 rfl rfl h244.1 h244.2 h245) rfl fun a s=>?_
   refine sv s (C8 (j:=0) (d.ceAt 0 rfl) rfl isAgg22 rfl) rfl fun a s=>?_
   refine rz0 1 s rfl fun a s=>?_
   refine wp_region_lit (rn0 2 s rfl fun a s=>?_)
   obtain ⟨l259,h258,u⟩:=bt u
   refine a1q (α:=Int) s d S9 0 rfl rfl rfl 3 rfl 1 rfl h258 rfl trivial ?_
   intro p260 k261 c262 a w s d
   refine av s rfl rfl fun a s=>?_
   refine wpList_nil ?_
   refine l8 (tn (wp_region_lit (rz0 2 s rfl fun a s=>?_)))
   exact ⟨_,io u,c262,p260,k261,Sv185,wj s d [0] [3,0]⟩
  refine wp_exit (j5 (j5 (o9 ?_)))
  obtain rfl:=oi u
  have h263:=hd209 _ rfl
  subst h263
  exact tn ⟨c182,p183,k184,Sv185,wj s d [0] [1]⟩
 rintro a w ⟨c213,p214,k215,Sv216,s,d⟩
 refine tn (sz0 2 s rfl fun a s=>?_)
 obtain rfl:=oi u
 exact q1 s rfl (d.ret ⟨p214,k215,c213,rfl,(d.outs [0] (by decide) rfl),(d.envAt 0 rfl)⟩)
abbrev a5T (w0:World) (X:List Nat) (r:Record):Rd:=fun S w v=>∃ p0_11 k0_11,v=V56 r p0_11 k0_11∧(Sq p0_11 k0_11 r.Samples).p S w
theorem a3Q {w0 S0 p2 k3 s1 r} (u:U0 s1=some r) (hS:Dm S0 w0) (h4:(Sq p2 k3 s1.Samples).p S0 w0):Ck Tryz.prog 76 #[V64 s1 p2 k3] w0 S0 [] a5T r:=by
 refine en 15 func76 rfl hS rfl rfl rfl fun a s d=>?_
 have d:=d.addE h4
 refine sr (wb (C64 s1 p2 k3) s d rfl fun b5 a w s d=>?_)
 refine wa Z0 s d zeroValue56 fun b6 a w s d=>?_
 refine nl (sr (sv s (D7 (vs:=[(0,.string (⟨#[78]⟩:ByteArray)),(1,.string (⟨#[83]⟩:ByteArray)),(3,.string (⟨#[67,72,65]⟩:ByteArray))]) Bld52 rfl rfl) rfl fun a s=>?_))
 refine rn 10 [1,1,1,1,1] s d rfl rfl fun a s=>?_
 refine sv s (D7 (vs:=[(0,.agg #[.string (⟨#[78]⟩:ByteArray),.string (⟨#[83]⟩:ByteArray),.string ByteArray.empty,.string (⟨#[67,72,65]⟩:ByteArray)]),(1,iv s1.Start),(2,iv s1.First),(3,V54 s1.Rate),(4,iv s1.Error),(7,sl p2 k3 s1.Samples)]) a6s rfl rfl) rfl fun a s=>?_
 refine ws (C56 ⟨⟨(⟨#[78]⟩:ByteArray),(⟨#[83]⟩:ByteArray),ByteArray.empty,(⟨#[67,72,65]⟩:ByteArray)⟩,s1.Start,s1.First,s1.Rate,s1.Error,0,0,s1.Samples⟩ p2 k3) s d 0 rfl rfl rfl sizeOf56 fun a w s d=>?_
 refine nl ?_
 obtain rfl:=oi u
 exact wp_ret (b2m s rfl (K4 d 0 rfl rfl isAgg56 sizeOf56 rfl) (d.ret ⟨p2,k3,rfl,(d.envAt 0 rfl)⟩))
theorem a0k {w0 S0 p2 k3 s1 r} (u:L6 s1=some r) (hS:Dm S0 w0) (h4:(Sq p2 k3 s1.Samples).p S0 w0):Ck Tryz.prog 45 #[V64 s1 p2 k3] w0 S0 [] u6 r:=by
 refine en 6 func45 rfl hS rfl rfl rfl fun a s d=>?_
 have d:=d.addE h4
 refine sr (wb (C64 s1 p2 k3) s d rfl fun b5 a w s d=>?_)
 refine rz0 1 s rfl fun a s=>?_
 refine sn 1 [0] s d rfl rfl fun a s=>?_
 obtain ⟨rv7,h6,u⟩:=bt u
 refine cR s (a3Q h6 d.dom (d.envAt 0 rfl)) (j3 call76 rfl) rfl ?_
 rintro v14 Sv11 w a h12 ⟨p8,k9,rfl,h10⟩ s
 have d:=(d.call h12).addE (e:=Sq p8 k9 rv7.Samples) h10
 obtain ⟨rv17,h16,u⟩:=bt u
 refine cV s d (a0a h16 d.bdom (d.bE 0 rfl)) (j3 call84 rfl) rfl fun a w s d=>?_
 refine rz0 1 s rfl fun a s=>?_
 obtain rfl:=oi u
 exact q1 s rfl (d.ret rfl)
abbrev a5t (w0:World) (X:List Nat) (r:(Continuity_builder × Bool)):Rd:=fun S w v=>∃ p0_5 k0_5,v=.tuple #[V105 r.1 p0_5 k0_5,.bool r.2]∧(Sq p0_5 k0_5 r.1.Segment.Samples).p S w
abbrev D65t1 (b10:Nat) (b11:Nat) (b12:Nat):E8:=[(3,pt b10),(4,pt b11),(6,pt b12)]
abbrev D65t2 (b1:Continuity_builder) (b10:Nat) (b11:Nat) (b40:Nat) (k3:Nat) (k44:Nat) (k7:Nat) (p2:Option Addr) (p43:Option Addr) (p6:Option Addr) (r5:Record) (rv31:Int) (rv42:(List Int)):Vs:=[(0,63,.pointer (some ⟨b10,6,none⟩)),(1,64,iv (max b1.worst_ r5.Error)),(2,65,.pointer (some ⟨b10,7,none⟩)),(3,66,iv (max b1.off_ rv31)),(4,67,iv (w64 ((max b1.worst_ r5.Error)+(max b1.off_ rv31)))),(5,68,iv (min (w64 ((max b1.worst_ r5.Error)+(max b1.off_ rv31))) 1099511627776)),(6,69,pt b10),(7,70,.pointer (some ⟨b10,5,none⟩)),(8,71,sl p2 k3 b1.Segment.Samples),(9,72,.pointer (some ⟨b11,11,none⟩)),(10,73,sl p6 k7 r5.Samples),(11,74,sl (ad b40) ([b1.Segment.Samples,r5.Samples]:List (List Int)).length ([b1.Segment.Samples,r5.Samples]:List (List Int))),(12,75,sl p43 k44 rv42),(13,76,pt b10),(14,77,.pointer (some ⟨b10,4,none⟩)),(16,78,pt b10),(17,79,.pointer (some ⟨b10,5,none⟩))]
abbrev a5P (b1:Continuity_builder) (r5:Record):List (List Int):=([b1.Segment.Samples,r5.Samples]:List (List Int))
theorem a5s {w0 S0 p2 k3 p6 k7 b1 r5 tolerance9 r} (u:H9 b1 r5 tolerance9=some r) (hS:Dm S0 w0) (h4:(Sq p2 k3 b1.Segment.Samples).p S0 w0) (h8:(Sq p6 k7 r5.Samples).p S0 w0):Ck Tryz.prog 65 #[V105 b1 p2 k3,V56 r5 p6 k7,iv tolerance9] w0 S0 [] a5t r:=by
 refine en 84 func65 rfl hS rfl rfl rfl fun a s d=>?_
 have d:=(d.addE h4).addE h8
 refine sr (wb (a4A b1 p2 k3) s d rfl fun b10 a w s d=>?_)
 refine wb (C56 r5 p6 k7) s d rfl fun b11 a w s d=>?_
 refine wa Z17 s d zeroValue105 fun b12 a w s d=>?_
 refine rz0 1 s rfl fun a s=>?_
 refine wp_seq (sn 5 [1,2] s d rfl rfl fun a s=>?_)
 refine sv s (a6V (by kernel_rfl) rfl rfl (R4 runUnderlying54 (by kernel_rfl) (EqF.cons1 rfl isAgg3 rfl rfl (Q6 runUnderlying3) (EqF.cons1 rfl isAgg3 rfl rfl (Q6 runUnderlying3) EqF.nil)))) rfl fun a s=>?_
 refine mv s rfl rfl fun a s=>?_
 refine rO 6 17 [2] s d rfl rfl rfl rfl rfl fun a s=>?_
 refine nl (cd s u rfl (fun u=>?_) fun u=>?_)
 ·refine sn 1 [2] s d rfl rfl fun a s=>?_
  refine ws (a4A b1 p2 k3) s d 0 rfl rfl rfl sizeOf105 fun a w s d=>?_
  refine rz0 1 s rfl fun a s=>?_
  obtain rfl:=oi u
  exact wp_ret (j6 (Q8 s rfl (K4 d 0 rfl rfl isAgg105 sizeOf105 rfl) (q9 rfl) (d.ret ⟨p2,k3,rfl,(d.envAt 1 rfl)⟩)))
 refine sk (sn 14 [2,2,2,2] s d rfl rfl fun a s=>?_)
 obtain ⟨rv17,h16,u⟩:=bt u
 refine cV s d (a2W h16 d.bdom) (j3 call94 rfl) rfl fun a w s d=>?_
 refine rz0 5 s rfl fun a s=>?_
 refine sn 1 [1] s d rfl rfl fun a s=>?_
 obtain ⟨rv24,h23,u⟩:=bt u
 refine cV s d (a2S h23 d.bdom (d.bE 0 rfl)) (j3 call90 rfl) rfl fun a w s d=>?_
 refine rn0 2 s rfl fun a s=>?_
 obtain ⟨rv31,h30,u⟩:=bt u
 refine cV s d (a9u h30 d.bdom) (j3 call100 rfl) rfl fun a w s d=>?_
 refine rz0 1 s rfl fun a s=>?_
 refine wp_seq (sz0 3 s rfl fun a s=>?_)
 refine cd s u rfl (fun u=>?_) fun u=>?_
 ·refine sn 1 [2] s d rfl rfl fun a s=>?_
  refine ws (a4A b1 p2 k3) s d 0 rfl rfl rfl sizeOf105 fun a w s d=>?_
  refine rz0 1 s rfl fun a s=>?_
  obtain rfl:=oi u
  exact wp_ret (j6 (Q8 s rfl (K4 d 0 rfl rfl isAgg105 sizeOf105 rfl) (q9 rfl) (d.ret ⟨p2,k3,rfl,(d.envAt 1 rfl)⟩)))
 refine sk (sn 10 [2,1,2] s d rfl rfl fun a s=>?_)
 refine ws (a4A ⟨b1.Segment,(max b1.worst_ r5.Error),b1.off_⟩ p2 k3) s d 2 rfl rfl rfl sizeOf3 fun a w s d=>?_
 refine sv s (l5 (o':=7) runUnderlying105 rfl sizeOf3 rfl rfl rfl) rfl fun a s=>?_
 refine ws (a4A ⟨b1.Segment,(max b1.worst_ r5.Error),(max b1.off_ rv31)⟩ p2 k3) s d 2 rfl rfl rfl sizeOf3 fun a w s d=>?_
 refine nl (wp_seq ?_)
 obtain ⟨rv42,h41,u⟩:=bt u
 refine A9 (fun a w=>∃ Sv47 c46 k44 p43,Sl 84 [(3,pt b10),(6,pt b12)] a∧Wd ⟨w0,S0,[]⟩ Sv47 [.box b10 (a4A ⟨⟨b1.Segment.Start,b1.Segment.First,b1.Segment.Rate,(min (w64 ((max b1.worst_ r5.Error)+(max b1.off_ rv31))) 1099511627776),rv42⟩,(max b1.worst_ r5.Error),(max b1.off_ rv31)⟩ p43 k44) 105,.box b12 Z17 105,.row p43 rv42.length k44 c46 3 1] [Sq none 0 ([]:List Int),l7 c46 rv42] w) ?_ ?_
 ·refine a6U (n:=19) (Φ:=fun l a w=>∃ b40 c46 k44 p43 S,SlF 84 (D65t1 b10 b11 b12) (D65t2 b1 b10 b11 b40 k3 k44 k7 p2 p43 p6 r5 rv31 rv42) l a∧Wd ⟨w0,S0,[]⟩ S [.box b12 Z17 105,.box b11 (C56 r5 p6 k7) 56,((bif l 18 then .box b10 (a4A ⟨⟨b1.Segment.Start,b1.Segment.First,b1.Segment.Rate,(min (w64 ((max b1.worst_ r5.Error)+(max b1.off_ rv31))) 1099511627776),rv42⟩,(max b1.worst_ r5.Error),(max b1.off_ rv31)⟩ p43 k44) 105 else (bif l 15 then .box b10 (a4A ⟨⟨b1.Segment.Start,b1.Segment.First,b1.Segment.Rate,(min (w64 ((max b1.worst_ r5.Error)+(max b1.off_ rv31))) 1099511627776),b1.Segment.Samples⟩,(max b1.worst_ r5.Error),(max b1.off_ rv31)⟩ p2 k3) 105 else .box b10 (a4A ⟨b1.Segment,(max b1.worst_ r5.Error),(max b1.off_ rv31)⟩ p2 k3) 105)):Res),((bif l 12 then emp else (bif l 11 then .row (ad b40) (a5P b1 r5).length (a5P b1 r5).length [sl p2 k3 b1.Segment.Samples,sl p6 k7 r5.Samples] 22 1 else emp)):Res),((bif l 12 then .row p43 rv42.length k44 c46 3 1 else emp):Res)] [Sq p6 k7 r5.Samples,Sq p2 k3 b1.Segment.Samples,a5u (l 11) (l7 [sl p2 k3 b1.Segment.Samples,sl p6 k7 r5.Samples] (a5P b1 r5)),a5u (l 12) (Sq (ad b40) (a5P b1 r5).length (a5P b1 r5)),a5u (l 12) (l7 c46 rv42)] w) [1,2,1,2,3,4,1,2,3,1,2,4,5,5,6,7,8,9,10] (by kernel_rfl) rfl (by kernel_rfl) ?_ (O6.succ (O6.succ (O6.succ (O6.succ (O6.succ (O6.succ (O6.succ (O6.succ (O6.succ (O6.succ (O6.succ (O6.succ (O6.succ (O6.succ (O6.succ (O6.succ (O6.succ (O6.succ (O6.succ O6.zero ?_) ?_) ?_) ?_) ?_) ?_) ?_) ?_) ?_) ?_) ?_) ?_) ?_) ?_) ?_) ?_) ?_) ?_) ?_) ?_
  ·obtain ⟨b40,c46,k44,p43,_⟩:∃ (b40:Nat) (c46:List Value) (k44:Nat) (p43:Option Addr),True:=⟨0,[],0,none,trivial⟩
   have d:=((d.drew).emp).emp
   have d:=((d.noE (l7 c46 rv42)).noE (Sq (ad b40) (a5P b1 r5).length (a5P b1 r5))).noE (l7 [sl p2 k3 b1.Segment.Samples,sl p6 k7 r5.Samples] (a5P b1 r5))
   exact ⟨b40,c46,k44,p43,S0,SlF.init (s.wk rfl) (by kernel_rfl),d.gt [2,3,4,0,1] [3,4,0,1,2] rfl rfl⟩
  ·intro l hi hp hc a w ⟨b40,c46,k44,p43,S,hS,d⟩
   refine T9 hS (.b (t:=3) rfl .nil) rfl rfl trivial (l5 (o':=6) runUnderlying105 rfl sizeOf3 rfl rfl rfl) (rfl) 0 rfl fun a hS=>⟨b40,c46,k44,p43,S,hS,d⟩
  ·intro l hi hp hc a w ⟨b40,c46,k44,p43,S,hS,d⟩
   have hw0:=d
   have h_16:=N7 hc 16 hi rfl
   have h_17:=N7 hc 17 h_16 rfl
   have h_18:=N7 hc 18 h_17 rfl
   have h_13:=N7 hc 13 hi rfl
   have h_14:=N7 hc 14 h_13 rfl
   have h_15:=N7 hc 15 h_14 rfl
   have d:=d.fixR 2 (r':=.box b10 (a4A ⟨b1.Segment,(max b1.worst_ r5.Error),(max b1.off_ rv31)⟩ p2 k3) 105) rfl ((bF h_18).trans ((bF h_15)))
   have h_0:=hp 0 rfl
   refine T9 hS (.v (t:=63) 0 rfl h_0 .nil) rfl rfl trivial (I9 (d.ownAt 2 rfl) rfl isAgg3 rfl) (rfl) 1 rfl fun a hS=>⟨b40,c46,k44,p43,S,hS,hw0⟩
  ·intro l hi hp hc a w ⟨b40,c46,k44,p43,S,hS,d⟩
   refine T9 hS (.b (t:=3) rfl .nil) rfl rfl trivial (l5 (o':=7) runUnderlying105 rfl sizeOf3 rfl rfl rfl) (rfl) 2 rfl fun a hS=>⟨b40,c46,k44,p43,S,hS,d⟩
  ·intro l hi hp hc a w ⟨b40,c46,k44,p43,S,hS,d⟩
   have hw0:=d
   have h_16:=N7 hc 16 hi rfl
   have h_17:=N7 hc 17 h_16 rfl
   have h_18:=N7 hc 18 h_17 rfl
   have h_13:=N7 hc 13 hi rfl
   have h_14:=N7 hc 14 h_13 rfl
   have h_15:=N7 hc 15 h_14 rfl
   have d:=d.fixR 2 (r':=.box b10 (a4A ⟨b1.Segment,(max b1.worst_ r5.Error),(max b1.off_ rv31)⟩ p2 k3) 105) rfl ((bF h_18).trans ((bF h_15)))
   have h_2:=hp 2 rfl
   refine T9 hS (.v (t:=65) 2 rfl h_2 .nil) rfl rfl trivial (I9 (d.ownAt 2 rfl) rfl isAgg3 rfl) (rfl) 3 rfl fun a hS=>⟨b40,c46,k44,p43,S,hS,hw0⟩
  ·intro l hi hp hc a w ⟨b40,c46,k44,p43,S,hS,d⟩
   have h_3:=hp 3 rfl
   have h_1:=hp 1 rfl
   refine T9 hS (.v (t:=64) 1 rfl h_1 (.v (t:=66) 3 rfl h_3 .nil)) rfl rfl trivial (a9j rfl rfl) (rfl) 4 rfl fun a hS=>⟨b40,c46,k44,p43,S,hS,d⟩
  ·intro l hi hp hc a w ⟨b40,c46,k44,p43,S,hS,d⟩
   have h_4:=hp 4 rfl
   refine T9 hS (.v (t:=67) 4 rfl h_4 .nil) rfl rfl trivial (y_min rfl rfl) (rfl) 5 rfl fun a hS=>⟨b40,c46,k44,p43,S,hS,d⟩
  ·intro l hi hp hc a w ⟨b40,c46,k44,p43,S,hS,d⟩
   refine T9 hS (.b (t:=3) rfl .nil) rfl rfl trivial (l5 (o':=0) runUnderlying105 rfl sizeOf64 rfl rfl rfl) (rfl) 6 rfl fun a hS=>⟨b40,c46,k44,p43,S,hS,d⟩
  ·intro l hi hp hc a w ⟨b40,c46,k44,p43,S,hS,d⟩
   have h_6:=hp 6 rfl
   refine T9 hS (.v (t:=69) 6 rfl h_6 .nil) rfl rfl trivial (l5 (o':=5) runUnderlying64 rfl sizeOf22 rfl rfl rfl) (rfl) 7 rfl fun a hS=>⟨b40,c46,k44,p43,S,hS,d⟩
  ·intro l hi hp hc a w ⟨b40,c46,k44,p43,S,hS,d⟩
   have hw0:=d
   have h_16:=N7 hc 16 hi rfl
   have h_17:=N7 hc 17 h_16 rfl
   have h_18:=N7 hc 18 h_17 rfl
   have h_13:=N7 hc 13 hi rfl
   have h_14:=N7 hc 14 h_13 rfl
   have h_15:=N7 hc 15 h_14 rfl
   have d:=d.fixR 2 (r':=.box b10 (a4A ⟨b1.Segment,(max b1.worst_ r5.Error),(max b1.off_ rv31)⟩ p2 k3) 105) rfl ((bF h_18).trans ((bF h_15)))
   have h_7:=hp 7 rfl
   refine T9 hS (.v (t:=70) 7 rfl h_7 .nil) rfl rfl trivial (I9 (d.ownAt 2 rfl) rfl isAgg22 rfl) (rfl) 8 rfl fun a hS=>⟨b40,c46,k44,p43,S,hS,hw0⟩
  ·intro l hi hp hc a w ⟨b40,c46,k44,p43,S,hS,d⟩
   refine T9 hS (.b (t:=4) rfl .nil) rfl rfl trivial (l5 (o':=11) runUnderlying56 rfl sizeOf22 rfl rfl rfl) (rfl) 9 rfl fun a hS=>⟨b40,c46,k44,p43,S,hS,d⟩
  ·intro l hi hp hc a w ⟨b40,c46,k44,p43,S,hS,d⟩
   have h_9:=hp 9 rfl
   refine T9 hS (.v (t:=72) 9 rfl h_9 .nil) rfl rfl trivial (I9 (d.ownAt 1 rfl) rfl isAgg22 rfl) (rfl) 10 rfl fun a hS=>⟨b40,c46,k44,p43,S,hS,d⟩
  ·intro l hi hp hc a w ⟨b40,c46,k44,p43,S,hS,d⟩
   have h_10:=hp 10 rfl
   have h_8:=hp 8 rfl
   refine a3m rfl ?_
   have s:=hS.open_ (.v (t:=71) 8 rfl h_8 (.v (t:=73) 10 rfl h_10 .nil))
   refine o7 (α:=(List Int)) (vs:=[sl p2 k3 b1.Segment.Samples,sl p6 k7 r5.Samples]) (cs:=[sl p2 k3 b1.Segment.Samples,sl p6 k7 r5.Samples]) (xs:=(a5P b1 r5)) s d El155 rfl rfl rfl rfl rfl rfl ⟨⟨_,rfl,⟨_,_,_,rfl,d.envAt 1 rfl⟩⟩,⟨⟨_,rfl,⟨_,_,_,rfl,d.envAt 0 rfl⟩⟩,rfl⟩⟩ rfl trivial rfl fun b40 a w s d=>?_
   have h_12:=N7 hc 12 hi rfl
   have d:=((d.fixR 0 (r':=(bif l 12 then emp else .row (ad b40) (a5P b1 r5).length (a5P b1 r5).length [sl p2 k3 b1.Segment.Samples,sl p6 k7 r5.Samples] 22 1)) rfl ((bF h_12)).symm).opt 0 rfl true).noL h_12 (Sq (ad b40) (a5P b1 r5).length (a5P b1 r5))
   exact nl ⟨b40,c46,k44,p43,S,hS.close (.v (t:=71) 8 rfl h_8 (.v (t:=73) 10 rfl h_10 .nil)) s rfl (.same (.same (.same (.same (.same (.same (.same (.same (.same (.same (.same (.here (.same (.same (.same (.same (.same .nil))))))))))))))))) 11 rfl,d.gt [1,2,3,0,5] [3,4,1,0,7] rfl rfl⟩
  ·intro l hi hp hc a w ⟨b40,c46,k44,p43,S,hS,d⟩
   have h_11:=hp 11 rfl
   have d:=(d.fixR 3 (r':=.row (ad b40) (a5P b1 r5).length (a5P b1 r5).length [sl p2 k3 b1.Segment.Samples,sl p6 k7 r5.Samples] 22 1) rfl ((bF hi).trans ((bT h_11)))).yes 2 rfl h_11
   refine a3m rfl ?_
   have s:=hS.open_ (.v (t:=74) 11 rfl h_11 .nil)
   obtain ⟨Sv174,d⟩:=D6 (α:=(List Int)) d 3 rfl 0 rfl
   refine cR s (a6o h41 d.dom (d.envAt 0 rfl)) (j3 call101 rfl) rfl ?_
   rintro v178 Sv175 w a h176 ⟨p43,k44,c46,rfl,h179,h45⟩ s
   have d:=(d.callN h176 h179).addE (e:=l7 c46 rv42) h45
   have h_16:=N7 hc 16 hi rfl
   have h_17:=N7 hc 17 h_16 rfl
   have h_18:=N7 hc 18 h_17 rfl
   have h_15:=N7 hc 15 hi rfl
   have d:=((d.fixR 3 (r':=.box b10 (a4A ⟨b1.Segment,(max b1.worst_ r5.Error),(max b1.off_ rv31)⟩ p2 k3) 105) rfl ((bF h_18).trans ((bF h_15)))).fixR 3 (r':=(bif l 18 then .box b10 (a4A ⟨⟨b1.Segment.Start,b1.Segment.First,b1.Segment.Rate,(min (w64 ((max b1.worst_ r5.Error)+(max b1.off_ rv31))) 1099511627776),rv42⟩,(max b1.worst_ r5.Error),(max b1.off_ rv31)⟩ p43 k44) 105 else (bif l 15 then .box b10 (a4A ⟨⟨b1.Segment.Start,b1.Segment.First,b1.Segment.Rate,(min (w64 ((max b1.worst_ r5.Error)+(max b1.off_ rv31))) 1099511627776),b1.Segment.Samples⟩,(max b1.worst_ r5.Error),(max b1.off_ rv31)⟩ p2 k3) 105 else .box b10 (a4A ⟨b1.Segment,(max b1.worst_ r5.Error),(max b1.off_ rv31)⟩ p2 k3) 105))) rfl ((bF h_18).trans ((bF h_15))).symm).emp
   have d:=(d.opt 1 rfl true).opt 1 rfl true
   exact nl ⟨b40,c46,k44,p43,Sv175,hS.close (.v (t:=74) 11 rfl h_11 .nil) s rfl (.same (.same (.same (.same (.same (.same (.same (.same (.same (.same (.same (.same (.here (.same (.same (.same (.same .nil))))))))))))))))) 12 rfl,d.gt [2,3,4,0,1] [5,6,7,1,0] rfl rfl⟩
  ·intro l hi hp hc a w ⟨b40,c46,k44,p43,S,hS,d⟩
   refine T9 hS (.b (t:=3) rfl .nil) rfl rfl trivial (l5 (o':=0) runUnderlying105 rfl sizeOf64 rfl rfl rfl) (rfl) 13 rfl fun a hS=>⟨b40,c46,k44,p43,S,hS,d⟩
  ·intro l hi hp hc a w ⟨b40,c46,k44,p43,S,hS,d⟩
   have h_13:=hp 13 rfl
   refine T9 hS (.v (t:=76) 13 rfl h_13 .nil) rfl rfl trivial (l5 (o':=4) runUnderlying64 rfl sizeOf3 rfl rfl rfl) (rfl) 14 rfl fun a hS=>⟨b40,c46,k44,p43,S,hS,d⟩
  ·intro l hi hp hc a w ⟨b40,c46,k44,p43,S,hS,d⟩
   have h_16:=N7 hc 16 hi rfl
   have h_17:=N7 hc 17 h_16 rfl
   have h_18:=N7 hc 18 h_17 rfl
   have d:=d.fixR 2 (r':=.box b10 (a4A ⟨b1.Segment,(max b1.worst_ r5.Error),(max b1.off_ rv31)⟩ p2 k3) 105) rfl ((bF h_18).trans ((bF hi)))
   have h_14:=hp 14 rfl
   have h_5:=hp 5 rfl
   refine a3m rfl ?_
   have s:=hS.open_ (.v (t:=68) 5 rfl h_5 (.v (t:=77) 14 rfl h_14 .nil))
   refine ws (a4A ⟨⟨b1.Segment.Start,b1.Segment.First,b1.Segment.Rate,(min (w64 ((max b1.worst_ r5.Error)+(max b1.off_ rv31))) 1099511627776),b1.Segment.Samples⟩,(max b1.worst_ r5.Error),(max b1.off_ rv31)⟩ p2 k3) s d 2 rfl rfl rfl sizeOf3 fun a w s d=>?_
   have d:=d.fixR 2 (r':=(bif l 18 then .box b10 (a4A ⟨⟨b1.Segment.Start,b1.Segment.First,b1.Segment.Rate,(min (w64 ((max b1.worst_ r5.Error)+(max b1.off_ rv31))) 1099511627776),rv42⟩,(max b1.worst_ r5.Error),(max b1.off_ rv31)⟩ p43 k44) 105 else .box b10 (a4A ⟨⟨b1.Segment.Start,b1.Segment.First,b1.Segment.Rate,(min (w64 ((max b1.worst_ r5.Error)+(max b1.off_ rv31))) 1099511627776),b1.Segment.Samples⟩,(max b1.worst_ r5.Error),(max b1.off_ rv31)⟩ p2 k3) 105)) rfl ((bF h_18)).symm
   exact nl ⟨b40,c46,k44,p43,S,hS.close0 (.v (t:=68) 5 rfl h_5 (.v (t:=77) 14 rfl h_14 .nil)) s rfl,d.gt [0,1,2,3,4] [0,1,2,3,4] rfl rfl⟩
  ·intro l hi hp hc a w ⟨b40,c46,k44,p43,S,hS,d⟩
   refine T9 hS (.b (t:=3) rfl .nil) rfl rfl trivial (l5 (o':=0) runUnderlying105 rfl sizeOf64 rfl rfl rfl) (rfl) 15 rfl fun a hS=>⟨b40,c46,k44,p43,S,hS,d⟩
  ·intro l hi hp hc a w ⟨b40,c46,k44,p43,S,hS,d⟩
   have h_16:=hp 16 rfl
   refine T9 hS (.v (t:=78) 15 rfl h_16 .nil) rfl rfl trivial (l5 (o':=5) runUnderlying64 rfl sizeOf22 rfl rfl rfl) (rfl) 16 rfl fun a hS=>⟨b40,c46,k44,p43,S,hS,d⟩
  ·intro l hi hp hc a w ⟨b40,c46,k44,p43,S,hS,d⟩
   have h_15:=hp 15 rfl
   have d:=d.fixR 2 (r':=.box b10 (a4A ⟨⟨b1.Segment.Start,b1.Segment.First,b1.Segment.Rate,(min (w64 ((max b1.worst_ r5.Error)+(max b1.off_ rv31))) 1099511627776),b1.Segment.Samples⟩,(max b1.worst_ r5.Error),(max b1.off_ rv31)⟩ p2 k3) 105) rfl ((bF hi).trans ((bT h_15)))
   have h_17:=hp 17 rfl
   have h_12:=hp 12 rfl
   refine a3m rfl ?_
   have s:=hS.open_ (.v (t:=75) 12 rfl h_12 (.v (t:=79) 16 rfl h_17 .nil))
   refine ws (a4A ⟨⟨b1.Segment.Start,b1.Segment.First,b1.Segment.Rate,(min (w64 ((max b1.worst_ r5.Error)+(max b1.off_ rv31))) 1099511627776),rv42⟩,(max b1.worst_ r5.Error),(max b1.off_ rv31)⟩ p43 k44) s d 2 rfl rfl rfl sizeOf22 fun a w s d=>?_
   exact nl ⟨b40,c46,k44,p43,S,hS.close0 (.v (t:=75) 12 rfl h_12 (.v (t:=79) 16 rfl h_17 .nil)) s rfl,d.gt [0,1,2,3,4] [0,1,2,3,4] rfl rfl⟩
  intro l a w hl ⟨b40,c46,k44,p43,S,hS,d⟩
  have d:=((d.yes 4 rfl (hl 12 (by decide))).fixR 2 (r':=.box b10 (a4A ⟨⟨b1.Segment.Start,b1.Segment.First,b1.Segment.Rate,(min (w64 ((max b1.worst_ r5.Error)+(max b1.off_ rv31))) 1099511627776),rv42⟩,(max b1.worst_ r5.Error),(max b1.off_ rv31)⟩ p43 k44) 105) rfl (bT (hl 18 (by decide)))).fixR 4 (r':=.row p43 rv42.length k44 c46 3 1) rfl (bT (hl 12 (by decide)))
  have s:=hS.on (.b (t:=3) rfl (.b (t:=6) rfl .nil))
  have d:=d.addE (e:=SlA (α:=Int) none 0 0 []) a2i
  exact ⟨S,c46,k44,p43,wj s d [2,0,4] [0,1]⟩
 rintro a w ⟨Sv47,c46,k44,p43,s,d⟩
 refine tn (wp_seq ?_)
 obtain ⟨rv181,h180,u⟩:=bt u
 refine A9 (fun a w=>∃ Sv182,Sl 84 [(6,pt b12),(7,.bool rv181)] a∧Wd ⟨w0,S0,[]⟩ Sv182 [.box b12 (a4A ⟨⟨b1.Segment.Start,b1.Segment.First,b1.Segment.Rate,(min (w64 ((max b1.worst_ r5.Error)+(max b1.off_ rv31))) 1099511627776),rv42⟩,(max b1.worst_ r5.Error),(max b1.off_ rv31)⟩ p43 k44) 105,.row p43 rv42.length k44 c46 3 1] [l7 c46 rv42] w) ?_ ?_
 ·refine h_c [0,2] [] d rfl rfl (by kernel_rfl) rfl fun hC d=>?_
  refine gn 3 [0,1,2] [0,0] s hC rfl rfl rfl fun a s=>?_
  refine ho 3 rfl ?_
  refine cV s d (a0k h180 d.bdom (d.bRow 2 rfl 1 rfl)) (j3 call45 rfl) rfl fun a w s d=>?_
  refine h_n [0,2] [] d rfl rfl fun hC=>?_
  refine ho 4 rfl ?_
  refine ws (a4A ⟨⟨b1.Segment.Start,b1.Segment.First,b1.Segment.Rate,(min (w64 ((max b1.worst_ r5.Error)+(max b1.off_ rv31))) 1099511627776),rv42⟩,(max b1.worst_ r5.Error),(max b1.off_ rv31)⟩ p43 k44) s d 1 rfl rfl rfl sizeOf105 fun a w s d=>?_
  refine h_n [0,2] [] d rfl rfl fun hC=>?_
  refine gv s 5 rfl rfl hC (fun w hC=>R8 rfl) fun a s=>?_
  refine y7 (by kernel_rfl) ?_
  exact ⟨Sv47,wj s d [1,2] [1]⟩
 rintro a w ⟨Sv182,s,d⟩
 refine tn ?_
 obtain rfl:=oi u
 obtain ⟨Sv188,d⟩:=D6 (α:=Int) d 1 rfl 0 rfl
 exact wp_ret (Q8 s rfl (K4 d 0 rfl rfl isAgg105 sizeOf105 rfl) (q9 rfl) (d.ret ⟨p43,k44,rfl,(d.envAt 0 rfl)⟩))
abbrev a0h (w0:World) (X:List Nat) (r:((List Segment) × Int)):Rd:=fun S w v=>∃ p0_0 k0_0 c0_0,v=.tuple #[sl p0_0 k0_0 r.1,iv r.2]∧Outs X w0 S w [.row p0_0 r.1.length k0_0 c0_0 64 6]∧(l7 c0_0 r.1).p S w
theorem a7D {w0 S0 p2 k3 l1 tolerance5 r} (u:M8 l1 tolerance5=some r) (hS:Dm S0 w0) (h4:(Sq p2 k3 l1).p S0 w0):Ck Tryz.prog 25 #[sl p2 k3 l1,iv tolerance5] w0 S0 [] a0h r:=by
 refine en 69 func25 rfl hS rfl rfl rfl fun a s d=>?_
 have d:=d.addE h4
 refine sz0 2 s rfl fun a s=>?_
 refine sn0 1 s rfl fun a s=>?_
 obtain ⟨rv7,h6,u⟩:=bt u
 refine cR s (a9p h6 d.dom (d.envAt 0 rfl)) (j3 call63 rfl) rfl ?_
 rintro v15 Sv12 w a h13 ⟨p8,k9,c11,rfl,h16,h10⟩ s
 have d:=(d.callN h13 h16).addE (e:=l7 c11 rv7.1) h10
 refine rz0 5 s rfl fun a s=>?_
 refine wp_seq (sz0 2 s rfl fun a s=>?_)
 refine cd s u rfl (fun u=>?_) fun u=>?_
 ·refine sz0 3 s rfl fun a s=>?_
  obtain rfl:=oi u
  have d:=d.nilRow Segment 64
  exact wp_ret (j6 (Q8 s rfl (q9 rfl) (q9 rfl) (d.ret ⟨none,0,[],rfl,(d.outs [0] (by decide) rfl),(d.envAt 0 rfl)⟩)))
 refine sk (wp_seq (sn0 1 s rfl fun a s=>?_))
 obtain ⟨rv20,h19,u⟩:=bt u
 refine cV s d (b0v h19 d.bdom) (j3 call64 rfl) rfl fun a w s d=>?_
 refine rz0 1 s rfl fun a s=>?_
 refine cd s u rfl (fun u=>?_) fun u=>?_
 ·refine sz0 2 s rfl fun a s=>?_
  obtain rfl:=oi u
  have d:=d.nilRow Segment 64
  exact wp_ret (j6 (Q8 s rfl (q9 rfl) (q9 rfl) (d.ret ⟨none,0,[],rfl,(d.outs [0] (by decide) rfl),(d.envAt 0 rfl)⟩)))
 refine sk (sz0 1 s rfl fun a s=>?_)
 refine sr (wa Z17 s d zeroValue105 fun b28 a w s d=>?_)
 refine nl (wp_seq (sz0 3 s rfl fun a s=>?_))
 obtain ⟨e360,h542,u⟩:=bt u
 refine q8 (fun a w=>∃ c361 p362 k363 Sv364,Sl 69 [(8,sl p362 k363 e360)] a∧Wd ⟨w0,S0,[]⟩ Sv364 [.row p362 e360.length k363 c361 64 6] [l7 c361 e360] w) ?_ ?_
 ·refine wp_block ?_
  have d:=(d.nilRow Segment 64).addE (e:=SlA (α:=Int) none 0 0 []) a2i
  refine u7 (fun sv29 a w=>∃ p269 k270 c271 p272 k273 Sv274,Sl 69 [(1,iv tolerance5),(8,sl p272 k273 sv29.2.2.2.2.2.2.2.2.1),(9,pt b28),(25,sl p8 k9 rv7.1),(26,iv (rv7.1.length:Int)),(27,iv sv29.2.2.2.2.2.2.2.2.2)] a∧Wd ⟨w0,S0,[]⟩ Sv274 [.box b28 [iv sv29.1,iv sv29.2.1,iv sv29.2.2.1,iv sv29.2.2.2.1,iv sv29.2.2.2.2.1,sl p269 k270 sv29.2.2.2.2.2.1,iv sv29.2.2.2.2.2.2.1,iv sv29.2.2.2.2.2.2.2.1] 105,.row p272 sv29.2.2.2.2.2.2.2.2.1.length k273 c271 64 6,.row p8 rv7.1.length k9 c11 56 12] [Sq p269 k270 sv29.2.2.2.2.2.1,l7 c271 sv29.2.2.2.2.2.2.2.2.1,l7 c11 rv7.1] w) (0,0,0,0,0,([]:List Int),0,0,([]:List Segment),0) h542 ⟨none,0,[],none,0,Sv12,wj s d [1,0,2] [0,1,2]⟩ ?_
  clear h542
  repeat clear u
  rintro sv29 a w tv358 ⟨p269,k270,c271,p272,k273,Sv274,s,d⟩ u hd357
  refine sz0 1 s rfl fun a s=>?_
  refine wp_seq (cd s u rfl (fun u=>?_) fun u=>?_)
  ·refine sk (wp_seq (q8 (fun a w=>∃ (x439:Int) (x440:Int) (x441:Int) (x442:Int) (x443:Int) (x444:(List Int)) (x445:Int) (x446:Int) (out447:(List Segment)) (p433 k434 c435 p436 k437 Sv438:_),J7 sv29 x439 x440 x441 x442 x443 x444 x445 x446 out447=some tv358∧Sl 69 [(1,iv tolerance5),(8,sl p436 k437 out447),(9,pt b28),(25,sl p8 k9 rv7.1),(26,iv (rv7.1.length:Int)),(27,iv sv29.2.2.2.2.2.2.2.2.2)] a∧Wd ⟨w0,S0,[]⟩ Sv438 [.box b28 [iv x439,iv x440,iv x441,iv x442,iv x443,sl p433 k434 x444,iv x445,iv x446] 105,.row p436 out447.length k437 c435 64 6,.row p8 rv7.1.length k9 c11 56 12] [Sq p433 k434 x444,l7 c435 out447,l7 c11 rv7.1] w) ?_ ?_))
   ·refine wp_block (sr ?_)
    obtain ⟨x450,h448,u⟩:=bt u
    obtain ⟨b457,q454,c455,h458,h451,h452,h456,h449⟩:=d.elemRV (α:=Record) 2 rfl 2 rfl h448
    have hsv459:=s
    have hwv460:=d
    subst h458
    have s:=hsv459
    have d:=hwv460
    obtain ⟨_,_,_,_,_,_,_,_,_,_,_,_,rfl,rfl,rfl,rfl,rfl,rfl,rfl,rfl,rfl,rfl,rfl,rfl,⟨p461,n462,k463,rfl,h464⟩⟩:=h449
    obtain rfl:=h464.1
    have d:=d.addE (e:=SlA p461 _ k463 x450.Samples) h464
    refine sv s (o6 runUnderlying28 sizeOf56 rfl rfl h451.1 h451.2 h452) rfl fun a s=>?_
    refine sv s (I1 (j:=0) (d.ownAt 2 rfl) rfl isAgg56 sizeOf56 h456 rfl rfl) rfl fun a s=>?_
    refine wa Z0 s d zeroValue56 fun b465 a w s d=>?_
    refine ws (C56 x450 p461 k463) s d 0 rfl rfl rfl sizeOf56 fun a w s d=>?_
    refine nl (wp_seq (sn 3 [1,0] s d rfl rfl fun a s=>?_))
    obtain ⟨rv467,h466,u⟩:=bt u
    refine cR s (a5s h466 d.dom (d.envAt 1 rfl) (d.envAt 0 rfl)) (j3 call65 rfl) rfl ?_
    rintro v474 Sv471 w a h472 ⟨p468,k469,rfl,h470⟩ s
    have d:=(d.call h472).addE (e:=Sq p468 k469 rv467.1.Segment.Samples) h470
    refine rn0 3 s rfl fun a s=>?_
    refine wa Z17 s d zeroValue105 fun b476 a w s d=>?_
    refine ws (a4A rv467.1 p468 k469) s d 0 rfl rfl rfl sizeOf105 fun a w s d=>?_
    refine rz0 1 s rfl fun a s=>?_
    refine sz0 1 s rfl fun a s=>?_
    refine cd s u rfl (fun u=>?_) fun u=>?_
    ·refine sn 1 [0] s d rfl rfl fun a s=>?_
     refine ws (a4A rv467.1 p468 k469) s d 2 rfl rfl rfl sizeOf105 fun a w s d=>?_
     refine nl (sn 6 [2] s d rfl rfl fun a s=>?_)
     obtain ⟨x502,h500,u⟩:=bt u
     obtain ⟨b509,q506,c507,h510,h503,h504,h508,h501⟩:=d.elemRV (α:=Segment) 3 rfl 3 rfl h500
     have hsv511:=s
     have hwv512:=d
     subst h510
     have s:=hsv511
     have d:=hwv512
     obtain ⟨_,_,_,_,_,_,rfl,rfl,rfl,rfl,rfl,rfl,⟨p513,n514,k515,rfl,h516⟩⟩:=h501
     obtain rfl:=h516.1
     have d:=d.addE (e:=SlA p513 _ k515 x502.Samples) h516
     refine sv s (o6 runUnderlying60 sizeOf64 rfl rfl h503.1 h503.2 h504) rfl fun a s=>?_
     obtain ⟨l518,h517,u⟩:=bt u
     refine a2M (α:=Segment) s d 3 rfl 4 rfl h504 rfl rfl sizeOf64 rfl h517 ⟨_,_,_,_,_,_,rfl,rfl,rfl,rfl,rfl,rfl,⟨_,_,_,rfl,d.envAt 1 rfl⟩⟩ trivial ?_
     intro c519 a w s d
     have h520:=Y0 h517
     try have s:=s.fl 8 rfl h520
     try have s:=s.fl 40 rfl h520
     try have s:=s.fl 41 rfl h520
     exact nl (wp_exit (j5 (o9 (tn ⟨rv467.1.Segment.Start,rv467.1.Segment.First,rv467.1.Segment.Rate.Num,rv467.1.Segment.Rate.Den,rv467.1.Segment.Error,rv467.1.Segment.Samples,rv467.1.worst_,rv467.1.off_,l518,p468,k469,c519,(ad b509),k273,Sv471,u,wj s d [2,3,4] [2,0,6]⟩))))
    refine sk (wp_seq ?_)
    obtain ⟨rv522,h521,u⟩:=bt u
    refine A9 (fun a w=>∃ Sv527 c526 k524 p523,Sl 69 [(1,iv tolerance5),(8,sl p272 k273 sv29.2.2.2.2.2.2.2.2.1),(9,pt b28),(25,sl (ad b457) k9 rv7.1),(26,iv (rv7.1.length:Int)),(27,iv sv29.2.2.2.2.2.2.2.2.2)] a∧Wd ⟨w0,S0,[]⟩ Sv527 [.box b28 [iv x450.Start,iv x450.First,iv x450.Rate.Num,iv x450.Rate.Den,iv x450.Error,sl p523 k524 rv522,iv x450.Error,iv 0] 105,.row p272 sv29.2.2.2.2.2.2.2.2.1.length k273 c271 64 6,.row (ad b457) rv7.1.length k9 c11 56 12,.row p523 rv522.length k524 c526 3 1] [l7 c271 sv29.2.2.2.2.2.2.2.2.1,l7 c11 rv7.1,l7 c526 rv522] w) ?_ ?_
    ·refine h_c [0,1,3,4] [] d rfl rfl (by kernel_rfl) rfl fun hC d=>?_
     refine gn 12 [0,1,2,3,4,5,6,7,8,9,12,13] [1,1,1,1,1,1] s hC rfl rfl rfl fun a s=>?_
     refine ho 10 rfl ?_
     refine cR s (a0Y h521 d.dom (d.envAt 1 rfl)) (j3 call66 rfl) rfl ?_
     rintro v531 Sv528 w a h529 ⟨p523,k524,c526,rfl,h532,h525⟩ s
     have d:=(d.callN h529 h532).addE (e:=l7 c526 rv522) h525
     refine h_n [1,2,4,5] [] d rfl rfl fun hC=>?_
     refine h_d [1,2,4,5,0] [] [0,1,2,3] [] d rfl rfl rfl rfl fun hC=>?_
     refine gv s 11 rfl rfl hC (fun w hC=>D7 (vs:=[(0,iv x450.Start),(1,iv x450.First),(2,V54 x450.Rate),(3,iv x450.Error),(4,sl p523 k524 rv522)]) Bld64 rfl rfl) fun a s=>?_
     refine gv s 14 rfl rfl hC (fun w hC=>D7 (vs:=[(0,V64 ⟨x450.Start,x450.First,x450.Rate,x450.Error,rv522⟩ p523 k524),(1,iv x450.Error)]) Bld105 rfl rfl) fun a s=>?_
     refine ho 15 rfl ?_
     refine ws [iv x450.Start,iv x450.First,iv x450.Rate.Num,iv x450.Rate.Den,iv x450.Error,sl p523 k524 rv522,iv x450.Error,iv 0] s d 3 rfl rfl rfl sizeOf105 fun a w s d=>?_
     refine h_n [1,2,4,5,0] [] d rfl rfl fun hC=>?_
     refine y7 (by kernel_rfl) ?_
     exact ⟨Sv528,c526,k524,p523,wj s d [3,4,5,0] [4,5,0]⟩
    rintro a w ⟨Sv527,c526,k524,p523,s,d⟩
    refine tn (wp_region_lit (rn 3 [0] s d rfl rfl fun a s=>?_))
    obtain ⟨Sv535,d⟩:=D6 (α:=Int) d 3 rfl 2 rfl
    refine o7 (α:=Segment) (vs:=[V64 ⟨x450.Start,x450.First,x450.Rate,x450.Error,rv522⟩ p523 k524]) (cs:=(C64 ⟨x450.Start,x450.First,x450.Rate,x450.Error,rv522⟩ p523 k524)) (xs:=([(⟨x450.Start,x450.First,x450.Rate,x450.Error,rv522⟩:Segment)]:List Segment)) s d El60 rfl rfl rfl rfl rfl rfl ⟨⟨_,_,_,_,_,_,rfl,rfl,rfl,rfl,rfl,rfl,⟨_,_,_,rfl,d.envAt 0 rfl⟩⟩,rfl⟩ rfl trivial rfl fun b534 a w s d=>?_
    obtain ⟨l537,h536,u⟩:=bt u
    refine F4 (α:=Segment) s d El60 2 rfl rfl rfl 2 rfl 0 rfl 0 rfl h536 rfl trivial ?_
    intro p538 k539 c540 a w s d
    refine av s rfl rfl fun a s=>?_
    refine wpList_nil ?_
    exact l8 (tn ⟨x450.Start,x450.First,x450.Rate.Num,x450.Rate.Den,x450.Error,rv522,x450.Error,0,l537,p523,k524,c540,p538,k539,Sv535,u,wj s d [1,2,3] [2,0,4]⟩)
   rintro a w ⟨x439,x440,x441,x442,x443,x444,x445,x446,out447,p433,k434,c435,p436,k437,Sv438,u,s,d⟩
   refine tn (wp_region_lit (rz0 2 s rfl fun a s=>?_))
   exact ⟨_,io u,p433,k434,c435,p436,k437,Sv438,wj s d [0,1,2] [0,1,2]⟩
  refine wp_exit (j5 (j5 (o9 ?_)))
  obtain rfl:=oi u
  have h541:=hd357 _ rfl
  subst h541
  exact tn ⟨c271,p272,k273,Sv274,wj s d [1] [1]⟩
 rintro a w ⟨c361,p362,k363,Sv364,s,d⟩
 refine tn (sz0 3 s rfl fun a s=>?_)
 obtain rfl:=oi u
 exact wp_ret (Q8 s rfl (q9 rfl) (q9 rfl) (d.ret ⟨p362,k363,c361,rfl,(d.outs [0] (by decide) rfl),(d.envAt 0 rfl)⟩))
theorem b1t {w0 S0 p2 k3 p6 k7 a1 b5 r} (u:a5F a1 b5=some r) (hS:Dm S0 w0) (h4:(Sq p2 k3 a1.Samples).p S0 w0) (h8:(Sq p6 k7 b5.Samples).p S0 w0):Ck Tryz.prog 67 #[V56 a1 p2 k3,V56 b5 p6 k7] w0 S0 [] u6 r:=by
 refine en 35 func67 rfl hS rfl rfl rfl fun a s d=>?_
 have d:=(d.addE h4).addE h8
 refine sr (wb (C56 a1 p2 k3) s d rfl fun b9 a w s d=>?_)
 refine wb (C56 b5 p6 k7) s d rfl fun b10 a w s d=>?_
 refine rz0 1 s rfl fun a s=>?_
 refine wp_seq (wp_seq ?_)
 obtain ⟨rv12,h11,u⟩:=bt u
 obtain ⟨rv14,h13,u⟩:=bt u
 obtain ⟨rv16,h15,u⟩:=bt u
 refine A9 (fun a w=>∃ Sv17,Sl 35 [(2,pt b9),(3,pt b10),(22,.agg #[iv rv12,iv rv14,iv rv16]),(23,iv 0)] a∧Wd ⟨w0,S0,[]⟩ Sv17 [.box b9 (C56 a1 p2 k3) 56,.box b10 (C56 b5 p6 k7) 56] [Sq p2 k3 a1.Samples,Sq p6 k7 b5.Samples] w) ?_ ?_
 ·refine h_c [0,1] [] d rfl rfl (by kernel_rfl) rfl fun hC d=>?_
  refine gn 13 [0,1,2,3,5,6,7,8,10,11,12,13,16] [1,0,0,1,0,1] s hC rfl rfl rfl fun a s=>?_
  refine ho 4 rfl ?_
  refine cV s d (J5 h11 d.bdom) (j3 call102 rfl) rfl fun a w s d=>?_
  refine h_n [0,1] [] d rfl rfl fun hC=>?_
  refine ho 9 rfl ?_
  refine cV s d (J5 h13 d.bdom) (j3 call102 rfl) rfl fun a w s d=>?_
  refine h_n [0,1] [] d rfl rfl fun hC=>?_
  refine ho 14 rfl ?_
  refine cV s d (J5 h15 d.bdom) (j3 call102 rfl) rfl fun a w s d=>?_
  refine h_n [0,1] [] d rfl rfl fun hC=>?_
  refine gv s 15 rfl rfl hC (fun w hC=>D7 (vs:=[(0,iv rv12),(1,iv rv14),(2,iv rv16)]) Bld131 rfl rfl) fun a s=>?_
  refine y7 (by kernel_rfl) ?_
  exact ⟨S0,wj s d [1,0] [1,0]⟩
 rintro a w ⟨Sv17,s,d⟩
 refine tn (wp_block (u7 (fun sv50 a w=>∃ Sv60,Sl 35 [(2,pt b9),(3,pt b10),(22,.agg #[iv rv12,iv rv14,iv rv16]),(23,iv sv50)] a∧Wd ⟨w0,S0,[]⟩ Sv60 [.box b9 (C56 a1 p2 k3) 56,.box b10 (C56 b5 p6 k7) 56] [Sq p2 k3 a1.Samples,Sq p6 k7 b5.Samples] w) 0 u ⟨Sv17,wj s d [0,1] [0,1]⟩ ?_))
 repeat clear u
 rintro sv50 a w tv66 ⟨Sv60,s,d⟩ u hd65
 refine sz0 1 s rfl fun a s=>?_
 refine wp_seq (cd s u rfl (fun u=>?_) fun u=>?_)
 ·refine sk (wp_seq (wp_block (sr ?_)))
  obtain ⟨x75,h74,u⟩:=bt u
  refine sv s (b5y (α:=Int) (xs:=[rv12,rv14,rv16]) (cs:=[iv rv12,iv rv14,iv rv16]) (es:=[iv x75]) (v:=iv x75) runUnderlying131 sizeOf3 (.inl ⟨isAgg3,rfl⟩) rfl rfl rfl (fun _ _=>⟨⟨_,rfl,rfl⟩,⟨⟨_,rfl,rfl⟩,⟨⟨_,rfl,rfl⟩,rfl⟩⟩⟩) h74 (fun _ _ _ he=>by obtain ⟨_,rfl,rfl⟩:=he;rfl)) rfl fun a s=>?_
  refine rz0 1 s rfl fun a s=>?_
  refine sz0 2 s rfl fun a s=>?_
  refine cd s u rfl (fun u=>?_) fun u=>?_
  ·refine sz0 3 s rfl fun a s=>?_
   obtain rfl:=oi u
   have h78:=hd65 _ rfl
   subst h78
   exact wp_ret (A8 (j6 (j6 (A8 (j6 (rt s rfl (d.ret rfl)))))))
  refine wp_skip (l8 (tn (wp_region_lit (rz0 2 s rfl fun a s=>?_))))
  exact ⟨_,io u,Sv60,wj s d [0,1] [0,1]⟩
 obtain ⟨rv86,u,h87⟩:=a0x u
 have h87:=(hd65 _ h87.symm).symm
 subst h87
 refine wp_exit (j5 (j5 (o9 (tn (sn 2 [0,1] s d rfl rfl fun a s=>?_)))))
 obtain ⟨rv80,h79,u⟩:=bt u
 refine cV s d (a4L h79 d.bdom (d.bE 0 rfl) (d.bE 1 rfl)) (j3 call96 rfl) rfl fun a w s d=>?_
 refine rz0 2 s rfl fun a s=>?_
 obtain rfl:=oi u
 exact q1 s rfl (d.ret rfl)
theorem b2k {w0 S0 p2 k3 p6 k7 a1 b5 r} (u:a6E a1 b5=some r) (hS:Dm S0 w0) (h4:(Sq p2 k3 a1).p S0 w0) (h8:(Sq p6 k7 b5).p S0 w0):Ck Tryz.prog 17 #[sl p2 k3 a1,sl p6 k7 b5] w0 S0 [] C9 r:=by
 refine en 10 func17 rfl hS rfl rfl rfl fun a s d=>?_
 have d:=(d.addE h4).addE h8
 refine sz0 1 s rfl fun a s=>?_
 refine sn0 1 s rfl fun a s=>?_
 obtain ⟨l10,h9,u⟩:=bt u
 have d:=d.nilRow Span 71
 refine a1q (α:=Span) s d a3o 0 rfl rfl rfl 0 rfl 2 rfl h9 rfl trivial ?_
 intro p11 k12 c13 a w s d
 refine mv s rfl rfl fun a s=>?_
 obtain ⟨l15,h14,u⟩:=bt u
 refine a1q (α:=Span) s d a3o 0 rfl rfl rfl 0 rfl 2 rfl h14 rfl trivial ?_
 intro p16 k17 c18 a w s d
 obtain ⟨rv20,h19,u⟩:=bt u
 obtain ⟨Sv25,d⟩:=D6 (α:=Span) d 0 rfl 0 rfl
 refine cR s (a0b h19 d.dom (d.envAt 0 rfl)) (j3 call55 rfl) rfl ?_
 rintro v29 Sv26 w a h27 ⟨p21,k22,c24,rfl,h30,h23⟩ s
 have d:=(d.callN h27 h30).addE (e:=l7 c24 rv20) h23
 refine rz0 1 s rfl fun a s=>?_
 obtain rfl:=oi u
 exact q1 s rfl (d.ret ⟨p21,k22,c24,rfl,(d.outs [0] (by decide) rfl),(d.envAt 0 rfl)⟩)
theorem b2K {w0 S0 p2 k3 p6 k7 a1 b5 r} (u:a6b a1 b5=some r) (hS:Dm S0 w0) (h4:(Sq p2 k3 a1).p S0 w0) (h8:(Sq p6 k7 b5).p S0 w0):Ck Tryz.prog 58 #[sl p2 k3 a1,sl p6 k7 b5] w0 S0 [] C9 r:=by
 refine en 61 func58 rfl hS rfl rfl rfl fun a s d=>?_
 have d:=(d.addE h4).addE h8
 refine sz0 1 s rfl fun a s=>?_
 refine sn0 1 s rfl fun a s=>?_
 obtain ⟨rv10,h9,u⟩:=bt u
 refine cR s (a0b h9 d.dom (d.envAt 1 rfl)) (j3 call55 rfl) rfl ?_
 rintro v18 Sv15 w a h16 ⟨p11,k12,c14,rfl,h19,h13⟩ s
 have d:=(d.callN h16 h19).addE (e:=l7 c14 rv10) h13
 refine mv s rfl rfl fun a s=>?_
 obtain ⟨rv21,h20,u⟩:=bt u
 refine cR s (a0b h20 d.dom (d.envAt 1 rfl)) (j3 call55 rfl) rfl ?_
 rintro v29 Sv26 w a h27 ⟨p22,k23,c25,rfl,h30,h24⟩ s
 have d:=(d.callN h27 h30).addE (e:=l7 c25 rv21) h24
 refine rz0 2 s rfl fun a s=>?_
 refine sz0 1 s rfl fun a s=>?_
 refine wp_seq (sz0 1 s rfl fun a s=>?_)
 obtain ⟨e661,h1221,u⟩:=bt u
 refine q8 (fun a w=>∃ c662 p663 k664 Sv665,Sl 61 [(7,sl p663 k664 e661)] a∧Wd ⟨w0,S0,[]⟩ Sv665 [.row p663 e661.length k664 c662 71 2] [l7 c662 e661] w) ?_ ?_
 ·refine wp_block ?_
  have d:=d.nilRow Span 71
  refine u7 (fun sv31 a w=>∃ c448 p449 k450 Sv451,Sl 61 [(5,sl p11 k12 rv10),(6,sl p22 k23 rv21),(7,sl p449 k450 sv31.1),(8,iv sv31.2)] a∧Wd ⟨w0,S0,[]⟩ Sv451 [.row p11 rv10.length k12 c14 71 2,.row p22 rv21.length k23 c25 71 2,.row p449 sv31.1.length k450 c448 71 2] [l7 c14 rv10,l7 c25 rv21,l7 c448 sv31.1] w) (([]:List Span),0) h1221 ⟨[],none,0,Sv26,wj s d [2,1,0] [2,1,0]⟩ ?_
  clear h1221
  repeat clear u
  rintro sv31 a w tv659 ⟨c448,p449,k450,Sv451,s,d⟩ u hd658
  refine wp_seq (sz0 4 s rfl fun a s=>?_)
  refine cd s u rfl (fun u=>?_) fun u=>?_
  ·refine sk (wp_seq (wp_block (sz0 1 s rfl fun a s=>?_)))
   obtain ⟨e1069,h1207,u⟩:=bt u
   refine q8 (fun a w=>∃ c1070 p1071 k1072 Sv1073,Sl 61 [(5,sl p11 k12 rv10),(6,sl p22 k23 rv21),(7,sl p1071 k1072 e1069),(8,iv sv31.2)] a∧Wd ⟨w0,S0,[]⟩ Sv1073 [.row p11 rv10.length k12 c14 71 2,.row p22 rv21.length k23 c25 71 2,.row p1071 e1069.length k1072 c1070 71 2] [l7 c14 rv10,l7 c25 rv21,l7 c1070 e1069] w) ?_ ?_
   ·refine wp_block (u7 (fun sv871 a w=>∃ c1000 p1001 k1002 Sv1003,Sl 61 [(5,sl p11 k12 rv10),(6,sl p22 k23 rv21),(7,sl p1001 k1002 sv871.1),(8,iv sv31.2),(9,iv sv871.2)] a∧Wd ⟨w0,S0,[]⟩ Sv1003 [.row p11 rv10.length k12 c14 71 2,.row p22 rv21.length k23 c25 71 2,.row p1001 sv871.1.length k1002 c1000 71 2] [l7 c14 rv10,l7 c25 rv21,l7 c1000 sv871.1] w) (sv31.1,0) h1207 ⟨c448,p449,k450,Sv451,wj s d [0,1,2] [0,1,2]⟩ ?_)
    clear h1207
    repeat clear u
    rintro sv871 a w tv1067 ⟨c1000,p1001,k1002,Sv1003,s,d⟩ u hd1066
    refine wp_seq (sz0 4 s rfl fun a s=>?_)
    refine cd s u rfl (fun u=>?_) fun u=>?_
    ·refine sk (wp_seq (wp_block (wp_seq ?_)))
     obtain ⟨x1137,h1135,u⟩:=bt u
     obtain ⟨b1144,q1141,c1142,h1145,h1138,h1139,h1143,h1136⟩:=d.elemRV (α:=Span) 0 rfl 0 rfl h1135
     have hsv1146:=s
     have hwv1147:=d
     subst h1145
     have s:=hsv1146
     have d:=hwv1147
     obtain ⟨_,_,rfl,rfl,rfl⟩:=h1136
     obtain ⟨x1150,h1148,u⟩:=bt u
     obtain ⟨b1157,q1154,c1155,h1158,h1151,h1152,h1156,h1149⟩:=d.elemRV (α:=Span) 1 rfl 1 rfl h1148
     have hsv1159:=s
     have hwv1160:=d
     subst h1158
     have s:=hsv1159
     have d:=hwv1160
     obtain ⟨_,_,rfl,rfl,rfl⟩:=h1149
     obtain ⟨x1163,h1161,u⟩:=bt u
     obtain ⟨q1167,c1168,h1164,h1165,h1169,h1162⟩:=d.elemRK (α:=Span) 0 rfl 0 rfl h1161
     obtain ⟨_,_,rfl,rfl,rfl⟩:=h1162
     obtain ⟨x1172,h1170,u⟩:=bt u
     obtain ⟨q1176,c1177,h1173,h1174,h1178,h1171⟩:=d.elemRK (α:=Span) 1 rfl 1 rfl h1170
     obtain ⟨_,_,rfl,rfl,rfl⟩:=h1171
     refine A9 (fun a w=>∃ Sv1180 b1179,Sl 61 [(5,sl (ad b1144) k12 rv10),(6,sl (ad b1157) k23 rv21),(7,sl p1001 k1002 sv871.1),(8,iv sv31.2),(9,iv sv871.2),(10,pt b1179)] a∧Wd ⟨w0,S0,[]⟩ Sv1180 [.box b1179 [iv (max x1137.From x1150.From),iv (min x1163.To x1172.To)] 71,.row (ad b1144) rv10.length k12 c14 71 2,.row (ad b1157) rv21.length k23 c25 71 2,.row p1001 sv871.1.length k1002 c1000 71 2] [l7 c14 rv10,l7 c25 rv21,l7 c1000 sv871.1] w) ?_ ?_
     ·refine h_c [0,1,2] [] d rfl rfl (by kernel_rfl) rfl fun hC d=>?_
      refine gn 2 [0,1] [] s hC rfl rfl rfl fun a s=>?_
      refine gx s 2 rfl trivial rfl hC runUnderlying30 sizeOf71 rfl rfl h1138 h1139 fun a s=>?_
      refine gv s 3 rfl rfl hC (fun w hC=>l5 (o':=q1141+0) runUnderlying71 rfl sizeOf3 rfl rfl rfl) fun a s=>?_
      refine gv s 4 rfl rfl hC (fun w hC=>A7 (j:=0) (hC.ownAt 0 rfl) rfl isAgg3 h1143 rfl) fun a s=>?_
      refine gn 2 [5,6] [] s hC rfl rfl rfl fun a s=>?_
      refine gx s 7 rfl trivial rfl hC runUnderlying30 sizeOf71 rfl rfl h1151 h1152 fun a s=>?_
      refine gv s 8 rfl rfl hC (fun w hC=>l5 (o':=q1154+0) runUnderlying71 rfl sizeOf3 rfl rfl rfl) fun a s=>?_
      refine gv s 9 rfl rfl hC (fun w hC=>A7 (j:=0) (hC.ownAt 1 rfl) rfl isAgg3 h1156 rfl) fun a s=>?_
      refine gn 3 [10,11,12] [] s hC rfl rfl rfl fun a s=>?_
      refine gx s 13 rfl trivial rfl hC runUnderlying30 sizeOf71 rfl rfl h1164 h1165 fun a s=>?_
      refine gv s 14 rfl rfl hC (fun w hC=>l5 (o':=q1167+1) runUnderlying71 rfl sizeOf3 rfl rfl rfl) fun a s=>?_
      refine gv s 15 rfl rfl hC (fun w hC=>A7 (j:=1) (hC.ownAt 0 rfl) rfl isAgg3 h1169 rfl) fun a s=>?_
      refine gn 2 [16,17] [] s hC rfl rfl rfl fun a s=>?_
      refine gx s 18 rfl trivial rfl hC runUnderlying30 sizeOf71 rfl rfl h1173 h1174 fun a s=>?_
      refine gv s 19 rfl rfl hC (fun w hC=>l5 (o':=q1176+1) runUnderlying71 rfl sizeOf3 rfl rfl rfl) fun a s=>?_
      refine gv s 20 rfl rfl hC (fun w hC=>A7 (j:=1) (hC.ownAt 1 rfl) rfl isAgg3 h1178 rfl) fun a s=>?_
      refine gv s 21 rfl rfl hC (fun w hC=>y_min rfl rfl) fun a s=>?_
      refine gv s 22 rfl rfl hC (fun w hC=>D7 (vs:=[(0,iv (max x1137.From x1150.From)),(1,iv (min x1163.To x1172.To))]) a6t rfl rfl) fun a s=>?_
      refine ho 23 rfl ?_
      refine wa [iv 0,iv 0] s d zeroValue71 fun b1179 a w s d=>?_
      refine h_n [1,2,3] [] d rfl rfl fun hC=>?_
      refine ho 24 rfl ?_
      refine ws [iv (max x1137.From x1150.From),iv (min x1163.To x1172.To)] s d 0 rfl rfl rfl sizeOf71 fun a w s d=>?_
      refine h_n [1,2,3] [] d rfl rfl fun hC=>?_
      refine y7 (by kernel_rfl) ?_
      exact ⟨Sv1003,b1179,wj s d [0,1,2,3] [0,1,2]⟩
     rintro a w ⟨Sv1180,b1179,s,d⟩
     refine tn (sz 5 [0,0] s d rfl rfl fun a s=>?_)
     refine q8 (fun a w=>∃ (out1193:(List Span)) (c1189 p1190 k1191 Sv1192:_),a5a sv871 out1193=some tv1067∧Sl 61 [(5,sl (ad b1144) k12 rv10),(6,sl (ad b1157) k23 rv21),(7,sl p1190 k1191 out1193),(8,iv sv31.2),(9,iv sv871.2)] a∧Wd ⟨w0,S0,[]⟩ Sv1192 [.row (ad b1144) rv10.length k12 c14 71 2,.row (ad b1157) rv21.length k23 c25 71 2,.row p1190 out1193.length k1191 c1189 71 2] [l7 c14 rv10,l7 c25 rv21,l7 c1189 out1193] w) ?_ ?_
     ·refine cd s u rfl (fun u=>?_) fun u=>?_
      ·refine wp_region_lit (rn 2 [0] s d rfl rfl fun a s=>?_)
       refine o7 (α:=Span) (vs:=[.agg #[iv (max x1137.From x1150.From),iv (min x1163.To x1172.To)]]) (cs:=[iv (max x1137.From x1150.From),iv (min x1163.To x1172.To)]) (xs:=([(⟨(max x1137.From x1150.From),(min x1163.To x1172.To)⟩:Span)]:List Span)) s d a3o rfl rfl rfl rfl rfl rfl ⟨⟨_,_,rfl,rfl,rfl⟩,rfl⟩ rfl trivial rfl fun b1198 a w s d=>?_
       obtain ⟨l1200,h1199,u⟩:=bt u
       refine F4 (α:=Span) s d a3o 4 rfl rfl rfl 3 rfl 0 rfl 0 rfl h1199 rfl trivial ?_
       intro p1201 k1202 c1203 a w s d
       refine rz0 1 s rfl fun a s=>?_
       exact ⟨l1200,c1203,p1201,k1202,Sv1180,u,wj s d [2,3,4] [2,3,0]⟩
      exact sk ⟨sv871.1,c1000,p1001,k1002,Sv1180,u,wj s d [1,2,3] [0,1,2]⟩
     rintro a w ⟨out1193,c1189,p1190,k1191,Sv1192,u,s,d⟩
     refine l8 (tn (wp_region_lit (rn0 2 s rfl fun a s=>?_)))
     obtain ⟨k1195,h1194,u⟩:=bt u
     refine sv s (o8 rfl h1194) rfl fun a s=>?_
     exact nl ⟨_,io u,c1189,p1190,k1191,Sv1192,wj s d [0,1,2] [0,1,2]⟩
    refine wp_exit (j5 (j5 (o9 ?_)))
    obtain rfl:=oi u
    have h1204:=hd1066 _ rfl
    subst h1204
    exact tn ⟨c1000,p1001,k1002,Sv1003,wj s d [0,1,2] [0,1,2]⟩
   rintro a w ⟨c1070,p1071,k1072,Sv1073,s,d⟩
   refine l8 (tn (wp_region_lit (rn0 2 s rfl fun a s=>?_)))
   obtain ⟨i1206,h1205,u⟩:=bt u
   refine sv s (o8 rfl h1205) rfl fun a s=>?_
   exact nl ⟨_,io u,c1070,p1071,k1072,Sv1073,wj s d [0,1,2] [0,1,2]⟩
  refine wp_exit (j5 (j5 (o9 ?_)))
  obtain rfl:=oi u
  have h1208:=hd658 _ rfl
  subst h1208
  exact tn ⟨c448,p449,k450,Sv451,wj s d [2] [2]⟩
 rintro a w ⟨c662,p663,k664,Sv665,s,d⟩
 refine tn (sn0 1 s rfl fun a s=>?_)
 obtain ⟨rv1210,h1209,u⟩:=bt u
 obtain ⟨Sv1215,d⟩:=D6 (α:=Span) d 0 rfl 0 rfl
 refine cR s (a0b h1209 d.dom (d.envAt 0 rfl)) (j3 call55 rfl) rfl ?_
 rintro v1219 Sv1216 w a h1217 ⟨p1211,k1212,c1214,rfl,h1220,h1213⟩ s
 have d:=(d.callN h1217 h1220).addE (e:=l7 c1214 rv1210) h1213
 refine rz0 1 s rfl fun a s=>?_
 obtain rfl:=oi u
 exact q1 s rfl (d.ret ⟨p1211,k1212,c1214,rfl,(d.outs [0] (by decide) rfl),(d.envAt 0 rfl)⟩)
theorem b3J {w0 S0 p2 k3 l1 from5 to6 r} (u:a7j l1 from5 to6=some r) (hS:Dm S0 w0) (h4:(Sq p2 k3 l1).p S0 w0):Ck Tryz.prog 21 #[sl p2 k3 l1,iv from5,iv to6] w0 S0 [] C9 r:=by
 refine en 13 func21 rfl hS rfl rfl rfl fun a s d=>?_
 have d:=d.addE h4
 refine sz0 1 s rfl fun a s=>?_
 refine sn0 3 s rfl fun a s=>?_
 refine sv s (D7 (vs:=[(0,iv from5),(1,iv to6)]) a6t rfl rfl) rfl fun a s=>?_
 refine o7 (α:=Span) (vs:=[.agg #[iv from5,iv to6]]) (cs:=[iv from5,iv to6]) (xs:=([(⟨from5,to6⟩:Span)]:List Span)) s d a3o rfl rfl rfl rfl rfl rfl ⟨⟨_,_,rfl,rfl,rfl⟩,rfl⟩ rfl trivial rfl fun b8 a w s d=>?_
 obtain ⟨rv10,h9,u⟩:=bt u
 obtain ⟨Sv15,d⟩:=D6 (α:=Span) d 0 rfl 0 rfl
 refine cR s (b2K h9 d.dom (d.envAt 2 rfl) (d.envAt 0 rfl)) (j3 call58 rfl) rfl ?_
 rintro v19 Sv16 w a h17 ⟨p11,k12,c14,rfl,h20,h13⟩ s
 have d:=(d.callN h17 h20).addE (e:=l7 c14 rv10) h13
 refine rz0 1 s rfl fun a s=>?_
 obtain rfl:=oi u
 exact q1 s rfl (d.ret ⟨p11,k12,c14,rfl,(d.outs [0] (by decide) rfl),(d.envAt 0 rfl)⟩)
theorem b0c {w0 S0 p2 k3 r1 from5 to6 r} (u:a7k r1 from5 to6=some r) (hS:Dm S0 w0) (h4:(Sq p2 k3 r1.Samples).p S0 w0):Ck Tryz.prog 68 #[V56 r1 p2 k3,iv from5,iv to6] w0 S0 [] a9d r:=by
 refine en 42 func68 rfl hS rfl rfl rfl fun a s d=>?_
 have d:=d.addE h4
 refine sr (wb (C56 r1 p2 k3) s d rfl fun b7 a w s d=>?_)
 refine wa Z0 s d zeroValue56 fun b8 a w s d=>?_
 refine rz0 1 s rfl fun a s=>?_
 refine wp_seq (sn 1 [1] s d rfl rfl fun a s=>?_)
 obtain ⟨rv10,h9,u⟩:=bt u
 refine cV s d (X8 h9 d.bdom (d.bE 0 rfl)) (j3 call60 rfl) rfl fun a w s d=>?_
 refine rz0 1 s rfl fun a s=>?_
 refine cd s u rfl (fun u=>?_) fun u=>?_
 ·refine sr (sv s (D7 (vs:=[]) a6s rfl rfl) rfl fun a s=>?_)
  refine ws Z0 s d 0 rfl rfl rfl sizeOf56 fun a w s d=>?_
  refine rz0 1 s rfl fun a s=>?_
  obtain rfl:=oi u
  have d:=d.nilRow Int 3
  exact wp_ret (j6 (Q8 s rfl (K4 d 1 rfl rfl isAgg56 sizeOf56 rfl) (q9 rfl) (d.ret ⟨none,0,[],rfl,(d.outs [0] (by decide) rfl),(d.envAt 0 rfl)⟩)))
 refine sk (wp_seq (sn0 3 s rfl fun a s=>?_))
 refine rO 4 15 [] s d rfl rfl rfl rfl rfl fun a s=>?_
 refine mv s rfl rfl fun a s=>?_
 refine rO 6 20 [1] s d rfl rfl rfl rfl rfl fun a s=>?_
 refine nl (cd s u rfl (fun u=>?_) fun u=>?_)
 ·refine sr (sv s (D7 (vs:=[]) a6s rfl rfl) rfl fun a s=>?_)
  refine ws Z0 s d 0 rfl rfl rfl sizeOf56 fun a w s d=>?_
  refine rz0 1 s rfl fun a s=>?_
  obtain rfl:=oi u
  have d:=d.nilRow Int 3
  exact wp_ret (j6 (Q8 s rfl (K4 d 1 rfl rfl isAgg56 sizeOf56 rfl) (q9 rfl) (d.ret ⟨none,0,[],rfl,(d.outs [0] (by decide) rfl),(d.envAt 0 rfl)⟩)))
 refine sk (sn 1 [1] s d rfl rfl fun a s=>?_)
 refine wa Z0 s d zeroValue56 fun b22 a w s d=>?_
 refine ws (C56 r1 p2 k3) s d 0 rfl rfl rfl sizeOf56 fun a w s d=>?_
 refine nl (sn 5 [2] s d rfl rfl fun a s=>?_)
 refine ws (C56 ⟨r1.Source,r1.Start,(w64 (r1.First+from5)),r1.Rate,r1.Error,r1.Run,r1.Seq,r1.Samples⟩ p2 k3) s d 0 rfl rfl rfl sizeOf3 fun a w s d=>?_
 refine nl (sn 4 [2] s d rfl rfl fun a s=>?_)
 obtain ⟨l28,h23,u⟩:=bt u
 obtain ⟨p26,k27,h24,h25⟩:=b5Q (d.envAt 0 rfl) h23
 have d:=d.addE h24
 refine sv s (a4E runUnderlying22 sizeOf3 rfl ⟨_,rfl⟩ ⟨_,rfl⟩ h25) rfl fun a s=>?_
 obtain ⟨l30,h29,u⟩:=bt u
 have d:=d.nilRow Int 3
 refine a1q (α:=Int) s d S9 0 rfl rfl rfl 0 rfl 1 rfl h29 rfl trivial ?_
 intro p31 k32 c33 a w s d
 refine sv s (l5 (o':=11) runUnderlying56 rfl sizeOf22 rfl rfl rfl) rfl fun a s=>?_
 refine ws (C56 ⟨r1.Source,r1.Start,(w64 (r1.First+from5)),r1.Rate,r1.Error,r1.Run,r1.Seq,l30⟩ p31 k32) s d 1 rfl rfl rfl sizeOf22 fun a w s d=>?_
 refine nl (sn 1 [1] s d rfl rfl fun a s=>?_)
 refine ws (C56 ⟨r1.Source,r1.Start,(w64 (r1.First+from5)),r1.Rate,r1.Error,r1.Run,r1.Seq,l30⟩ p31 k32) s d 2 rfl rfl rfl sizeOf56 fun a w s d=>?_
 refine rz0 1 s rfl fun a s=>?_
 obtain rfl:=oi u
 exact wp_ret (Q8 s rfl (K4 d 2 rfl rfl isAgg56 sizeOf56 rfl) (q9 rfl) (d.ret ⟨p31,k32,c33,rfl,(d.outs [0] (by decide) rfl),(d.envAt 0 rfl)⟩))
theorem b0O {w0 S0 p2 k3 l1 r} (u:a3y l1=some r) (hS:Dm S0 w0) (h4:(Sq p2 k3 l1).p S0 w0):Ck Tryz.prog 26 #[sl p2 k3 l1] w0 S0 [] a2N r:=by
 refine en 119 func26 rfl hS rfl rfl rfl fun a s d=>?_
 have d:=d.addE h4
 refine sz0 2 s rfl fun a s=>?_
 refine wp_seq (sn0 1 s rfl fun a s=>?_)
 obtain ⟨rv6,h5,u⟩:=bt u
 refine cV s d (a4l h5 d.bdom (d.bE 0 rfl)) (j3 call56 rfl) rfl fun a w s d=>?_
 refine rz0 1 s rfl fun a s=>?_
 refine cd s u rfl (fun u=>?_) fun u=>?_
 ·refine sz0 2 s rfl fun a s=>?_
  obtain rfl:=oi u
  have d:=d.nilRow Record 56
  exact wp_ret (j6 (Q8 s rfl (q9 rfl) (q9 rfl) (d.ret ⟨none,0,[],rfl,(d.outs [0] (by decide) rfl),(d.envAt 0 rfl)⟩)))
 refine sk (sn0 1 s rfl fun a s=>?_)
 obtain ⟨rv15,h14,u⟩:=bt u
 refine cR s (a6e h14 d.dom (d.envAt 0 rfl)) (j3 call59 rfl) rfl ?_
 rintro v23 Sv20 w a h21 ⟨p16,k17,c19,rfl,h24,h18⟩ s
 have d:=(d.callN h21 h24).addE (e:=l7 c19 rv15) h18
 refine rz0 1 s rfl fun a s=>?_
 refine sz0 1 s rfl fun a s=>?_
 refine wp_seq (sz0 1 s rfl fun a s=>?_)
 obtain ⟨e1897,h3655,u⟩:=bt u
 refine q8 (fun a w=>∃ c1898 p1899 k1900 Sv1901,Sl 119 [(5,sl p1899 k1900 e1897)] a∧Wd ⟨w0,S0,[]⟩ Sv1901 [.row p1899 e1897.length k1900 c1898 56 12] [l7 c1898 e1897] w) ?_ ?_
 ·refine wp_block ?_
  have d:=d.nilRow Record 56
  refine u7 (fun sv25 a w=>∃ c1270 p1271 k1272 Sv1273,Sl 119 [(4,sl p16 k17 rv15),(5,sl p1271 k1272 sv25.1),(6,iv sv25.2)] a∧Wd ⟨w0,S0,[]⟩ Sv1273 [.row p16 rv15.length k17 c19 56 12,.row p1271 sv25.1.length k1272 c1270 56 12] [l7 c19 rv15,l7 c1270 sv25.1] w) (([]:List Record),0) h3655 ⟨[],none,0,Sv20,wj s d [1,0] [1,0]⟩ ?_
  clear h3655
  repeat clear u
  rintro sv25 a w tv1895 ⟨c1270,p1271,k1272,Sv1273,s,d⟩ u hd1894
  refine wp_seq (sz0 4 s rfl fun a s=>?_)
  refine cd s u rfl (fun u=>?_) fun u=>?_
  ·refine sk (wp_seq (wp_block (sz0 1 s rfl fun a s=>?_)))
   refine wp_seq (sz0 1 s rfl fun a s=>?_)
   obtain ⟨e2766,h3641,u⟩:=bt u
   refine q8 (fun a w=>∃ c2767 p2768 k2769 Sv2770,Sl 119 [(4,sl p16 k17 rv15),(5,sl p1271 k1272 sv25.1),(6,iv sv25.2),(7,sl p2768 k2769 e2766)] a∧Wd ⟨w0,S0,[]⟩ Sv2770 [.row p16 rv15.length k17 c19 56 12,.row p1271 sv25.1.length k1272 c1270 56 12,.row p2768 e2766.length k2769 c2767 71 2] [l7 c19 rv15,l7 c1270 sv25.1,l7 c2767 e2766] w) ?_ ?_
   ·refine wp_block ?_
    have d:=d.nilRow Span 71
    refine u7 (fun sv2521 a w=>∃ c2681 p2682 k2683 Sv2684,Sl 119 [(4,sl p16 k17 rv15),(5,sl p1271 k1272 sv25.1),(6,iv sv25.2),(7,sl p2682 k2683 sv2521.1),(8,iv sv2521.2)] a∧Wd ⟨w0,S0,[]⟩ Sv2684 [.row p16 rv15.length k17 c19 56 12,.row p1271 sv25.1.length k1272 c1270 56 12,.row p2682 sv2521.1.length k2683 c2681 71 2] [l7 c19 rv15,l7 c1270 sv25.1,l7 c2681 sv2521.1] w) (([]:List Span),0) h3641 ⟨[],none,0,Sv1273,wj s d [1,2,0] [1,2,0]⟩ ?_
    clear h3641
    repeat clear u
    rintro sv2521 a w tv2764 ⟨c2681,p2682,k2683,Sv2684,s,d⟩ u hd2763
    refine wp_seq (sz0 4 s rfl fun a s=>?_)
    refine cd s u rfl (fun u=>?_) fun u=>?_
    ·refine sk (wp_seq (wp_block (wp_seq ?_)))
     obtain ⟨x2850,h2848,u⟩:=bt u
     obtain ⟨b2857,q2854,c2855,h2858,h2851,h2852,h2856,h2849⟩:=d.elemRV (α:=Record) 0 rfl 0 rfl h2848
     have hsv2859:=s
     have hwv2860:=d
     subst h2858
     have s:=hsv2859
     have d:=hwv2860
     obtain ⟨_,_,_,_,_,_,_,_,_,_,_,_,rfl,rfl,rfl,rfl,rfl,rfl,rfl,rfl,rfl,rfl,rfl,rfl,⟨p2861,n2862,k2863,rfl,h2864⟩⟩:=h2849
     obtain rfl:=h2864.1
     have d:=d.addE (e:=SlA p2861 _ k2863 x2850.Samples) h2864
     obtain ⟨x2867,h2865,u⟩:=bt u
     obtain ⟨q2871,c2872,h2868,h2869,h2873,h2866⟩:=d.elemRK (α:=Record) 0 rfl 1 rfl h2865
     obtain ⟨_,_,_,_,_,_,_,_,_,_,_,_,rfl,rfl,rfl,rfl,rfl,rfl,rfl,rfl,rfl,rfl,rfl,rfl,⟨p2874,n2875,k2876,rfl,h2877⟩⟩:=h2866
     obtain rfl:=h2877.1
     have d:=d.addE (e:=SlA p2874 _ k2876 x2867.Samples) h2877
     obtain ⟨rv2879,h2878,u⟩:=bt u
     refine A9 (fun a w=>∃ Sv2880,Sl 119 [(4,sl (ad b2857) k17 rv15),(5,sl p1271 k1272 sv25.1),(6,iv sv25.2),(7,sl p2682 k2683 sv2521.1),(8,iv sv2521.2),(41,.bool rv2879)] a∧Wd ⟨w0,S0,[]⟩ Sv2880 [.row (ad b2857) rv15.length k17 c19 56 12,.row p1271 sv25.1.length k1272 c1270 56 12,.row p2682 sv2521.1.length k2683 c2681 71 2] [l7 c19 rv15,l7 c1270 sv25.1,l7 c2681 sv2521.1] w) ?_ ?_
     ·refine h_c [0,1,2] [] d rfl rfl (by kernel_rfl) rfl fun hC d=>?_
      refine gn 2 [0,1] [] s hC rfl rfl rfl fun a s=>?_
      refine gx s 2 rfl trivial rfl hC runUnderlying28 sizeOf56 rfl rfl h2851 h2852 fun a s=>?_
      refine gv s 3 rfl rfl hC (fun w hC=>I1 (j:=0) (hC.ownAt 0 rfl) rfl isAgg56 sizeOf56 h2856 rfl rfl) fun a s=>?_
      refine gn 2 [4,5] [] s hC rfl rfl rfl fun a s=>?_
      refine gx s 6 rfl trivial rfl hC runUnderlying28 sizeOf56 rfl rfl h2868 h2869 fun a s=>?_
      refine gv s 7 rfl rfl hC (fun w hC=>I1 (j:=0) (hC.ownAt 0 rfl) rfl isAgg56 sizeOf56 h2873 rfl rfl) fun a s=>?_
      refine ho 8 rfl ?_
      refine cV s d (b1t h2878 d.bdom (d.bE 1 rfl) (d.bE 0 rfl)) (j3 call67 rfl) rfl fun a w s d=>?_
      refine h_n [0,1,2] [] d rfl rfl fun hC=>?_
      refine y7 (by kernel_rfl) ?_
      exact ⟨Sv2684,wj s d [0,1,2] [2,3,4]⟩
     rintro a w ⟨Sv2880,s,d⟩
     refine tn (q8 (fun a w=>∃ (better2927:(List Span)) (c2923 p2924 k2925 Sv2926:_),a3d sv2521 better2927=some tv2764∧Sl 119 [(4,sl (ad b2857) k17 rv15),(5,sl p1271 k1272 sv25.1),(6,iv sv25.2),(7,sl p2924 k2925 better2927),(8,iv sv2521.2)] a∧Wd ⟨w0,S0,[]⟩ Sv2926 [.row (ad b2857) rv15.length k17 c19 56 12,.row p1271 sv25.1.length k1272 c1270 56 12,.row p2924 better2927.length k2925 c2923 71 2] [l7 c19 rv15,l7 c1270 sv25.1,l7 c2923 better2927] w) ?_ ?_)
     ·refine cd s u rfl (fun u=>?_) fun u=>?_
      ·refine sn0 2 s rfl fun a s=>?_
       obtain ⟨x2933,h2931,u⟩:=bt u
       obtain ⟨q2937,c2938,h2934,h2935,h2939,h2932⟩:=d.elemRK (α:=Record) 0 rfl 0 rfl h2931
       obtain ⟨_,_,_,_,_,_,_,_,_,_,_,_,rfl,rfl,rfl,rfl,rfl,rfl,rfl,rfl,rfl,rfl,rfl,rfl,⟨p2940,n2941,k2942,rfl,h2943⟩⟩:=h2932
       obtain rfl:=h2943.1
       have d:=d.addE (e:=SlA p2940 _ k2942 x2933.Samples) h2943
       refine sv s (o6 runUnderlying28 sizeOf56 rfl rfl h2934.1 h2934.2 h2935) rfl fun a s=>?_
       refine sv s (I1 (j:=0) (d.ownAt 0 rfl) rfl isAgg56 sizeOf56 h2939 rfl rfl) rfl fun a s=>?_
       obtain ⟨rv2945,h2944,u⟩:=bt u
       refine cV s d (a5e h2944 d.bdom (d.bE 0 rfl)) (j3 call31 rfl) rfl fun a w s d=>?_
       refine rn0 3 s rfl fun a s=>?_
       refine wa [iv 0,iv 0] s d zeroValue71 fun b2951 a w s d=>?_
       refine ws (C71 rv2945.1) s d 0 rfl rfl rfl sizeOf71 fun a w s d=>?_
       refine rz0 1 s rfl fun a s=>?_
       refine wp_region_lit (rn 2 [0] s d rfl rfl fun a s=>?_)
       refine o7 (α:=Span) (vs:=[V71 rv2945.1]) (cs:=(C71 rv2945.1)) (xs:=([rv2945.1]:List Span)) s d a3o rfl rfl rfl rfl rfl rfl ⟨⟨_,_,rfl,rfl,rfl⟩,rfl⟩ rfl trivial rfl fun b2953 a w s d=>?_
       obtain ⟨rv2955,h2954,u⟩:=bt u
       obtain ⟨Sv2960,d⟩:=D6 (α:=Span) d 4 rfl 4 rfl
       obtain ⟨Sv2961,d⟩:=D6 (α:=Span) d 0 rfl 1 rfl
       refine cR s (b2k h2954 d.dom (d.envAt 1 rfl) (d.envAt 0 rfl)) (j3 call17 rfl) rfl ?_
       rintro v2965 Sv2962 w a h2963 ⟨p2956,k2957,c2959,rfl,h2966,h2958⟩ s
       have d:=(d.callN h2963 h2966).addE (e:=l7 c2959 rv2955) h2958
       refine rz0 1 s rfl fun a s=>?_
       exact ⟨rv2955,c2959,p2956,k2957,Sv2962,u,wj s d [2,3,0] [5,6,0]⟩
      exact sk ⟨sv2521.1,c2681,p2682,k2683,Sv2880,u,wj s d [0,1,2] [0,1,2]⟩
     rintro a w ⟨better2927,c2923,p2924,k2925,Sv2926,u,s,d⟩
     refine l8 (tn (wp_region_lit (rn0 2 s rfl fun a s=>?_)))
     obtain ⟨k2929,h2928,u⟩:=bt u
     refine sv s (o8 rfl h2928) rfl fun a s=>?_
     exact nl ⟨_,io u,c2923,p2924,k2925,Sv2926,wj s d [0,1,2] [0,1,2]⟩
    refine wp_exit (j5 (j5 (o9 ?_)))
    obtain rfl:=oi u
    have h2967:=hd2763 _ rfl
    subst h2967
    exact tn ⟨c2681,p2682,k2683,Sv2684,wj s d [0,1,2] [0,1,2]⟩
   rintro a w ⟨c2767,p2768,k2769,Sv2770,s,d⟩
   refine tn (sz0 1 s rfl fun a s=>?_)
   refine sz0 1 s rfl fun a s=>?_
   obtain ⟨e3330,h3640,u⟩:=bt u
   refine q8 (fun a w=>∃ c3331 p3332 k3333 Sv3334,Sl 119 [(4,sl p16 k17 rv15),(5,sl p3332 k3333 e3330),(6,iv sv25.2)] a∧Wd ⟨w0,S0,[]⟩ Sv3334 [.row p16 rv15.length k17 c19 56 12,.row p3332 e3330.length k3333 c3331 56 12] [l7 c19 rv15,l7 c3331 e3330] w) ?_ ?_
   ·refine wp_block ?_
    obtain ⟨Sv3328,d⟩:=D6 (α:=Span) d 2 rfl 2 rfl
    refine u7 (fun sv2968 a w=>∃ c3206 p3207 k3208 Sv3209,Sl 119 [(4,sl p16 k17 rv15),(5,sl p3207 k3208 sv2968.1),(6,iv sv25.2),(7,sl p2768 k2769 e2766),(11,iv sv2968.2.1),(12,iv sv2968.2.2)] a∧Wd ⟨w0,S0,[]⟩ Sv3209 [.row p16 rv15.length k17 c19 56 12,.row p3207 sv2968.1.length k3208 c3206 56 12] [Sq p2768 k2769 e2766,l7 c19 rv15,l7 c3206 sv2968.1] w) (sv25.1,(-1),0) h3640 ⟨c1270,p1271,k1272,Sv3328,wj s d [0,1] [0,1,2]⟩ ?_
    clear h3640
    repeat clear u
    rintro sv2968 a w tv3327 ⟨c3206,p3207,k3208,Sv3209,s,d⟩ u hd3326
    refine wp_seq (sn0 3 s rfl fun a s=>?_)
    obtain ⟨x3337,h3335,u⟩:=bt u
    obtain ⟨b3344,q3341,c3342,h3345,h3338,h3339,h3343,h3336⟩:=d.elemRV (α:=Record) 0 rfl 1 rfl h3335
    have hsv3346:=s
    have hwv3347:=d
    subst h3345
    have s:=hsv3346
    have d:=hwv3347
    obtain ⟨_,_,_,_,_,_,_,_,_,_,_,_,rfl,rfl,rfl,rfl,rfl,rfl,rfl,rfl,rfl,rfl,rfl,rfl,⟨p3348,n3349,k3350,rfl,h3351⟩⟩:=h3336
    obtain rfl:=h3351.1
    have d:=d.addE (e:=SlA p3348 _ k3350 x3337.Samples) h3351
    refine sv s (o6 runUnderlying28 sizeOf56 rfl rfl h3338.1 h3338.2 h3339) rfl fun a s=>?_
    refine sv s (l5 (o':=q3341+11) runUnderlying56 rfl sizeOf22 rfl rfl rfl) rfl fun a s=>?_
    refine sv s (A7 (j:=11) (d.ownAt 0 rfl) rfl isAgg22 h3343 rfl) rfl fun a s=>?_
    refine rz0 2 s rfl fun a s=>?_
    refine cd s u rfl (fun u=>?_) fun u=>?_
    ·refine sk (wp_seq (wp_block (wp_seq ?_)))
     obtain ⟨x3452,h3450,u⟩:=bt u
     obtain ⟨q3456,c3457,h3453,h3454,h3458,h3451⟩:=d.elemRK (α:=Record) 0 rfl 2 rfl h3450
     obtain ⟨_,_,_,_,_,_,_,_,_,_,_,_,rfl,rfl,rfl,rfl,rfl,rfl,rfl,rfl,rfl,rfl,rfl,rfl,⟨p3459,n3460,k3461,rfl,h3462⟩⟩:=h3451
     obtain rfl:=h3462.1
     have d:=d.addE (e:=SlA p3459 _ k3461 x3452.Samples) h3462
     obtain ⟨c3499,hc3499,u⟩:=bt u
     refine A9 (fun a w=>∃ Sv3500,Sl 119 [(4,sl (ad b3344) k17 rv15),(5,sl p3207 k3208 sv2968.1),(6,iv sv25.2),(7,sl p2768 k2769 e2766),(11,iv sv2968.2.1),(12,iv sv2968.2.2),(13,.bool c3499)] a∧Wd ⟨w0,S0,[]⟩ Sv3500 [.row (ad b3344) rv15.length k17 c19 56 12,.row p3207 sv2968.1.length k3208 c3206 56 12] [Sq p2768 k2769 e2766,l7 c19 rv15,l7 c3206 sv2968.1] w) ?_ ?_
     ·rcases Bool.eq_false_or_eq_true (decide (sv2968.2.2<(x3452.Samples.length:Int))) with h3501 | h3501
      ·have h3502:=E9 hc3499 h3501
       obtain ⟨x3505,h3503,h3502⟩:=H5 h3502
       obtain ⟨q3509,c3510,h3506,h3507,h3511,h3504⟩:=d.elemRK (α:=Record) 0 rfl 3 rfl h3503
       obtain ⟨_,_,_,_,_,_,_,_,_,_,_,_,rfl,rfl,rfl,rfl,rfl,rfl,rfl,rfl,rfl,rfl,rfl,rfl,⟨p3512,n3513,k3514,rfl,h3515⟩⟩:=h3504
       obtain rfl:=h3515.1
       have d:=d.addE (e:=SlA p3512 _ k3514 x3505.Samples) h3515
       obtain ⟨rv3517,h3516,h3502⟩:=H5 h3502
       obtain ⟨x3520,h3518,h3502⟩:=H5 h3502
       obtain ⟨q3524,c3525,h3521,h3522,h3526,h3519⟩:=d.elemRK (α:=Record) 0 rfl 4 rfl h3518
       obtain ⟨_,_,_,_,_,_,_,_,_,_,_,_,rfl,rfl,rfl,rfl,rfl,rfl,rfl,rfl,rfl,rfl,rfl,rfl,⟨p3527,n3528,k3529,rfl,h3530⟩⟩:=h3519
       obtain rfl:=h3530.1
       have d:=d.addE (e:=SlA p3527 _ k3529 x3520.Samples) h3530
       obtain ⟨rv3532,h3531,h3502⟩:=H5 h3502
       obtain ⟨rv3534,h3533,h3502⟩:=H5 h3502
       refine h_c [0,1] [] d rfl rfl (by kernel_rfl) rfl fun hC d=>?_
       refine gn 3 [0,1,2] [] s hC rfl rfl rfl fun a s=>?_
       refine gx s 3 rfl trivial rfl hC runUnderlying28 sizeOf56 rfl rfl h3453 h3454 fun a s=>?_
       refine gv s 4 rfl rfl hC (fun w hC=>l5 (o':=q3456+11) runUnderlying56 rfl sizeOf22 rfl rfl rfl) fun a s=>?_
       refine gv s 5 rfl rfl hC (fun w hC=>A7 (j:=11) (hC.ownAt 0 rfl) rfl isAgg22 h3458 rfl) fun a s=>?_
       refine gn 3 [6,7,8] [] s hC rfl rfl rfl fun a s=>?_
       have s:=s.bT 72 rfl h3501
       refine gn 3 [9,10,11] [] s hC rfl rfl rfl fun a s=>?_
       refine gx s 12 rfl ⟨_,rfl,rfl⟩ rfl hC runUnderlying28 sizeOf56 rfl rfl h3506 h3507 fun a s=>?_
       refine gt s 13 rfl ⟨_,rfl,rfl⟩ rfl hC (fun w hC=>I1 (j:=0) (hC.ownAt 0 rfl) rfl isAgg56 sizeOf56 h3511 rfl rfl) fun a s=>?_
       refine gn 3 [14,16,17] [] s hC rfl rfl rfl fun a s=>?_
       refine gx s 18 rfl ⟨_,rfl,rfl⟩ rfl hC runUnderlying28 sizeOf56 rfl rfl h3521 h3522 fun a s=>?_
       refine gt s 19 rfl ⟨_,rfl,rfl⟩ rfl hC (fun w hC=>I1 (j:=0) (hC.ownAt 0 rfl) rfl isAgg56 sizeOf56 h3526 rfl rfl) fun a s=>?_
       refine gn 2 [20,21] [] s hC rfl rfl rfl fun a s=>?_
       refine ho 15 rfl ?_
       refine x9 s (J9 h3516 d.bdom (d.bE 1 rfl)) (j3 call62 rfl) ⟨_,rfl,rfl⟩ rfl rfl ?_
       rintro v3542 Sv3539 w a h3540 rfl s
       have d:=d.callB h3540
       refine h_n [0,1] [] d rfl rfl fun hC=>?_
       refine ho 22 rfl ?_
       refine x9 s (J9 h3531 d.bdom (d.bE 0 rfl)) (j3 call62 rfl) ⟨_,rfl,rfl⟩ rfl rfl ?_
       rintro v3547 Sv3544 w a h3545 rfl s
       have d:=d.callB h3545
       refine h_n [0,1] [] d rfl rfl fun hC=>?_
       refine ho 23 rfl ?_
       refine x9 s (b3J h3533 d.dom (d.envAt 4 rfl)) (j3 call21 rfl) ⟨_,rfl,rfl⟩ rfl rfl ?_
       rintro v3552 Sv3549 w a h3550 ⟨p3535,k3536,c3538,rfl,h3553,h3537⟩ s
       have d:=(d.callN h3550 h3553).addE (e:=l7 c3538 rv3534) h3537
       refine h_n [1,2] [] d rfl rfl fun hC=>?_
       refine h_d [1,2,0] [] [0,1] [] d rfl rfl rfl rfl fun hC=>?_
       refine gn 2 [24,25] [] s hC rfl rfl rfl fun a s=>?_
       refine gT s 26 rfl rfl hC rfl rfl h3502 fun a s=>?_
       refine gv s 27 rfl rfl hC (fun w hC=>R8 rfl) fun a s=>?_
       refine y7 (by kernel_rfl) ?_
       exact ⟨Sv3549,wj s d [1,2] [5,6,7]⟩
      have h3554:=F7 hc3499 h3501
      refine h_c [0,1] [] d rfl rfl (by kernel_rfl) rfl fun hC d=>?_
      refine gn 3 [0,1,2] [] s hC rfl rfl rfl fun a s=>?_
      refine gx s 3 rfl trivial rfl hC runUnderlying28 sizeOf56 rfl rfl h3453 h3454 fun a s=>?_
      refine gv s 4 rfl rfl hC (fun w hC=>l5 (o':=q3456+11) runUnderlying56 rfl sizeOf22 rfl rfl rfl) fun a s=>?_
      refine gv s 5 rfl rfl hC (fun w hC=>A7 (j:=11) (hC.ownAt 0 rfl) rfl isAgg22 h3458 rfl) fun a s=>?_
      refine gn 3 [6,7,8] [] s hC rfl rfl rfl fun a s=>?_
      have s:=s.bF 72 rfl h3501
      refine gn 17 [9,10,11,12,13,14,15,16,17,18,19,20,21,22,23,24,25] [] s hC rfl rfl rfl fun a s=>?_
      refine gF s 26 rfl rfl hC rfl rfl h3554 fun a s=>?_
      refine gv s 27 rfl rfl hC (fun w hC=>R8 rfl) fun a s=>?_
      refine y7 (by kernel_rfl) ?_
      exact ⟨Sv3209,wj s d [0,1] [2,3,4]⟩
     rintro a w ⟨Sv3500,s,d⟩
     refine tn (wp_seq (sn0 2 s rfl fun a s=>?_))
     refine rA 3 92 [] s d rfl rfl rfl rfl rfl fun a s=>?_
     refine nl (q8 (fun a w=>∃ (first3558:Int) (Sv3557:_),a3e rv15 sv25 sv2968 c3499 first3558=some tv3327∧Sl 119 [(4,sl (ad b3344) k17 rv15),(5,sl p3207 k3208 sv2968.1),(6,iv sv25.2),(7,sl p2768 k2769 e2766),(11,iv first3558),(12,iv sv2968.2.2),(13,.bool c3499)] a∧Wd ⟨w0,S0,[]⟩ Sv3557 [.row (ad b3344) rv15.length k17 c19 56 12,.row p3207 sv2968.1.length k3208 c3206 56 12] [Sq p2768 k2769 e2766,l7 c19 rv15,l7 c3206 sv2968.1] w) ?_ ?_)
     ·refine cd s u rfl (fun u=>?_) fun u=>?_
      ·refine wp_region_lit (rz0 2 s rfl fun a s=>?_)
       exact ⟨sv2968.2.2,Sv3500,u,wj s d [0,1] [0,1,2]⟩
      exact sk ⟨sv2968.2.1,Sv3500,u,wj s d [0,1] [0,1,2]⟩
     rintro a w ⟨first3558,Sv3557,u,s,d⟩
     refine tn (sn0 3 s rfl fun a s=>?_)
     refine rA 3 99 [] s d rfl rfl rfl rfl rfl fun a s=>?_
     refine nl (q8 (fun a w=>∃ (out3598:(List Record)) (first3599:Int) (c3594 p3595 k3596 Sv3597:_),a3f sv2968 out3598 first3599=some tv3327∧Sl 119 [(4,sl (ad b3344) k17 rv15),(5,sl p3595 k3596 out3598),(6,iv sv25.2),(7,sl p2768 k2769 e2766),(11,iv first3599),(12,iv sv2968.2.2)] a∧Wd ⟨w0,S0,[]⟩ Sv3597 [.row (ad b3344) rv15.length k17 c19 56 12,.row p3595 out3598.length k3596 c3594 56 12] [Sq p2768 k2769 e2766,l7 c19 rv15,l7 c3594 out3598] w) ?_ ?_)
     ·refine cd s u rfl (fun u=>?_) fun u=>?_
      ·refine sn0 2 s rfl fun a s=>?_
       obtain ⟨x3605,h3603,u⟩:=bt u
       obtain ⟨q3609,c3610,h3606,h3607,h3611,h3604⟩:=d.elemRK (α:=Record) 0 rfl 1 rfl h3603
       obtain ⟨_,_,_,_,_,_,_,_,_,_,_,_,rfl,rfl,rfl,rfl,rfl,rfl,rfl,rfl,rfl,rfl,rfl,rfl,⟨p3612,n3613,k3614,rfl,h3615⟩⟩:=h3604
       obtain rfl:=h3615.1
       have d:=d.addE (e:=SlA p3612 _ k3614 x3605.Samples) h3615
       refine sv s (o6 runUnderlying28 sizeOf56 rfl rfl h3606.1 h3606.2 h3607) rfl fun a s=>?_
       refine sv s (I1 (j:=0) (d.ownAt 0 rfl) rfl isAgg56 sizeOf56 h3611 rfl rfl) rfl fun a s=>?_
       refine rn0 2 s rfl fun a s=>?_
       obtain ⟨rv3617,h3616,u⟩:=bt u
       refine cR s (b0c h3616 d.dom (d.envAt 0 rfl)) (j3 call68 rfl) rfl ?_
       rintro v3625 Sv3622 w a h3623 ⟨p3618,k3619,c3621,rfl,h3626,h3620⟩ s
       have d:=(d.callN h3623 h3626).addE (e:=l7 c3621 rv3617.1.Samples) h3620
       refine rn0 3 s rfl fun a s=>?_
       refine wa Z0 s d zeroValue56 fun b3627 a w s d=>?_
       refine ws (C56 rv3617.1 p3618 k3619) s d 0 rfl rfl rfl sizeOf56 fun a w s d=>?_
       refine rz0 1 s rfl fun a s=>?_
       refine sn 2 [0] s d rfl rfl fun a s=>?_
       obtain ⟨Sv3630,d⟩:=D6 (α:=Int) d 1 rfl 0 rfl
       refine o7 (α:=Record) (vs:=[V56 rv3617.1 p3618 k3619]) (cs:=(C56 rv3617.1 p3618 k3619)) (xs:=([rv3617.1]:List Record)) s d a9F rfl rfl rfl rfl rfl rfl ⟨⟨_,_,_,_,_,_,_,_,_,_,_,_,rfl,rfl,rfl,rfl,rfl,rfl,rfl,rfl,rfl,rfl,rfl,rfl,⟨_,_,_,rfl,d.envAt 0 rfl⟩⟩,rfl⟩ rfl trivial rfl fun b3629 a w s d=>?_
       obtain ⟨l3632,h3631,u⟩:=bt u
       refine F4 (α:=Record) s d a9F 3 rfl rfl rfl 6 rfl 0 rfl 0 rfl h3631 rfl trivial ?_
       intro p3633 k3634 c3635 a w s d
       refine rz0 1 s rfl fun a s=>?_
       refine wp_region_lit (rz0 1 s rfl fun a s=>?_)
       exact ⟨l3632,(-1),c3635,p3633,k3634,Sv3630,u,wj s d [2,3] [5,6,0]⟩
      exact sk ⟨sv2968.1,first3558,c3206,p3207,k3208,Sv3557,u,wj s d [0,1] [0,1,2]⟩
     rintro a w ⟨out3598,first3599,c3594,p3595,k3596,Sv3597,u,s,d⟩
     refine l8 (tn (wp_region_lit (rn0 2 s rfl fun a s=>?_)))
     obtain ⟨j3601,h3600,u⟩:=bt u
     refine sv s (o8 rfl h3600) rfl fun a s=>?_
     exact nl ⟨_,io u,c3594,p3595,k3596,Sv3597,wj s d [0,1] [0,1,2]⟩
    refine wp_exit (j5 (j5 (o9 ?_)))
    obtain rfl:=oi u
    have h3637:=hd3326 _ rfl
    subst h3637
    exact tn ⟨c3206,p3207,k3208,Sv3209,wj s d [0,1] [2,3]⟩
   rintro a w ⟨c3331,p3332,k3333,Sv3334,s,d⟩
   refine l8 (tn (wp_region_lit (rn0 2 s rfl fun a s=>?_)))
   obtain ⟨i3639,h3638,u⟩:=bt u
   refine sv s (o8 rfl h3638) rfl fun a s=>?_
   exact nl ⟨_,io u,c3331,p3332,k3333,Sv3334,wj s d [0,1] [0,1]⟩
  refine wp_exit (j5 (j5 (o9 ?_)))
  obtain rfl:=oi u
  have h3642:=hd1894 _ rfl
  subst h3642
  exact tn ⟨c1270,p1271,k1272,Sv1273,wj s d [1] [1]⟩
 rintro a w ⟨c1898,p1899,k1900,Sv1901,s,d⟩
 refine tn (sn0 1 s rfl fun a s=>?_)
 obtain ⟨rv3644,h3643,u⟩:=bt u
 obtain ⟨Sv3649,d⟩:=D6 (α:=Record) d 0 rfl 0 rfl
 refine cR s (a6e h3643 d.dom (d.envAt 0 rfl)) (j3 call59 rfl) rfl ?_
 rintro v3653 Sv3650 w a h3651 ⟨p3645,k3646,c3648,rfl,h3654,h3647⟩ s
 have d:=(d.callN h3651 h3654).addE (e:=l7 c3648 rv3644) h3647
 refine rz0 2 s rfl fun a s=>?_
 obtain rfl:=oi u
 exact wp_ret (Q8 s rfl (q9 rfl) (q9 rfl) (d.ret ⟨p3645,k3646,c3648,rfl,(d.outs [0] (by decide) rfl),(d.envAt 0 rfl)⟩))
theorem a4q {w0 S0 p2 k3 s1 r} (u:a0p s1=some r) (hS:Dm S0 w0) (h4:(Sq p2 k3 s1.Samples).p S0 w0):Ck Tryz.prog 69 #[V64 s1 p2 k3] w0 S0 [] a5T r:=by
 refine en 15 func69 rfl hS rfl rfl rfl fun a s d=>?_
 have d:=d.addE h4
 refine sr (wb (C64 s1 p2 k3) s d rfl fun b5 a w s d=>?_)
 refine wa Z0 s d zeroValue56 fun b6 a w s d=>?_
 refine nl (sr (sv s (D7 (vs:=[(0,.string (⟨#[65]⟩:ByteArray)),(1,.string (⟨#[65]⟩:ByteArray)),(3,.string (⟨#[65,65,65]⟩:ByteArray))]) Bld52 rfl rfl) rfl fun a s=>?_))
 refine rn 10 [1,1,1,1,1] s d rfl rfl fun a s=>?_
 refine sv s (D7 (vs:=[(0,.agg #[.string (⟨#[65]⟩:ByteArray),.string (⟨#[65]⟩:ByteArray),.string ByteArray.empty,.string (⟨#[65,65,65]⟩:ByteArray)]),(1,iv s1.Start),(2,iv s1.First),(3,V54 s1.Rate),(4,iv s1.Error),(7,sl p2 k3 s1.Samples)]) a6s rfl rfl) rfl fun a s=>?_
 refine ws (C56 ⟨⟨(⟨#[65]⟩:ByteArray),(⟨#[65]⟩:ByteArray),ByteArray.empty,(⟨#[65,65,65]⟩:ByteArray)⟩,s1.Start,s1.First,s1.Rate,s1.Error,0,0,s1.Samples⟩ p2 k3) s d 0 rfl rfl rfl sizeOf56 fun a w s d=>?_
 refine nl ?_
 obtain rfl:=oi u
 exact wp_ret (b2m s rfl (K4 d 0 rfl rfl isAgg56 sizeOf56 rfl) (d.ret ⟨p2,k3,rfl,(d.envAt 0 rfl)⟩))
theorem a2m {w0 S0 p2 k3 s1 r} (u:V4 s1=some r) (hS:Dm S0 w0) (h4:(Sq p2 k3 s1.Samples).p S0 w0):Ck Tryz.prog 27 #[V64 s1 p2 k3] w0 S0 [] u6 r:=by
 refine en 6 func27 rfl hS rfl rfl rfl fun a s d=>?_
 have d:=d.addE h4
 refine sr (wb (C64 s1 p2 k3) s d rfl fun b5 a w s d=>?_)
 refine rz0 1 s rfl fun a s=>?_
 refine sn 1 [0] s d rfl rfl fun a s=>?_
 obtain ⟨rv7,h6,u⟩:=bt u
 refine cR s (a4q h6 d.dom (d.envAt 0 rfl)) (j3 call69 rfl) rfl ?_
 rintro v14 Sv11 w a h12 ⟨p8,k9,rfl,h10⟩ s
 have d:=(d.call h12).addE (e:=Sq p8 k9 rv7.Samples) h10
 obtain ⟨rv17,h16,u⟩:=bt u
 refine cV s d (X8 h16 d.bdom (d.bE 0 rfl)) (j3 call60 rfl) rfl fun a w s d=>?_
 refine rz0 1 s rfl fun a s=>?_
 obtain rfl:=oi u
 exact q1 s rfl (d.ret rfl)
theorem a6F {w0 S0 p2 k3 l1 tolerance5 r} (u:a1k l1 tolerance5=some r) (hS:Dm S0 w0) (h4:(Sq p2 k3 l1).p S0 w0):Ck Tryz.prog 40 #[sl p2 k3 l1,iv tolerance5] w0 S0 [] a0h r:=by
 refine en 137 func40 rfl hS rfl rfl rfl fun a s d=>?_
 have d:=d.addE h4
 refine sz0 2 s rfl fun a s=>?_
 refine sn0 1 s rfl fun a s=>?_
 obtain ⟨rv7,h6,u⟩:=bt u
 refine cR s (b0O h6 d.dom (d.envAt 0 rfl)) (j3 call26 rfl) rfl ?_
 rintro v15 Sv12 w a h13 ⟨p8,k9,c11,rfl,h16,h10⟩ s
 have d:=(d.callN h13 h16).addE (e:=l7 c11 rv7.1) h10
 refine rz0 5 s rfl fun a s=>?_
 refine wp_seq (sz0 2 s rfl fun a s=>?_)
 refine cd s u rfl (fun u=>?_) fun u=>?_
 ·refine sz0 3 s rfl fun a s=>?_
  obtain rfl:=oi u
  have d:=d.nilRow Segment 64
  exact wp_ret (j6 (Q8 s rfl (q9 rfl) (q9 rfl) (d.ret ⟨none,0,[],rfl,(d.outs [0] (by decide) rfl),(d.envAt 0 rfl)⟩)))
 refine sk (wp_seq (sn0 1 s rfl fun a s=>?_))
 obtain ⟨rv20,h19,u⟩:=bt u
 refine cV s d (O1 h19 d.bdom) (j3 call61 rfl) rfl fun a w s d=>?_
 refine rz0 1 s rfl fun a s=>?_
 refine cd s u rfl (fun u=>?_) fun u=>?_
 ·refine sz0 2 s rfl fun a s=>?_
  obtain rfl:=oi u
  have d:=d.nilRow Segment 64
  exact wp_ret (j6 (Q8 s rfl (q9 rfl) (q9 rfl) (d.ret ⟨none,0,[],rfl,(d.outs [0] (by decide) rfl),(d.envAt 0 rfl)⟩)))
 refine sk (sz0 1 s rfl fun a s=>?_)
 refine sz0 2 s rfl fun a s=>?_
 refine wp_seq (sz0 1 s rfl fun a s=>?_)
 obtain ⟨e668,h1158,u⟩:=bt u
 refine q8 (fun a w=>∃ c669 p670 k671 Sv672,Sl 137 [(8,sl p670 k671 e668)] a∧Wd ⟨w0,S0,[]⟩ Sv672 [.row p670 e668.length k671 c669 64 6] [l7 c669 e668] w) ?_ ?_
 ·refine wp_block ?_
  have d:=d.nilRow Segment 64
  refine u7 (fun sv28 a w=>∃ c503 p504 k505 Sv506,Sl 137 [(1,iv tolerance5),(6,sl p8 k9 rv7.1),(8,sl p504 k505 sv28.1),(9,iv sv28.2.1),(10,iv sv28.2.2.1),(11,iv sv28.2.2.2)] a∧Wd ⟨w0,S0,[]⟩ Sv506 [.row p8 rv7.1.length k9 c11 56 12,.row p504 sv28.1.length k505 c503 64 6] [l7 c11 rv7.1,l7 c503 sv28.1] w) (([]:List Segment),0,0,0) h1158 ⟨[],none,0,Sv12,wj s d [1,0] [1,0]⟩ ?_
  clear h1158
  repeat clear u
  rintro sv28 a w tv666 ⟨c503,p504,k505,Sv506,s,d⟩ u hd665
  refine wp_seq (sz0 4 s rfl fun a s=>?_)
  refine cd s u rfl (fun u=>?_) fun u=>?_
  ·refine sk (wp_seq (q8 (fun a w=>∃ (out827:(List Segment)) (worst828:Int) (off829:Int) (c823 p824 k825 Sv826:_),a0N sv28 out827 worst828 off829=some tv666∧Sl 137 [(1,iv tolerance5),(6,sl p8 k9 rv7.1),(8,sl p824 k825 out827),(9,iv worst828),(10,iv off829),(11,iv sv28.2.2.2)] a∧Wd ⟨w0,S0,[]⟩ Sv826 [.row p8 rv7.1.length k9 c11 56 12,.row p824 out827.length k825 c823 64 6] [l7 c11 rv7.1,l7 c823 out827] w) ?_ ?_))
   ·refine wp_block (sn0 2 s rfl fun a s=>?_)
    obtain ⟨x834,h832,u⟩:=bt u
    obtain ⟨b841,q838,c839,h842,h835,h836,h840,h833⟩:=d.elemRV (α:=Record) 0 rfl 0 rfl h832
    have hsv843:=s
    have hwv844:=d
    subst h842
    have s:=hsv843
    have d:=hwv844
    obtain ⟨_,_,_,_,_,_,_,_,_,_,_,_,rfl,rfl,rfl,rfl,rfl,rfl,rfl,rfl,rfl,rfl,rfl,rfl,⟨p845,n846,k847,rfl,h848⟩⟩:=h833
    obtain rfl:=h848.1
    have d:=d.addE (e:=SlA p845 _ k847 x834.Samples) h848
    refine sv s (o6 runUnderlying28 sizeOf56 rfl rfl h835.1 h835.2 h836) rfl fun a s=>?_
    refine sv s (I1 (j:=0) (d.ownAt 0 rfl) rfl isAgg56 sizeOf56 h840 rfl rfl) rfl fun a s=>?_
    refine wa Z0 s d zeroValue56 fun b849 a w s d=>?_
    refine ws (C56 x834 p845 k847) s d 0 rfl rfl rfl sizeOf56 fun a w s d=>?_
    refine nl (wp_seq (sn0 2 s rfl fun a s=>?_))
    obtain ⟨n851,h850,u⟩:=bt u
    refine sv s (o8 rfl h850) rfl fun a s=>?_
    refine nl (wp_seq ?_)
    obtain ⟨c869,hc869,u⟩:=bt u
    refine A9 (fun a w=>∃ Sv870,Sl 137 [(1,iv tolerance5),(6,sl (ad b841) k9 rv7.1),(8,sl p504 k505 sv28.1),(9,iv sv28.2.1),(10,iv sv28.2.2.1),(11,iv sv28.2.2.2),(12,pt b849),(13,iv n851),(55,.bool c869)] a∧Wd ⟨w0,S0,[]⟩ Sv870 [.box b849 (C56 x834 p845 k847) 56,.row (ad b841) rv7.1.length k9 c11 56 12,.row p504 sv28.1.length k505 c503 64 6] [Sq p845 k847 x834.Samples,l7 c11 rv7.1,l7 c503 sv28.1] w) ?_ ?_
    ·rcases Bool.eq_false_or_eq_true (decide (0<n851)) with h871 | h871
     ·have h872:=E9 hc869 h871
      obtain ⟨x875,h873,h872⟩:=H5 h872
      obtain ⟨b882,q879,c880,h883,h876,h877,h881,h874⟩:=d.elemRV (α:=Segment) 2 rfl 2 rfl h873
      have hsv884:=s
      have hwv885:=d
      subst h883
      have s:=hsv884
      have d:=hwv885
      obtain ⟨_,_,_,_,_,_,rfl,rfl,rfl,rfl,rfl,rfl,⟨p886,n887,k888,rfl,h889⟩⟩:=h874
      obtain rfl:=h889.1
      have d:=d.addE (e:=SlA p886 _ k888 x875.Samples) h889
      refine h_c [0,1,2] [] d rfl rfl (by kernel_rfl) rfl fun hC d=>?_
      refine gn 3 [0,1,2] [] s hC rfl rfl rfl fun a s=>?_
      have s:=s.bT 45 rfl h871
      refine gn 3 [3,4,5] [] s hC rfl rfl rfl fun a s=>?_
      refine gx s 6 rfl ⟨_,rfl,rfl⟩ rfl hC runUnderlying60 sizeOf64 rfl rfl h876 h877 fun a s=>?_
      refine gt s 7 rfl ⟨_,rfl,rfl⟩ rfl hC (fun w hC=>l5 (o':=q879+2) runUnderlying64 rfl sizeOf54 rfl rfl rfl) fun a s=>?_
      refine gt s 8 rfl ⟨_,rfl,rfl⟩ rfl hC (fun w hC=>I1 (j:=2) (hC.ownAt 2 rfl) rfl isAgg54 sizeOf54 h881 rfl rfl) fun a s=>?_
      refine gn 2 [9,10] [0] s hC rfl rfl rfl fun a s=>?_
      refine gt s 11 rfl ⟨_,rfl,rfl⟩ rfl hC (fun w hC=>b2x (by kernel_rfl) rfl rfl (R4 runUnderlying54 (by kernel_rfl) (EqF.cons1 rfl isAgg3 rfl rfl (Q6 runUnderlying3) (EqF.cons1 rfl isAgg3 rfl rfl (Q6 runUnderlying3) EqF.nil)))) fun a s=>?_
      refine gT s 12 rfl rfl hC rfl rfl h872 fun a s=>?_
      refine y7 (by kernel_rfl) ?_
      exact ⟨Sv506,wj s d [0,1,2] [1,2,3]⟩
     have h890:=F7 hc869 h871
     refine h_c [0,1,2] [] d rfl rfl (by kernel_rfl) rfl fun hC d=>?_
     refine gn 3 [0,1,2] [] s hC rfl rfl rfl fun a s=>?_
     have s:=s.bF 45 rfl h871
     refine gn 9 [3,4,5,6,7,8,9,10,11] [] s hC rfl rfl rfl fun a s=>?_
     refine gF s 12 rfl rfl hC rfl rfl h890 fun a s=>?_
     refine y7 (by kernel_rfl) ?_
     exact ⟨Sv506,wj s d [0,1,2] [0,1,2]⟩
    rintro a w ⟨Sv870,s,d⟩
    refine tn (q8 (fun a w=>∃ Sv986,a0O sv28 x834=some tv666∧Sl 137 [(1,iv tolerance5),(6,sl (ad b841) k9 rv7.1),(8,sl p504 k505 sv28.1),(11,iv sv28.2.2.2),(12,pt b849)] a∧Wd ⟨w0,S0,[]⟩ Sv986 [.box b849 (C56 x834 p845 k847) 56,.row (ad b841) rv7.1.length k9 c11 56 12,.row p504 sv28.1.length k505 c503 64 6] [Sq p845 k847 x834.Samples,l7 c11 rv7.1,l7 c503 sv28.1] w) ?_ ?_)
    ·refine cd s u rfl (fun u=>?_) fun u=>?_
     ·refine sn0 3 s rfl fun a s=>?_
      obtain ⟨x1004,h1002,u⟩:=bt u
      obtain ⟨b1011,q1008,c1009,h1012,h1005,h1006,h1010,h1003⟩:=d.elemRV (α:=Segment) 2 rfl 2 rfl h1002
      have hsv1013:=s
      have hwv1014:=d
      subst h1012
      have s:=hsv1013
      have d:=hwv1014
      obtain ⟨_,_,_,_,_,_,rfl,rfl,rfl,rfl,rfl,rfl,⟨p1015,n1016,k1017,rfl,h1018⟩⟩:=h1003
      obtain rfl:=h1018.1
      have d:=d.addE (e:=SlA p1015 _ k1017 x1004.Samples) h1018
      refine sv s (o6 runUnderlying60 sizeOf64 rfl rfl h1005.1 h1005.2 h1006) rfl fun a s=>?_
      refine sv s (I1 (j:=0) (d.ownAt 2 rfl) rfl isAgg64 sizeOf64 h1010 rfl rfl) rfl fun a s=>?_
      refine wa Z19 s d zeroValue64 fun b1019 a w s d=>?_
      refine ws (C64 x1004 p1015 k1017) s d 0 rfl rfl rfl sizeOf64 fun a w s d=>?_
      refine nl (sn 10 [0,0,0,0] s d rfl rfl fun a s=>?_)
      obtain ⟨rv1021,h1020,u⟩:=bt u
      refine cV s d (a9g h1020 d.bdom) (j3 call28 rfl) rfl fun a w s d=>?_
      refine rz0 5 s rfl fun a s=>?_
      refine sn 1 [1] s d rfl rfl fun a s=>?_
      obtain ⟨rv1028,h1027,u⟩:=bt u
      refine cV s d (J9 h1027 d.bdom (d.bE 1 rfl)) (j3 call62 rfl) rfl fun a w s d=>?_
      refine rn0 2 s rfl fun a s=>?_
      obtain ⟨d1035,h1034,u⟩:=bt u
      refine sv s (o8 rfl h1034) rfl fun a s=>?_
      refine nl (sn0 3 s rfl fun a s=>?_)
      obtain ⟨c1044,hc1044,u⟩:=bt u
      refine C7 6 (fun a w=>∃ Sv1045,Sl 137 [(1,iv tolerance5),(6,sl (ad b841) k9 rv7.1),(8,sl (ad b1011) k505 sv28.1),(9,iv sv28.2.1),(10,iv sv28.2.2.1),(11,iv sv28.2.2.2),(12,pt b849),(13,iv n851),(14,pt b1019),(17,iv d1035),(87,.bool c1044)] a∧Wd ⟨w0,S0,[]⟩ Sv1045 [.box b849 (C56 x834 p845 k847) 56,.box b1019 (C64 x1004 p1015 k1017) 64,.row (ad b841) rv7.1.length k9 c11 56 12,.row (ad b1011) sv28.1.length k505 c503 64 6] [Sq p845 k847 x834.Samples,Sq p1015 k1017 x1004.Samples,l7 c11 rv7.1,l7 c503 sv28.1] w) ?_ ?_
      ·rcases Bool.eq_false_or_eq_true (rv1021.2 == 0) with h1043 | h1043
       ·have s:=s.bT 81 rfl h1043
        have u:=E9 hc1044 h1043
        refine rn0 4 s rfl fun a s=>?_
        obtain ⟨rv1047,h1046,u⟩:=bt u
        refine x9 s (O1 h1046 d.bdom) (j3 call61 rfl) ⟨_,rfl,rfl⟩ rfl rfl ?_
        rintro v1051 Sv1048 w a h1049 rfl s
        have d:=d.callB h1049
        refine sv s (X4 rfl rfl) rfl fun a s=>?_
        refine wpList_nil ?_
        obtain rfl:=oi u
        exact tn ⟨Sv870,wj s d [1,0,2,3] [1,0,2,3]⟩
       have s:=s.bF 81 rfl h1043
       have u:=F7 hc1044 h1043
       refine rn0 6 s rfl fun a s=>?_
       refine wpList_nil ?_
       obtain rfl:=oi u
       exact tn ⟨Sv870,wj s d [1,0,2,3] [1,0,2,3]⟩
      rintro a w ⟨Sv1045,s,d⟩
      refine nl (q8 (fun a w=>∃ Sv1095,a0P sv28 x834=some tv666∧Sl 137 [(1,iv tolerance5),(6,sl (ad b841) k9 rv7.1),(8,sl (ad b1011) k505 sv28.1),(11,iv sv28.2.2.2),(12,pt b849)] a∧Wd ⟨w0,S0,[]⟩ Sv1095 [.box b849 (C56 x834 p845 k847) 56,.row (ad b841) rv7.1.length k9 c11 56 12,.row (ad b1011) sv28.1.length k505 c503 64 6] [Sq p845 k847 x834.Samples,l7 c11 rv7.1,l7 c503 sv28.1] w) ?_ ?_)
      ·refine cd s u rfl (fun u=>?_) fun u=>?_
       ·refine sn 10 [0] s d rfl rfl fun a s=>?_
        obtain ⟨wv1098,h1097,u⟩:=bt u
        refine sv s (o8 rfl h1097) rfl fun a s=>?_
        obtain ⟨o1100,h1099,u⟩:=bt u
        refine sv s (o8 rfl h1099) rfl fun a s=>?_
        refine nl (wp_seq ?_)
        obtain ⟨l1102,h1101,u⟩:=bt u
        obtain ⟨l1107,h1106,u⟩:=bt u
        refine A9 (fun a w=>∃ Sv1111 c1110 k1109 p1108,Sl 137 [(1,iv tolerance5),(6,sl (ad b841) k9 rv7.1),(8,sl (ad b1011) k505 sv28.1),(11,iv sv28.2.2.2),(12,pt b849),(13,iv n851),(14,pt b1019),(18,iv wv1098),(19,iv o1100)] a∧Wd ⟨w0,S0,[]⟩ Sv1111 [.box b849 (C56 x834 p845 k847) 56,.box b1019 (C64 ⟨x1004.Start,x1004.First,x1004.Rate,x1004.Error,l1107⟩ p1108 k1109) 64,.row (ad b841) rv7.1.length k9 c11 56 12,.row (ad b1011) sv28.1.length k505 c503 64 6,.row p1108 l1107.length k1109 c1110 3 1] [Sq p845 k847 x834.Samples,l7 c11 rv7.1,l7 c503 sv28.1,l7 c1110 l1107] w) ?_ ?_
        ·refine h_c [0,2,3] [] d rfl rfl (by kernel_rfl) rfl fun hC d=>?_
         refine gn 3 [0,3,4] [0] s hC rfl rfl rfl fun a s=>?_
         refine ho 1 rfl ?_
         refine sv s (I9 (d.ownAt 1 rfl) rfl isAgg22 rfl) rfl fun a s=>?_
         refine h_n [0,2,3] [] d rfl rfl fun hC=>?_
         refine ho 2 rfl ?_
         have d:=d.nilRow Int 3
         refine a1q (α:=Int) s d S9 0 rfl rfl rfl 0 rfl 2 rfl h1101 rfl trivial ?_
         intro p1103 k1104 c1105 a w s d
         refine h_n [1,3,4] [] d rfl rfl fun hC=>?_
         refine ho 5 rfl ?_
         refine a1q (α:=Int) s d S9 0 rfl rfl rfl 0 rfl 2 rfl h1106 rfl trivial ?_
         intro p1108 k1109 c1110 a w s d
         refine h_n [1,3,4] [] d rfl rfl fun hC=>?_
         refine gv s 6 rfl rfl hC (fun w hC=>l5 (o':=5) runUnderlying64 rfl sizeOf22 rfl rfl rfl) fun a s=>?_
         refine ho 7 rfl ?_
         refine ws (C64 ⟨x1004.Start,x1004.First,x1004.Rate,x1004.Error,l1107⟩ p1108 k1109) s d 2 rfl rfl rfl sizeOf22 fun a w s d=>?_
         refine h_n [1,3,4] [] d rfl rfl fun hC=>?_
         refine y7 (by kernel_rfl) ?_
         exact ⟨Sv1045,c1110,k1109,p1108,wj s d [1,2,3,4,0] [3,5,6,0]⟩
        rintro a w ⟨Sv1111,c1110,k1109,p1108,s,d⟩
        refine tn (sn0 5 s rfl fun a s=>?_)
        refine ws (C64 ⟨x1004.Start,x1004.First,x1004.Rate,(min (w64 (wv1098+o1100)) 1099511627776),l1107⟩ p1108 k1109) s d 1 rfl rfl rfl sizeOf3 fun a w s d=>?_
        refine nl (sn 1 [1] s d rfl rfl fun a s=>?_)
        obtain ⟨rv1113,h1112,u⟩:=bt u
        refine cV s d (a2m h1112 d.bdom (d.bRow 4 rfl 3 rfl)) (j3 call27 rfl) rfl fun a w s d=>?_
        refine nl (cd s u rfl (fun u=>?_) fun u=>?_)
        ·refine sn 6 [1] s d rfl rfl fun a s=>?_
         obtain ⟨x1141,h1139,u⟩:=bt u
         obtain ⟨q1145,c1146,h1142,h1143,h1147,h1140⟩:=d.elemRK (α:=Segment) 3 rfl 2 rfl h1139
         obtain ⟨_,_,_,_,_,_,rfl,rfl,rfl,rfl,rfl,rfl,⟨p1148,n1149,k1150,rfl,h1151⟩⟩:=h1140
         obtain rfl:=h1151.1
         have d:=d.addE (e:=SlA p1148 _ k1150 x1141.Samples) h1151
         refine sv s (o6 runUnderlying60 sizeOf64 rfl rfl h1142.1 h1142.2 h1143) rfl fun a s=>?_
         obtain ⟨l1153,h1152,u⟩:=bt u
         obtain ⟨Sv1156,d⟩:=D6 (α:=Int) d 4 rfl 4 rfl
         refine a2M (α:=Segment) s d 3 rfl 4 rfl h1143 rfl rfl sizeOf64 rfl h1152 ⟨_,_,_,_,_,_,rfl,rfl,rfl,rfl,rfl,rfl,⟨_,_,_,rfl,d.envAt 0 rfl⟩⟩ trivial ?_
         intro c1154 a w s d
         have h1155:=Y0 h1152
         try have s:=s.fl 8 rfl h1155
         try have s:=s.fl 112 rfl h1155
         refine rz0 2 s rfl fun a s=>?_
         exact wp_exit (j5 (j5 (j5 (o9 (tn ⟨l1153,wv1098,o1100,c1154,(ad b1011),k505,Sv1156,u,wj s d [2,3] [4,0]⟩)))))
        exact sk ⟨Sv1111,u,wj s d [0,2,3] [0,1,2]⟩
       exact sk ⟨Sv1045,u,wj s d [0,2,3] [0,2,3]⟩
      rintro a w ⟨Sv1095,u,s,d⟩
      exact tn ⟨Sv1095,u,wj s d [0,1,2] [0,1,2]⟩
     exact sk ⟨Sv870,u,wj s d [0,1,2] [0,1,2]⟩
    rintro a w ⟨Sv986,u,s,d⟩
    refine tn (wp_seq ?_)
    obtain ⟨l988,h987,u⟩:=bt u
    obtain ⟨l995,h994,u⟩:=bt u
    refine A9 (fun a w=>∃ Sv999 c998 k997 p996,Sl 137 [(1,iv tolerance5),(6,sl (ad b841) k9 rv7.1),(8,sl p996 k997 l995),(11,iv sv28.2.2.2),(12,pt b849)] a∧Wd ⟨w0,S0,[]⟩ Sv999 [.box b849 (C56 x834 p845 k847) 56,.row (ad b841) rv7.1.length k9 c11 56 12,.row p996 l995.length k997 c998 64 6] [Sq p845 k847 x834.Samples,l7 c11 rv7.1,l7 c998 l995] w) ?_ ?_
    ·refine h_c [0,1] [] d rfl rfl (by kernel_rfl) rfl fun hC d=>?_
     refine gn 11 [0,1,2,3,4,5,6,7,8,9,10] [0,0,0,0,0] s hC rfl rfl rfl fun a s=>?_
     refine ho 11 rfl ?_
     have d:=d.nilRow Int 3
     refine a1q (α:=Int) s d S9 0 rfl rfl rfl 0 rfl 1 rfl h987 rfl trivial ?_
     intro p989 k990 c991 a w s d
     refine h_n [1,2] [] d rfl rfl fun hC=>?_
     refine gv s 12 rfl rfl hC (fun w hC=>D7 (vs:=[(0,iv x834.Start),(1,iv x834.First),(2,V54 x834.Rate),(3,iv x834.Error),(4,sl p989 k990 l988)]) Bld64 rfl rfl) fun a s=>?_
     refine ho 13 rfl ?_
     obtain ⟨Sv1000,d⟩:=D6 (α:=Int) d 0 rfl 0 rfl
     refine o7 (α:=Segment) (vs:=[V64 ⟨x834.Start,x834.First,x834.Rate,x834.Error,l988⟩ p989 k990]) (cs:=(C64 ⟨x834.Start,x834.First,x834.Rate,x834.Error,l988⟩ p989 k990)) (xs:=([(⟨x834.Start,x834.First,x834.Rate,x834.Error,l988⟩:Segment)]:List Segment)) s d El60 rfl rfl rfl rfl rfl rfl ⟨⟨_,_,_,_,_,_,rfl,rfl,rfl,rfl,rfl,rfl,⟨_,_,_,rfl,d.envAt 0 rfl⟩⟩,rfl⟩ rfl trivial rfl fun b993 a w s d=>?_
     refine h_n [1,2] [] d rfl rfl fun hC=>?_
     refine h_d [1,2,0] [] [0,1] [] d rfl rfl rfl rfl fun hC=>?_
     refine ho 14 rfl ?_
     refine F4 (α:=Segment) s d El60 3 rfl rfl rfl 6 rfl 0 rfl 0 rfl h994 rfl trivial ?_
     intro p996 k997 c998 a w s d
     refine h_n [1,2,0] [] d rfl rfl fun hC=>?_
     refine gv s 15 rfl rfl hC (fun w hC=>R8 rfl) fun a s=>?_
     refine y7 (by kernel_rfl) ?_
     exact ⟨Sv1000,c998,k997,p996,wj s d [1,2,3] [5,6,0]⟩
    rintro a w ⟨Sv999,c998,k997,p996,s,d⟩
    refine tn (wp_region_lit (rn 4 [0] s d rfl rfl fun a s=>?_))
    refine wpList_nil ?_
    exact l8 (tn ⟨l995,x834.Error,0,c998,p996,k997,Sv999,u,wj s d [1,2] [1,2]⟩)
   rintro a w ⟨out827,worst828,off829,c823,p824,k825,Sv826,u,s,d⟩
   refine tn (wp_region_lit (rn0 2 s rfl fun a s=>?_))
   obtain ⟨i831,h830,u⟩:=bt u
   refine sv s (o8 rfl h830) rfl fun a s=>?_
   exact nl ⟨_,io u,c823,p824,k825,Sv826,wj s d [0,1] [0,1]⟩
  refine wp_exit (j5 (j5 (o9 ?_)))
  obtain rfl:=oi u
  have h1157:=hd665 _ rfl
  subst h1157
  exact tn ⟨c503,p504,k505,Sv506,wj s d [1] [1]⟩
 rintro a w ⟨c669,p670,k671,Sv672,s,d⟩
 refine tn (sz0 3 s rfl fun a s=>?_)
 obtain rfl:=oi u
 exact wp_ret (Q8 s rfl (q9 rfl) (q9 rfl) (d.ret ⟨p670,k671,c669,rfl,(d.outs [0] (by decide) rfl),(d.envAt 0 rfl)⟩))
theorem b2J {w0 S0 p2 k3 p6 k7 a1 b5 r} (u:a7Q a1 b5=some r) (hS:Dm S0 w0) (h4:(Sq p2 k3 a1).p S0 w0) (h8:(Sq p6 k7 b5).p S0 w0):Ck Tryz.prog 71 #[sl p2 k3 a1,sl p6 k7 b5] w0 S0 [] u6 r:=by
 refine en 26 func71 rfl hS rfl rfl rfl fun a s d=>?_
 have d:=(d.addE h4).addE h8
 refine sz0 1 s rfl fun a s=>?_
 refine wp_seq (sz0 5 s rfl fun a s=>?_)
 refine cd s u rfl (fun u=>?_) fun u=>?_
 ·refine sz0 1 s rfl fun a s=>?_
  obtain rfl:=oi u
  exact wp_ret (j6 (rt s rfl (d.ret rfl)))
 refine sk (wp_seq (sz0 1 s rfl fun a s=>?_))
 refine wp_block (u7 (fun sv109 a w=>∃ Sv173,Sl 26 [(0,sl p2 k3 a1),(1,sl p6 k7 b5),(5,iv sv109)] a∧Wd ⟨w0,S0,[]⟩ Sv173 [] [Sq p2 k3 a1,Sq p6 k7 b5] w) 0 u ⟨S0,wj s d [] [1,0]⟩ ?_)
 repeat clear u
 rintro sv109 a w tv206 ⟨Sv173,s,d⟩ u hd205
 refine wp_seq (sz0 4 s rfl fun a s=>?_)
 refine cd s u rfl (fun u=>?_) fun u=>?_
 ·refine sk (wp_seq (wp_block (wp_seq ?_)))
  obtain ⟨x241,h239,u⟩:=bt u
  obtain ⟨b247,o248,q245,c246,h249,h242,h243,h244,h240⟩:=d.elemV 0 rfl h239
  have hsv250:=s
  have hwv251:=d
  subst h249
  have s:=hsv250
  have d:=hwv251
  obtain ⟨_,rfl,rfl⟩:=h240
  have d:=d.addE h244
  obtain ⟨x254,h252,u⟩:=bt u
  obtain ⟨b260,o261,q258,c259,h262,h255,h256,h257,h253⟩:=d.elemV 2 rfl h252
  have hsv263:=s
  have hwv264:=d
  subst h262
  have s:=hsv263
  have d:=hwv264
  obtain ⟨_,rfl,rfl⟩:=h253
  have d:=d.addE h257
  refine A9 (fun a w=>∃ Sv265,Sl 26 [(0,sl (some ⟨b247,o248,none⟩) k3 a1),(1,sl (some ⟨b260,o261,none⟩) k7 b5),(5,iv sv109),(25,.bool (x241 != x254))] a∧Wd ⟨w0,S0,[]⟩ Sv265 [] [Sq (some ⟨b247,o248,none⟩) k3 a1,Sq (some ⟨b260,o261,none⟩) k7 b5] w) ?_ ?_
  ·refine h_c [] [0,1] d rfl rfl (by kernel_rfl) rfl fun hC d=>?_
   refine gn 2 [0,1] [] s hC rfl rfl rfl fun a s=>?_
   refine gx s 2 rfl trivial rfl hC runUnderlying22 sizeOf3 rfl rfl h242 h243 fun a s=>?_
   refine gv s 3 rfl rfl hC (fun w hC=>C8 (j:=0) (hC.ceAt 1 rfl) rfl isAgg3 rfl) fun a s=>?_
   refine gn 2 [4,5] [] s hC rfl rfl rfl fun a s=>?_
   refine gx s 6 rfl trivial rfl hC runUnderlying22 sizeOf3 rfl rfl h255 h256 fun a s=>?_
   refine gv s 7 rfl rfl hC (fun w hC=>C8 (j:=0) (hC.ceAt 0 rfl) rfl isAgg3 rfl) fun a s=>?_
   refine gv s 8 rfl rfl hC (fun w hC=>a7u rfl rfl) fun a s=>?_
   refine y7 (by kernel_rfl) ?_
   exact ⟨Sv173,wj s d [] [2,3]⟩
  rintro a w ⟨Sv265,s,d⟩
  refine tn (cd s u rfl (fun u=>?_) fun u=>?_)
  ·refine sz0 1 s rfl fun a s=>?_
   obtain rfl:=oi u
   have h268:=hd205 _ rfl
   subst h268
   exact wp_ret (A8 (j6 (j6 (A8 (j6 (rt s rfl (d.ret rfl)))))))
  refine wp_skip (l8 (tn (wp_region_lit (rn0 2 s rfl fun a s=>?_))))
  obtain ⟨i270,h269,u⟩:=bt u
  refine sv s (o8 rfl h269) rfl fun a s=>?_
  exact nl ⟨_,io u,Sv265,wj s d [] [0,1]⟩
 obtain ⟨rv271,u,h272⟩:=a0x u
 have h272:=(hd205 _ h272.symm).symm
 subst h272
 refine wp_exit (j5 (j5 (o9 (tn (sz0 1 s rfl fun a s=>?_)))))
 obtain rfl:=oi u
 exact q1 s rfl (d.ret rfl)
theorem a4D {w0 S0 p2 k3 p6 k7 a1 b5 r} (u:a0o a1 b5=some r) (hS:Dm S0 w0) (h4:(Sq p2 k3 a1).p S0 w0) (h8:(Sq p6 k7 b5).p S0 w0):Ck Tryz.prog 32 #[sl p2 k3 a1,sl p6 k7 b5] w0 S0 [] u6 r:=by
 refine en 81 func32 rfl hS rfl rfl rfl fun a s d=>?_
 have d:=(d.addE h4).addE h8
 refine sz0 1 s rfl fun a s=>?_
 refine wp_seq (sz0 5 s rfl fun a s=>?_)
 refine cd s u rfl (fun u=>?_) fun u=>?_
 ·refine sz0 1 s rfl fun a s=>?_
  obtain rfl:=oi u
  exact wp_ret (j6 (rt s rfl (d.ret rfl)))
 refine sk (wp_seq (sz0 1 s rfl fun a s=>?_))
 refine wp_block (u7 (fun sv439 a w=>∃ Sv723,Sl 81 [(0,sl p2 k3 a1),(1,sl p6 k7 b5),(5,iv sv439)] a∧Wd ⟨w0,S0,[]⟩ Sv723 [] [Sq p2 k3 a1,Sq p6 k7 b5] w) 0 u ⟨S0,wj s d [] [1,0]⟩ ?_)
 repeat clear u
 rintro sv439 a w tv866 ⟨Sv723,s,d⟩ u hd865
 refine wp_seq (sz0 4 s rfl fun a s=>?_)
 refine cd s u rfl (fun u=>?_) fun u=>?_
 ·refine sk (wp_seq (wp_block (wp_seq ?_)))
  obtain ⟨x1011,h1009,u⟩:=bt u
  obtain ⟨b1017,o1018,q1015,c1016,h1019,h1012,h1013,h1014,h1010⟩:=d.elemV 0 rfl h1009
  have hsv1020:=s
  have hwv1021:=d
  subst h1019
  have s:=hsv1020
  have d:=hwv1021
  obtain ⟨_,_,_,_,_,_,rfl,rfl,rfl,rfl,rfl,rfl,⟨p1022,n1023,k1024,rfl,h1025⟩⟩:=h1010
  obtain rfl:=h1025.1
  have d:=(d.addE (e:=SlA p1022 _ k1024 x1011.Samples) h1025).addE h1014
  obtain ⟨x1028,h1026,u⟩:=bt u
  obtain ⟨b1034,o1035,q1032,c1033,h1036,h1029,h1030,h1031,h1027⟩:=d.elemV 3 rfl h1026
  have hsv1037:=s
  have hwv1038:=d
  subst h1036
  have s:=hsv1037
  have d:=hwv1038
  obtain ⟨_,_,_,_,_,_,rfl,rfl,rfl,rfl,rfl,rfl,⟨p1039,n1040,k1041,rfl,h1042⟩⟩:=h1027
  obtain rfl:=h1042.1
  have d:=(d.addE (e:=SlA p1039 _ k1041 x1028.Samples) h1042).addE h1031
  obtain ⟨c1067,hc1067,u⟩:=bt u
  obtain ⟨c1092,hc1092,u⟩:=bt u
  obtain ⟨c1117,hc1117,u⟩:=bt u
  obtain ⟨c1144,hc1144,u⟩:=bt u
  refine A9 (fun a w=>∃ Sv1145,Sl 81 [(0,sl (some ⟨b1017,o1018,none⟩) k3 a1),(1,sl (some ⟨b1034,o1035,none⟩) k7 b5),(5,iv sv439),(80,.bool c1144)] a∧Wd ⟨w0,S0,[]⟩ Sv1145 [] [Sq (some ⟨b1017,o1018,none⟩) k3 a1,Sq (some ⟨b1034,o1035,none⟩) k7 b5] w) ?_ ?_
  ·rcases Bool.eq_false_or_eq_true (x1011.Start != x1028.Start) with h1146 | h1146
   ·have h1147:=E9 hc1067 h1146
    have h1148:c1067=true:=(Option.some.inj h1147).symm
    have h1149:=E9 hc1092 h1148
    have h1150:c1092=true:=(Option.some.inj h1149).symm
    have h1151:=E9 hc1117 h1150
    have h1152:c1117=true:=(Option.some.inj h1151).symm
    have h1153:=E9 hc1144 h1152
    refine h_c [] [0,2] d rfl rfl (by kernel_rfl) rfl fun hC d=>?_
    refine gn 2 [0,1] [] s hC rfl rfl rfl fun a s=>?_
    refine gx s 2 rfl trivial rfl hC runUnderlying60 sizeOf64 rfl rfl h1012 h1013 fun a s=>?_
    refine gv s 3 rfl rfl hC (fun w hC=>l5 (o':=q1015+0) runUnderlying64 rfl sizeOf3 rfl rfl rfl) fun a s=>?_
    refine gv s 4 rfl rfl hC (fun w hC=>C8 (j:=0) (hC.ceAt 1 rfl) rfl isAgg3 rfl) fun a s=>?_
    refine gn 2 [5,6] [] s hC rfl rfl rfl fun a s=>?_
    refine gx s 7 rfl trivial rfl hC runUnderlying60 sizeOf64 rfl rfl h1029 h1030 fun a s=>?_
    refine gv s 8 rfl rfl hC (fun w hC=>l5 (o':=q1032+0) runUnderlying64 rfl sizeOf3 rfl rfl rfl) fun a s=>?_
    refine gv s 9 rfl rfl hC (fun w hC=>C8 (j:=0) (hC.ceAt 0 rfl) rfl isAgg3 rfl) fun a s=>?_
    refine gn 2 [10,11] [] s hC rfl rfl rfl fun a s=>?_
    have s:=s.bT 28 rfl h1146
    refine gn 11 [12,13,14,15,16,17,18,19,20,21,22] [] s hC rfl rfl rfl fun a s=>?_
    refine gT s 23 rfl rfl hC rfl rfl h1147 fun a s=>?_
    refine gm s 24 rfl rfl rfl hC fun a s=>?_
    have s:=s.bT 41 rfl h1148
    refine gn 11 [25,26,27,28,29,30,31,32,33,34,35] [] s hC rfl rfl rfl fun a s=>?_
    refine gT s 36 rfl rfl hC rfl rfl h1149 fun a s=>?_
    refine gm s 37 rfl rfl rfl hC fun a s=>?_
    have s:=s.bT 54 rfl h1150
    refine gn 11 [38,39,40,41,42,43,44,45,46,47,48] [] s hC rfl rfl rfl fun a s=>?_
    refine gT s 49 rfl rfl hC rfl rfl h1151 fun a s=>?_
    refine gm s 50 rfl rfl rfl hC fun a s=>?_
    have s:=s.bT 67 rfl h1152
    refine gn 12 [51,52,53,54,55,56,57,58,59,60,61,62] [] s hC rfl rfl rfl fun a s=>?_
    refine gT s 63 rfl rfl hC rfl rfl h1153 fun a s=>?_
    refine y7 (by kernel_rfl) ?_
    exact ⟨Sv723,wj s d [] [4,5]⟩
   have h1154:=F7 hc1067 h1146
   obtain ⟨x1157,h1155,h1154⟩:=H5 h1154
   obtain ⟨q1161,c1162,h1158,h1159,h1160,h1156⟩:=d.elemK 4 rfl h1155
   obtain ⟨_,_,_,_,_,_,rfl,rfl,rfl,rfl,rfl,rfl,⟨p1163,n1164,k1165,rfl,h1166⟩⟩:=h1156
   obtain rfl:=h1166.1
   have d:=(d.addE (e:=SlA p1163 _ k1165 x1157.Samples) h1166).addE h1160
   obtain ⟨x1169,h1167,h1154⟩:=H5 h1154
   obtain ⟨q1173,c1174,h1170,h1171,h1172,h1168⟩:=d.elemK 7 rfl h1167
   obtain ⟨_,_,_,_,_,_,rfl,rfl,rfl,rfl,rfl,rfl,⟨p1175,n1176,k1177,rfl,h1178⟩⟩:=h1168
   obtain rfl:=h1178.1
   have d:=(d.addE (e:=SlA p1175 _ k1177 x1169.Samples) h1178).addE h1172
   rcases Bool.eq_false_or_eq_true c1067 with h1179 | h1179
   ·have h1180:=E9 hc1092 h1179
    have h1181:c1092=true:=(Option.some.inj h1180).symm
    have h1182:=E9 hc1117 h1181
    have h1183:c1117=true:=(Option.some.inj h1182).symm
    have h1184:=E9 hc1144 h1183
    refine h_c [] [0,2,4,6] d rfl rfl (by kernel_rfl) rfl fun hC d=>?_
    refine gn 2 [0,1] [] s hC rfl rfl rfl fun a s=>?_
    refine gx s 2 rfl trivial rfl hC runUnderlying60 sizeOf64 rfl rfl h1012 h1013 fun a s=>?_
    refine gv s 3 rfl rfl hC (fun w hC=>l5 (o':=q1015+0) runUnderlying64 rfl sizeOf3 rfl rfl rfl) fun a s=>?_
    refine gv s 4 rfl rfl hC (fun w hC=>C8 (j:=0) (hC.ceAt 3 rfl) rfl isAgg3 rfl) fun a s=>?_
    refine gn 2 [5,6] [] s hC rfl rfl rfl fun a s=>?_
    refine gx s 7 rfl trivial rfl hC runUnderlying60 sizeOf64 rfl rfl h1029 h1030 fun a s=>?_
    refine gv s 8 rfl rfl hC (fun w hC=>l5 (o':=q1032+0) runUnderlying64 rfl sizeOf3 rfl rfl rfl) fun a s=>?_
    refine gv s 9 rfl rfl hC (fun w hC=>C8 (j:=0) (hC.ceAt 2 rfl) rfl isAgg3 rfl) fun a s=>?_
    refine gn 2 [10,11] [] s hC rfl rfl rfl fun a s=>?_
    have s:=s.bF 28 rfl h1146
    refine gn 2 [12,13] [] s hC rfl rfl rfl fun a s=>?_
    refine gx s 14 rfl ⟨_,rfl,rfl⟩ rfl hC runUnderlying60 sizeOf64 rfl rfl h1158 h1159 fun a s=>?_
    refine gt s 15 rfl ⟨_,rfl,rfl⟩ rfl hC (fun w hC=>l5 (o':=q1161+1) runUnderlying64 rfl sizeOf3 rfl rfl rfl) fun a s=>?_
    refine gt s 16 rfl ⟨_,rfl,rfl⟩ rfl hC (fun w hC=>C8 (j:=1) (hC.ceAt 1 rfl) rfl isAgg3 rfl) fun a s=>?_
    refine gn 2 [17,18] [] s hC rfl rfl rfl fun a s=>?_
    refine gx s 19 rfl ⟨_,rfl,rfl⟩ rfl hC runUnderlying60 sizeOf64 rfl rfl h1170 h1171 fun a s=>?_
    refine gt s 20 rfl ⟨_,rfl,rfl⟩ rfl hC (fun w hC=>l5 (o':=q1173+1) runUnderlying64 rfl sizeOf3 rfl rfl rfl) fun a s=>?_
    refine gt s 21 rfl ⟨_,rfl,rfl⟩ rfl hC (fun w hC=>C8 (j:=1) (hC.ceAt 0 rfl) rfl isAgg3 rfl) fun a s=>?_
    refine gt s 22 rfl ⟨_,rfl,rfl⟩ rfl hC (fun w hC=>a7u rfl rfl) fun a s=>?_
    refine gF s 23 rfl rfl hC rfl rfl h1154 fun a s=>?_
    refine gm s 24 rfl rfl rfl hC fun a s=>?_
    have s:=s.bT 41 rfl h1179
    refine gn 11 [25,26,27,28,29,30,31,32,33,34,35] [] s hC rfl rfl rfl fun a s=>?_
    refine gT s 36 rfl rfl hC rfl rfl h1180 fun a s=>?_
    refine gm s 37 rfl rfl rfl hC fun a s=>?_
    have s:=s.bT 54 rfl h1181
    refine gn 11 [38,39,40,41,42,43,44,45,46,47,48] [] s hC rfl rfl rfl fun a s=>?_
    refine gT s 49 rfl rfl hC rfl rfl h1182 fun a s=>?_
    refine gm s 50 rfl rfl rfl hC fun a s=>?_
    have s:=s.bT 67 rfl h1183
    refine gn 12 [51,52,53,54,55,56,57,58,59,60,61,62] [] s hC rfl rfl rfl fun a s=>?_
    refine gT s 63 rfl rfl hC rfl rfl h1184 fun a s=>?_
    refine y7 (by kernel_rfl) ?_
    exact ⟨Sv723,wj s d [] [8,9]⟩
   have h1185:=F7 hc1092 h1179
   obtain ⟨x1188,h1186,h1185⟩:=H5 h1185
   obtain ⟨q1192,c1193,h1189,h1190,h1191,h1187⟩:=d.elemK 8 rfl h1186
   obtain ⟨_,_,_,_,_,_,rfl,rfl,rfl,rfl,rfl,rfl,⟨p1194,n1195,k1196,rfl,h1197⟩⟩:=h1187
   obtain rfl:=h1197.1
   have d:=(d.addE (e:=SlA p1194 _ k1196 x1188.Samples) h1197).addE h1191
   obtain ⟨x1200,h1198,h1185⟩:=H5 h1185
   obtain ⟨q1204,c1205,h1201,h1202,h1203,h1199⟩:=d.elemK 11 rfl h1198
   obtain ⟨_,_,_,_,_,_,rfl,rfl,rfl,rfl,rfl,rfl,⟨p1206,n1207,k1208,rfl,h1209⟩⟩:=h1199
   obtain rfl:=h1209.1
   have d:=(d.addE (e:=SlA p1206 _ k1208 x1200.Samples) h1209).addE h1203
   rcases Bool.eq_false_or_eq_true c1092 with h1210 | h1210
   ·have h1211:=E9 hc1117 h1210
    have h1212:c1117=true:=(Option.some.inj h1211).symm
    have h1213:=E9 hc1144 h1212
    refine h_c [] [0,2,4,6,8,10] d rfl rfl (by kernel_rfl) rfl fun hC d=>?_
    refine gn 2 [0,1] [] s hC rfl rfl rfl fun a s=>?_
    refine gx s 2 rfl trivial rfl hC runUnderlying60 sizeOf64 rfl rfl h1012 h1013 fun a s=>?_
    refine gv s 3 rfl rfl hC (fun w hC=>l5 (o':=q1015+0) runUnderlying64 rfl sizeOf3 rfl rfl rfl) fun a s=>?_
    refine gv s 4 rfl rfl hC (fun w hC=>C8 (j:=0) (hC.ceAt 5 rfl) rfl isAgg3 rfl) fun a s=>?_
    refine gn 2 [5,6] [] s hC rfl rfl rfl fun a s=>?_
    refine gx s 7 rfl trivial rfl hC runUnderlying60 sizeOf64 rfl rfl h1029 h1030 fun a s=>?_
    refine gv s 8 rfl rfl hC (fun w hC=>l5 (o':=q1032+0) runUnderlying64 rfl sizeOf3 rfl rfl rfl) fun a s=>?_
    refine gv s 9 rfl rfl hC (fun w hC=>C8 (j:=0) (hC.ceAt 4 rfl) rfl isAgg3 rfl) fun a s=>?_
    refine gn 2 [10,11] [] s hC rfl rfl rfl fun a s=>?_
    have s:=s.bF 28 rfl h1146
    refine gn 2 [12,13] [] s hC rfl rfl rfl fun a s=>?_
    refine gx s 14 rfl ⟨_,rfl,rfl⟩ rfl hC runUnderlying60 sizeOf64 rfl rfl h1158 h1159 fun a s=>?_
    refine gt s 15 rfl ⟨_,rfl,rfl⟩ rfl hC (fun w hC=>l5 (o':=q1161+1) runUnderlying64 rfl sizeOf3 rfl rfl rfl) fun a s=>?_
    refine gt s 16 rfl ⟨_,rfl,rfl⟩ rfl hC (fun w hC=>C8 (j:=1) (hC.ceAt 3 rfl) rfl isAgg3 rfl) fun a s=>?_
    refine gn 2 [17,18] [] s hC rfl rfl rfl fun a s=>?_
    refine gx s 19 rfl ⟨_,rfl,rfl⟩ rfl hC runUnderlying60 sizeOf64 rfl rfl h1170 h1171 fun a s=>?_
    refine gt s 20 rfl ⟨_,rfl,rfl⟩ rfl hC (fun w hC=>l5 (o':=q1173+1) runUnderlying64 rfl sizeOf3 rfl rfl rfl) fun a s=>?_
    refine gt s 21 rfl ⟨_,rfl,rfl⟩ rfl hC (fun w hC=>C8 (j:=1) (hC.ceAt 2 rfl) rfl isAgg3 rfl) fun a s=>?_
    refine gt s 22 rfl ⟨_,rfl,rfl⟩ rfl hC (fun w hC=>a7u rfl rfl) fun a s=>?_
    refine gF s 23 rfl rfl hC rfl rfl h1154 fun a s=>?_
    refine gm s 24 rfl rfl rfl hC fun a s=>?_
    have s:=s.bF 41 rfl h1179
    refine gn 2 [25,26] [] s hC rfl rfl rfl fun a s=>?_
    refine gx s 27 rfl ⟨_,rfl,rfl⟩ rfl hC runUnderlying60 sizeOf64 rfl rfl h1189 h1190 fun a s=>?_
    refine gt s 28 rfl ⟨_,rfl,rfl⟩ rfl hC (fun w hC=>l5 (o':=q1192+2) runUnderlying64 rfl sizeOf54 rfl rfl rfl) fun a s=>?_
    refine gt s 29 rfl ⟨_,rfl,rfl⟩ rfl hC (fun w hC=>G5 (j:=2) (hC.ceAt 1 rfl) rfl isAgg54 sizeOf54 rfl rfl) fun a s=>?_
    refine gn 2 [30,31] [] s hC rfl rfl rfl fun a s=>?_
    refine gx s 32 rfl ⟨_,rfl,rfl⟩ rfl hC runUnderlying60 sizeOf64 rfl rfl h1201 h1202 fun a s=>?_
    refine gt s 33 rfl ⟨_,rfl,rfl⟩ rfl hC (fun w hC=>l5 (o':=q1204+2) runUnderlying64 rfl sizeOf54 rfl rfl rfl) fun a s=>?_
    refine gt s 34 rfl ⟨_,rfl,rfl⟩ rfl hC (fun w hC=>G5 (j:=2) (hC.ceAt 0 rfl) rfl isAgg54 sizeOf54 rfl rfl) fun a s=>?_
    refine gt s 35 rfl ⟨_,rfl,rfl⟩ rfl hC (fun w hC=>a6V (by kernel_rfl) rfl rfl (R4 runUnderlying54 (by kernel_rfl) (EqF.cons1 rfl isAgg3 rfl rfl (Q6 runUnderlying3) (EqF.cons1 rfl isAgg3 rfl rfl (Q6 runUnderlying3) EqF.nil)))) fun a s=>?_
    refine gF s 36 rfl rfl hC rfl rfl h1185 fun a s=>?_
    refine gm s 37 rfl rfl rfl hC fun a s=>?_
    have s:=s.bT 54 rfl h1210
    refine gn 11 [38,39,40,41,42,43,44,45,46,47,48] [] s hC rfl rfl rfl fun a s=>?_
    refine gT s 49 rfl rfl hC rfl rfl h1211 fun a s=>?_
    refine gm s 50 rfl rfl rfl hC fun a s=>?_
    have s:=s.bT 67 rfl h1212
    refine gn 12 [51,52,53,54,55,56,57,58,59,60,61,62] [] s hC rfl rfl rfl fun a s=>?_
    refine gT s 63 rfl rfl hC rfl rfl h1213 fun a s=>?_
    refine y7 (by kernel_rfl) ?_
    exact ⟨Sv723,wj s d [] [12,13]⟩
   have h1214:=F7 hc1117 h1210
   obtain ⟨x1217,h1215,h1214⟩:=H5 h1214
   obtain ⟨q1221,c1222,h1218,h1219,h1220,h1216⟩:=d.elemK 12 rfl h1215
   obtain ⟨_,_,_,_,_,_,rfl,rfl,rfl,rfl,rfl,rfl,⟨p1223,n1224,k1225,rfl,h1226⟩⟩:=h1216
   obtain rfl:=h1226.1
   have d:=(d.addE (e:=SlA p1223 _ k1225 x1217.Samples) h1226).addE h1220
   obtain ⟨x1229,h1227,h1214⟩:=H5 h1214
   obtain ⟨q1233,c1234,h1230,h1231,h1232,h1228⟩:=d.elemK 15 rfl h1227
   obtain ⟨_,_,_,_,_,_,rfl,rfl,rfl,rfl,rfl,rfl,⟨p1235,n1236,k1237,rfl,h1238⟩⟩:=h1228
   obtain rfl:=h1238.1
   have d:=(d.addE (e:=SlA p1235 _ k1237 x1229.Samples) h1238).addE h1232
   rcases Bool.eq_false_or_eq_true c1117 with h1239 | h1239
   ·have h1240:=E9 hc1144 h1239
    refine h_c [] [0,2,4,6,8,10,12,14] d rfl rfl (by kernel_rfl) rfl fun hC d=>?_
    refine gn 2 [0,1] [] s hC rfl rfl rfl fun a s=>?_
    refine gx s 2 rfl trivial rfl hC runUnderlying60 sizeOf64 rfl rfl h1012 h1013 fun a s=>?_
    refine gv s 3 rfl rfl hC (fun w hC=>l5 (o':=q1015+0) runUnderlying64 rfl sizeOf3 rfl rfl rfl) fun a s=>?_
    refine gv s 4 rfl rfl hC (fun w hC=>C8 (j:=0) (hC.ceAt 7 rfl) rfl isAgg3 rfl) fun a s=>?_
    refine gn 2 [5,6] [] s hC rfl rfl rfl fun a s=>?_
    refine gx s 7 rfl trivial rfl hC runUnderlying60 sizeOf64 rfl rfl h1029 h1030 fun a s=>?_
    refine gv s 8 rfl rfl hC (fun w hC=>l5 (o':=q1032+0) runUnderlying64 rfl sizeOf3 rfl rfl rfl) fun a s=>?_
    refine gv s 9 rfl rfl hC (fun w hC=>C8 (j:=0) (hC.ceAt 6 rfl) rfl isAgg3 rfl) fun a s=>?_
    refine gn 2 [10,11] [] s hC rfl rfl rfl fun a s=>?_
    have s:=s.bF 28 rfl h1146
    refine gn 2 [12,13] [] s hC rfl rfl rfl fun a s=>?_
    refine gx s 14 rfl ⟨_,rfl,rfl⟩ rfl hC runUnderlying60 sizeOf64 rfl rfl h1158 h1159 fun a s=>?_
    refine gt s 15 rfl ⟨_,rfl,rfl⟩ rfl hC (fun w hC=>l5 (o':=q1161+1) runUnderlying64 rfl sizeOf3 rfl rfl rfl) fun a s=>?_
    refine gt s 16 rfl ⟨_,rfl,rfl⟩ rfl hC (fun w hC=>C8 (j:=1) (hC.ceAt 5 rfl) rfl isAgg3 rfl) fun a s=>?_
    refine gn 2 [17,18] [] s hC rfl rfl rfl fun a s=>?_
    refine gx s 19 rfl ⟨_,rfl,rfl⟩ rfl hC runUnderlying60 sizeOf64 rfl rfl h1170 h1171 fun a s=>?_
    refine gt s 20 rfl ⟨_,rfl,rfl⟩ rfl hC (fun w hC=>l5 (o':=q1173+1) runUnderlying64 rfl sizeOf3 rfl rfl rfl) fun a s=>?_
    refine gt s 21 rfl ⟨_,rfl,rfl⟩ rfl hC (fun w hC=>C8 (j:=1) (hC.ceAt 4 rfl) rfl isAgg3 rfl) fun a s=>?_
    refine gt s 22 rfl ⟨_,rfl,rfl⟩ rfl hC (fun w hC=>a7u rfl rfl) fun a s=>?_
    refine gF s 23 rfl rfl hC rfl rfl h1154 fun a s=>?_
    refine gm s 24 rfl rfl rfl hC fun a s=>?_
    have s:=s.bF 41 rfl h1179
    refine gn 2 [25,26] [] s hC rfl rfl rfl fun a s=>?_
    refine gx s 27 rfl ⟨_,rfl,rfl⟩ rfl hC runUnderlying60 sizeOf64 rfl rfl h1189 h1190 fun a s=>?_
    refine gt s 28 rfl ⟨_,rfl,rfl⟩ rfl hC (fun w hC=>l5 (o':=q1192+2) runUnderlying64 rfl sizeOf54 rfl rfl rfl) fun a s=>?_
    refine gt s 29 rfl ⟨_,rfl,rfl⟩ rfl hC (fun w hC=>G5 (j:=2) (hC.ceAt 3 rfl) rfl isAgg54 sizeOf54 rfl rfl) fun a s=>?_
    refine gn 2 [30,31] [] s hC rfl rfl rfl fun a s=>?_
    refine gx s 32 rfl ⟨_,rfl,rfl⟩ rfl hC runUnderlying60 sizeOf64 rfl rfl h1201 h1202 fun a s=>?_
    refine gt s 33 rfl ⟨_,rfl,rfl⟩ rfl hC (fun w hC=>l5 (o':=q1204+2) runUnderlying64 rfl sizeOf54 rfl rfl rfl) fun a s=>?_
    refine gt s 34 rfl ⟨_,rfl,rfl⟩ rfl hC (fun w hC=>G5 (j:=2) (hC.ceAt 2 rfl) rfl isAgg54 sizeOf54 rfl rfl) fun a s=>?_
    refine gt s 35 rfl ⟨_,rfl,rfl⟩ rfl hC (fun w hC=>a6V (by kernel_rfl) rfl rfl (R4 runUnderlying54 (by kernel_rfl) (EqF.cons1 rfl isAgg3 rfl rfl (Q6 runUnderlying3) (EqF.cons1 rfl isAgg3 rfl rfl (Q6 runUnderlying3) EqF.nil)))) fun a s=>?_
    refine gF s 36 rfl rfl hC rfl rfl h1185 fun a s=>?_
    refine gm s 37 rfl rfl rfl hC fun a s=>?_
    have s:=s.bF 54 rfl h1210
    refine gn 2 [38,39] [] s hC rfl rfl rfl fun a s=>?_
    refine gx s 40 rfl ⟨_,rfl,rfl⟩ rfl hC runUnderlying60 sizeOf64 rfl rfl h1218 h1219 fun a s=>?_
    refine gt s 41 rfl ⟨_,rfl,rfl⟩ rfl hC (fun w hC=>l5 (o':=q1221+4) runUnderlying64 rfl sizeOf3 rfl rfl rfl) fun a s=>?_
    refine gt s 42 rfl ⟨_,rfl,rfl⟩ rfl hC (fun w hC=>C8 (j:=4) (hC.ceAt 1 rfl) rfl isAgg3 rfl) fun a s=>?_
    refine gn 2 [43,44] [] s hC rfl rfl rfl fun a s=>?_
    refine gx s 45 rfl ⟨_,rfl,rfl⟩ rfl hC runUnderlying60 sizeOf64 rfl rfl h1230 h1231 fun a s=>?_
    refine gt s 46 rfl ⟨_,rfl,rfl⟩ rfl hC (fun w hC=>l5 (o':=q1233+4) runUnderlying64 rfl sizeOf3 rfl rfl rfl) fun a s=>?_
    refine gt s 47 rfl ⟨_,rfl,rfl⟩ rfl hC (fun w hC=>C8 (j:=4) (hC.ceAt 0 rfl) rfl isAgg3 rfl) fun a s=>?_
    refine gt s 48 rfl ⟨_,rfl,rfl⟩ rfl hC (fun w hC=>a7u rfl rfl) fun a s=>?_
    refine gF s 49 rfl rfl hC rfl rfl h1214 fun a s=>?_
    refine gm s 50 rfl rfl rfl hC fun a s=>?_
    have s:=s.bT 67 rfl h1239
    refine gn 12 [51,52,53,54,55,56,57,58,59,60,61,62] [] s hC rfl rfl rfl fun a s=>?_
    refine gT s 63 rfl rfl hC rfl rfl h1240 fun a s=>?_
    refine y7 (by kernel_rfl) ?_
    exact ⟨Sv723,wj s d [] [16,17]⟩
   have h1241:=F7 hc1144 h1239
   obtain ⟨x1244,h1242,h1241⟩:=H5 h1241
   obtain ⟨q1248,c1249,h1245,h1246,h1247,h1243⟩:=d.elemK 16 rfl h1242
   obtain ⟨_,_,_,_,_,_,rfl,rfl,rfl,rfl,rfl,rfl,⟨p1250,n1251,k1252,rfl,h1253⟩⟩:=h1243
   obtain rfl:=h1253.1
   have d:=(d.addE (e:=SlA p1250 _ k1252 x1244.Samples) h1253).addE h1247
   obtain ⟨x1256,h1254,h1241⟩:=H5 h1241
   obtain ⟨q1260,c1261,h1257,h1258,h1259,h1255⟩:=d.elemK 19 rfl h1254
   obtain ⟨_,_,_,_,_,_,rfl,rfl,rfl,rfl,rfl,rfl,⟨p1262,n1263,k1264,rfl,h1265⟩⟩:=h1255
   obtain rfl:=h1265.1
   have d:=(d.addE (e:=SlA p1262 _ k1264 x1256.Samples) h1265).addE h1259
   obtain ⟨rv1267,h1266,h1241⟩:=H5 h1241
   refine h_c [] [0,2,4,6,8,10,12,14,16,18] d rfl rfl (by kernel_rfl) rfl fun hC d=>?_
   refine gn 2 [0,1] [] s hC rfl rfl rfl fun a s=>?_
   refine gx s 2 rfl trivial rfl hC runUnderlying60 sizeOf64 rfl rfl h1012 h1013 fun a s=>?_
   refine gv s 3 rfl rfl hC (fun w hC=>l5 (o':=q1015+0) runUnderlying64 rfl sizeOf3 rfl rfl rfl) fun a s=>?_
   refine gv s 4 rfl rfl hC (fun w hC=>C8 (j:=0) (hC.ceAt 9 rfl) rfl isAgg3 rfl) fun a s=>?_
   refine gn 2 [5,6] [] s hC rfl rfl rfl fun a s=>?_
   refine gx s 7 rfl trivial rfl hC runUnderlying60 sizeOf64 rfl rfl h1029 h1030 fun a s=>?_
   refine gv s 8 rfl rfl hC (fun w hC=>l5 (o':=q1032+0) runUnderlying64 rfl sizeOf3 rfl rfl rfl) fun a s=>?_
   refine gv s 9 rfl rfl hC (fun w hC=>C8 (j:=0) (hC.ceAt 8 rfl) rfl isAgg3 rfl) fun a s=>?_
   refine gn 2 [10,11] [] s hC rfl rfl rfl fun a s=>?_
   have s:=s.bF 28 rfl h1146
   refine gn 2 [12,13] [] s hC rfl rfl rfl fun a s=>?_
   refine gx s 14 rfl ⟨_,rfl,rfl⟩ rfl hC runUnderlying60 sizeOf64 rfl rfl h1158 h1159 fun a s=>?_
   refine gt s 15 rfl ⟨_,rfl,rfl⟩ rfl hC (fun w hC=>l5 (o':=q1161+1) runUnderlying64 rfl sizeOf3 rfl rfl rfl) fun a s=>?_
   refine gt s 16 rfl ⟨_,rfl,rfl⟩ rfl hC (fun w hC=>C8 (j:=1) (hC.ceAt 7 rfl) rfl isAgg3 rfl) fun a s=>?_
   refine gn 2 [17,18] [] s hC rfl rfl rfl fun a s=>?_
   refine gx s 19 rfl ⟨_,rfl,rfl⟩ rfl hC runUnderlying60 sizeOf64 rfl rfl h1170 h1171 fun a s=>?_
   refine gt s 20 rfl ⟨_,rfl,rfl⟩ rfl hC (fun w hC=>l5 (o':=q1173+1) runUnderlying64 rfl sizeOf3 rfl rfl rfl) fun a s=>?_
   refine gt s 21 rfl ⟨_,rfl,rfl⟩ rfl hC (fun w hC=>C8 (j:=1) (hC.ceAt 6 rfl) rfl isAgg3 rfl) fun a s=>?_
   refine gt s 22 rfl ⟨_,rfl,rfl⟩ rfl hC (fun w hC=>a7u rfl rfl) fun a s=>?_
   refine gF s 23 rfl rfl hC rfl rfl h1154 fun a s=>?_
   refine gm s 24 rfl rfl rfl hC fun a s=>?_
   have s:=s.bF 41 rfl h1179
   refine gn 2 [25,26] [] s hC rfl rfl rfl fun a s=>?_
   refine gx s 27 rfl ⟨_,rfl,rfl⟩ rfl hC runUnderlying60 sizeOf64 rfl rfl h1189 h1190 fun a s=>?_
   refine gt s 28 rfl ⟨_,rfl,rfl⟩ rfl hC (fun w hC=>l5 (o':=q1192+2) runUnderlying64 rfl sizeOf54 rfl rfl rfl) fun a s=>?_
   refine gt s 29 rfl ⟨_,rfl,rfl⟩ rfl hC (fun w hC=>G5 (j:=2) (hC.ceAt 5 rfl) rfl isAgg54 sizeOf54 rfl rfl) fun a s=>?_
   refine gn 2 [30,31] [] s hC rfl rfl rfl fun a s=>?_
   refine gx s 32 rfl ⟨_,rfl,rfl⟩ rfl hC runUnderlying60 sizeOf64 rfl rfl h1201 h1202 fun a s=>?_
   refine gt s 33 rfl ⟨_,rfl,rfl⟩ rfl hC (fun w hC=>l5 (o':=q1204+2) runUnderlying64 rfl sizeOf54 rfl rfl rfl) fun a s=>?_
   refine gt s 34 rfl ⟨_,rfl,rfl⟩ rfl hC (fun w hC=>G5 (j:=2) (hC.ceAt 4 rfl) rfl isAgg54 sizeOf54 rfl rfl) fun a s=>?_
   refine gt s 35 rfl ⟨_,rfl,rfl⟩ rfl hC (fun w hC=>a6V (by kernel_rfl) rfl rfl (R4 runUnderlying54 (by kernel_rfl) (EqF.cons1 rfl isAgg3 rfl rfl (Q6 runUnderlying3) (EqF.cons1 rfl isAgg3 rfl rfl (Q6 runUnderlying3) EqF.nil)))) fun a s=>?_
   refine gF s 36 rfl rfl hC rfl rfl h1185 fun a s=>?_
   refine gm s 37 rfl rfl rfl hC fun a s=>?_
   have s:=s.bF 54 rfl h1210
   refine gn 2 [38,39] [] s hC rfl rfl rfl fun a s=>?_
   refine gx s 40 rfl ⟨_,rfl,rfl⟩ rfl hC runUnderlying60 sizeOf64 rfl rfl h1218 h1219 fun a s=>?_
   refine gt s 41 rfl ⟨_,rfl,rfl⟩ rfl hC (fun w hC=>l5 (o':=q1221+4) runUnderlying64 rfl sizeOf3 rfl rfl rfl) fun a s=>?_
   refine gt s 42 rfl ⟨_,rfl,rfl⟩ rfl hC (fun w hC=>C8 (j:=4) (hC.ceAt 3 rfl) rfl isAgg3 rfl) fun a s=>?_
   refine gn 2 [43,44] [] s hC rfl rfl rfl fun a s=>?_
   refine gx s 45 rfl ⟨_,rfl,rfl⟩ rfl hC runUnderlying60 sizeOf64 rfl rfl h1230 h1231 fun a s=>?_
   refine gt s 46 rfl ⟨_,rfl,rfl⟩ rfl hC (fun w hC=>l5 (o':=q1233+4) runUnderlying64 rfl sizeOf3 rfl rfl rfl) fun a s=>?_
   refine gt s 47 rfl ⟨_,rfl,rfl⟩ rfl hC (fun w hC=>C8 (j:=4) (hC.ceAt 2 rfl) rfl isAgg3 rfl) fun a s=>?_
   refine gt s 48 rfl ⟨_,rfl,rfl⟩ rfl hC (fun w hC=>a7u rfl rfl) fun a s=>?_
   refine gF s 49 rfl rfl hC rfl rfl h1214 fun a s=>?_
   refine gm s 50 rfl rfl rfl hC fun a s=>?_
   have s:=s.bF 67 rfl h1239
   refine gn 2 [51,52] [] s hC rfl rfl rfl fun a s=>?_
   refine gx s 53 rfl ⟨_,rfl,rfl⟩ rfl hC runUnderlying60 sizeOf64 rfl rfl h1245 h1246 fun a s=>?_
   refine gt s 54 rfl ⟨_,rfl,rfl⟩ rfl hC (fun w hC=>l5 (o':=q1248+5) runUnderlying64 rfl sizeOf22 rfl rfl rfl) fun a s=>?_
   refine gt s 55 rfl ⟨_,rfl,rfl⟩ rfl hC (fun w hC=>C8 (j:=5) (hC.ceAt 1 rfl) rfl isAgg22 rfl) fun a s=>?_
   refine gn 2 [56,57] [] s hC rfl rfl rfl fun a s=>?_
   refine gx s 58 rfl ⟨_,rfl,rfl⟩ rfl hC runUnderlying60 sizeOf64 rfl rfl h1257 h1258 fun a s=>?_
   refine gt s 59 rfl ⟨_,rfl,rfl⟩ rfl hC (fun w hC=>l5 (o':=q1260+5) runUnderlying64 rfl sizeOf22 rfl rfl rfl) fun a s=>?_
   refine gt s 60 rfl ⟨_,rfl,rfl⟩ rfl hC (fun w hC=>C8 (j:=5) (hC.ceAt 0 rfl) rfl isAgg22 rfl) fun a s=>?_
   refine ho 61 rfl ?_
   refine x9 s (b2J h1266 d.bdom (d.bE 3 rfl) (d.bE 1 rfl)) (j3 call71 rfl) ⟨_,rfl,rfl⟩ rfl rfl ?_
   rintro v1271 Sv1268 w a h1269 rfl s
   have d:=d.callB h1269
   refine h_n [] [0,2,4,6,8,10,12,14,16,18] d rfl rfl fun hC=>?_
   refine gt s 62 rfl ⟨_,rfl,rfl⟩ rfl hC (fun w hC=>a9k rfl) fun a s=>?_
   refine gF s 63 rfl rfl hC rfl rfl h1241 fun a s=>?_
   refine y7 (by kernel_rfl) ?_
   exact ⟨Sv723,wj s d [] [20,21]⟩
  rintro a w ⟨Sv1145,s,d⟩
  refine tn (cd s u rfl (fun u=>?_) fun u=>?_)
  ·refine sz0 1 s rfl fun a s=>?_
   obtain rfl:=oi u
   have h1275:=hd865 _ rfl
   subst h1275
   exact wp_ret (A8 (j6 (j6 (A8 (j6 (rt s rfl (d.ret rfl)))))))
  refine wp_skip (l8 (tn (wp_region_lit (rn0 2 s rfl fun a s=>?_))))
  obtain ⟨i1277,h1276,u⟩:=bt u
  refine sv s (o8 rfl h1276) rfl fun a s=>?_
  exact nl ⟨_,io u,Sv1145,wj s d [] [0,1]⟩
 obtain ⟨rv1278,u,h1279⟩:=a0x u
 have h1279:=(hd865 _ h1279.symm).symm
 subst h1279
 refine wp_exit (j5 (j5 (o9 (tn (sz0 1 s rfl fun a s=>?_)))))
 obtain rfl:=oi u
 exact q1 s rfl (d.ret rfl)
abbrev a9X (w0:World) (X:List Nat) (b2:Nat) (r:((List Int) × Dice)):(Nat→Prop)→World→Value→Prop:=fun S w v=>∃ p0_0 k0_0 c0_0 pq0_0 kq0_0,v=sl p0_0 k0_0 r.1∧Outs X w0 S w [.row p0_0 r.1.length k0_0 c0_0 3 1,.box b2 (C87 r.2 pq0_0 kq0_0) 87]∧(l7 c0_0 r.1).p S w∧(Sq pq0_0 kq0_0 r.2.L).p S w
theorem a9W {w0 S0 b2 p3 k4 d1 n6 r} (u:a4e d1 n6=some r) (hS:Dm S0 w0) (hin:Ins S0 w0 [.box b2 (C87 d1 p3 k4) 87]) (h5:(Sq p3 k4 d1.L).p S0 w0):Calls Tryz.prog 81 #[pt b2,iv n6] w0 (Ret (I8 [.box b2 (C87 d1 p3 k4) 87]) w0 S0 (a9X w0 (I8 [.box b2 (C87 d1 p3 k4) 87]) b2 r)):=by
 refine enI 47 func81 rfl hS hin rfl rfl rfl fun a s d=>?_
 have d:=d.addE h5
 refine sz0 1 s rfl fun a s=>?_
 refine sz0 1 s rfl fun a s=>?_
 refine sz0 1 s rfl fun a s=>?_
 refine wp_seq (sn0 2 s rfl fun a s=>?_)
 obtain ⟨rv8,h7,u⟩:=bt u
 refine cR s (y5 h7 d.dom (d.ins [0] (by decide) rfl) (d.envAt 0 rfl)) (j3 call30 rfl) rfl ?_
 rintro v15 Sv12 w a h13 ⟨p9,k10,rfl,h16,h11⟩ s
 have d:=(d.callO [0] [] (by decide) rfl h13 h16).addE (e:=Sq p9 k10 rv8.2.L) h11
 refine sv s (a9j rfl rfl) rfl fun a s=>?_
 obtain ⟨i18,h17,u⟩:=bt u
 refine sv s (o8 rfl h17) rfl fun a s=>?_
 refine nl ?_
 obtain ⟨e329,h569,u⟩:=bt u
 refine q8 (fun a w=>∃ p330 k331 c332 p333 k334 Sv335,Sl 47 [(5,sl p333 k334 e329.2.2)] a∧Wd ⟨w0,S0,I8 [.box b2 (C87 d1 p3 k4) 87]⟩ Sv335 [.box b2 [sl p330 k331 e329.1,iv e329.2.1] 87,.row p333 e329.2.2.length k334 c332 3 1] [Sq p330 k331 e329.1,l7 c332 e329.2.2] w) ?_ ?_
 ·refine wp_block ?_
  have d:=d.nilRow Int 3
  refine u7 (fun sv19 a w=>∃ p222 k223 c224 p225 k226 Sv227,Sl 47 [(0,pt b2),(5,sl p225 k226 sv19.2.2.1),(6,iv sv19.2.2.2.1),(7,iv sv19.2.2.2.2)] a∧Wd ⟨w0,S0,I8 [.box b2 (C87 d1 p3 k4) 87]⟩ Sv227 [.box b2 [sl p222 k223 sv19.1,iv sv19.2.1] 87,.row p225 sv19.2.2.1.length k226 c224 3 1] [Sq p222 k223 sv19.1,l7 c224 sv19.2.2.1] w) (rv8.2.L,rv8.2.At,([]:List Int),0,i18) h569 ⟨p9,k10,[],none,0,Sv12,wj s d [1,0] [1,0]⟩ ?_
  clear h569
  repeat clear u
  rintro sv19 a w tv327 ⟨p222,k223,c224,p225,k226,Sv227,s,d⟩ u hd326
  refine wp_seq (sz0 2 s rfl fun a s=>?_)
  refine cd s u rfl (fun u=>?_) fun u=>?_
  ·refine sk (wp_seq (wp_block (wp_seq (sn0 3 s rfl fun a s=>?_))))
   obtain ⟨c444,hc444,u⟩:=bt u
   refine C7 4 (fun a w=>∃ p445 k446 Sv447,Sl 47 [(0,pt b2),(5,sl p225 k226 sv19.2.2.1),(6,iv sv19.2.2.2.1),(7,iv sv19.2.2.2.2),(23,.bool c444.2.2)] a∧Wd ⟨w0,S0,I8 [.box b2 (C87 d1 p3 k4) 87]⟩ Sv447 [.box b2 [sl p445 k446 c444.1,iv c444.2.1] 87,.row p225 sv19.2.2.1.length k226 c224 3 1] [Sq p445 k446 c444.1,l7 c224 sv19.2.2.1] w) ?_ ?_
   ·rcases Bool.eq_false_or_eq_true (sv19.2.2.2.1 == 0) with h443 | h443
    ·have s:=s.bT 19 rfl h443
     have u:=E9 hc444 h443
     refine I6 s (O5 rfl) ⟨_,rfl,rfl⟩ rfl rfl fun a s=>?_
     obtain ⟨rv449,h448,u⟩:=bt u
     refine x9 s (y5 h448 d.dom (d.ins [0] (by decide) rfl) (d.envAt 0 rfl)) (j3 call30 rfl) ⟨_,rfl,rfl⟩ rfl rfl ?_
     rintro v456 Sv453 w a h454 ⟨p450,k451,rfl,h457,h452⟩ s
     have d:=(d.callO [0] [1] (by decide) rfl h454 h457).addE (e:=Sq p450 k451 rv449.2.L) h452
     refine rn0 2 s rfl fun a s=>?_
     refine wpList_nil ?_
     obtain rfl:=oi u
     exact tn ⟨p450,k451,Sv453,wj s d [0,1] [0,2]⟩
    have s:=s.bF 19 rfl h443
    have u:=F7 hc444 h443
    refine rn0 4 s rfl fun a s=>?_
    refine wpList_nil ?_
    obtain rfl:=oi u
    exact tn ⟨p222,k223,Sv227,wj s d [0,1] [0,1]⟩
   rintro a w ⟨p445,k446,Sv447,s,d⟩
   refine nl (q8 (fun a w=>∃ (x474:(List Int)) (x475:Int) (loud476:Int) (p471 k472 Sv473:_),a0F sv19 x474 x475 loud476=some tv327∧Sl 47 [(0,pt b2),(5,sl p225 k226 sv19.2.2.1),(6,iv loud476),(7,iv sv19.2.2.2.2)] a∧Wd ⟨w0,S0,I8 [.box b2 (C87 d1 p3 k4) 87]⟩ Sv473 [.box b2 [sl p471 k472 x474,iv x475] 87,.row p225 sv19.2.2.1.length k226 c224 3 1] [Sq p471 k472 x474,l7 c224 sv19.2.2.1] w) ?_ ?_)
   ·refine cd s u rfl (fun u=>?_) fun u=>?_
    ·refine wp_region_lit (mv s rfl rfl fun a s=>?_)
     obtain ⟨rv557,h556,u⟩:=bt u
     refine cR s (y5 h556 d.dom (d.ins [0] (by decide) rfl) (d.envAt 0 rfl)) (j3 call30 rfl) rfl ?_
     rintro v564 Sv561 w a h562 ⟨p558,k559,rfl,h565,h560⟩ s
     have d:=(d.callO [0] [1] (by decide) rfl h562 h565).addE (e:=Sq p558 k559 rv557.2.L) h560
     refine sv s (a9j rfl rfl) rfl fun a s=>?_
     obtain ⟨loud567,h566,u⟩:=bt u
     refine sv s (o8 rfl h566) rfl fun a s=>?_
     exact nl ⟨rv557.2.L,rv557.2.At,loud567,p558,k559,Sv561,u,wj s d [0,1] [0,2]⟩
    exact sk ⟨c444.1,c444.2.1,sv19.2.2.2.1,p445,k446,Sv447,u,wj s d [0,1] [0,1]⟩
   rintro a w ⟨x474,x475,loud476,p471,k472,Sv473,u,s,d⟩
   refine tn (sn0 1 s rfl fun a s=>?_)
   obtain ⟨rv478,h477,u⟩:=bt u
   refine cR s (y5 h477 d.dom (d.ins [0] (by decide) rfl) (d.envAt 0 rfl)) (j3 call30 rfl) rfl ?_
   rintro v485 Sv482 w a h483 ⟨p479,k480,rfl,h486,h481⟩ s
   have d:=(d.callO [0] [1] (by decide) rfl h483 h486).addE (e:=Sq p479 k480 rv478.2.L) h481
   refine sv s (y_sub rfl rfl) rfl fun a s=>?_
   obtain ⟨x488,h487,u⟩:=bt u
   refine sv s (o8 rfl h487) rfl fun a s=>?_
   refine nl (wp_seq (sz0 2 s rfl fun a s=>?_))
   refine q8 (fun a w=>∃ (x517:(List Int)) (x518:Int) (loud519:Int) (x520:Int) (p514 k515 Sv516:_),a0G sv19 x517 x518 loud519 x520=some tv327∧Sl 47 [(0,pt b2),(5,sl p225 k226 sv19.2.2.1),(6,iv loud519),(7,iv sv19.2.2.2.2),(8,iv x520)] a∧Wd ⟨w0,S0,I8 [.box b2 (C87 d1 p3 k4) 87]⟩ Sv516 [.box b2 [sl p514 k515 x517,iv x518] 87,.row p225 sv19.2.2.1.length k226 c224 3 1] [Sq p514 k515 x517,l7 c224 sv19.2.2.1] w) ?_ ?_
   ·refine cd s u rfl (fun u=>?_) fun u=>?_
    ·refine sn0 1 s rfl fun a s=>?_
     obtain ⟨rv532,h531,u⟩:=bt u
     refine cR s (y5 h531 d.dom (d.ins [0] (by decide) rfl) (d.envAt 0 rfl)) (j3 call30 rfl) rfl ?_
     rintro v539 Sv536 w a h537 ⟨p533,k534,rfl,h540,h535⟩ s
     have d:=(d.callO [0] [1] (by decide) rfl h537 h540).addE (e:=Sq p533 k534 rv532.2.L) h535
     refine rn0 2 s rfl fun a s=>?_
     obtain ⟨rv542,h541,u⟩:=bt u
     refine cR s (y5 h541 d.dom (d.ins [0] (by decide) rfl) (d.envAt 0 rfl)) (j3 call30 rfl) rfl ?_
     rintro v549 Sv546 w a h547 ⟨p543,k544,rfl,h550,h545⟩ s
     have d:=(d.callO [0] [1] (by decide) rfl h547 h550).addE (e:=Sq p543 k544 rv542.2.L) h545
     refine rn0 3 s rfl fun a s=>?_
     obtain ⟨x552,h551,u⟩:=bt u
     refine sv s (o8 rfl h551) rfl fun a s=>?_
     refine nl (wp_region_lit (rn0 2 s rfl fun a s=>?_))
     obtain ⟨loud554,h553,u⟩:=bt u
     refine sv s (o8 rfl h553) rfl fun a s=>?_
     exact nl ⟨rv542.2.L,rv542.2.At,loud554,x552,p543,k544,Sv546,u,wj s d [0,1] [0,4]⟩
    exact sk ⟨rv478.2.L,rv478.2.At,loud476,x488,p479,k480,Sv482,u,wj s d [0,1] [0,2]⟩
   rintro a w ⟨x517,x518,loud519,x520,p514,k515,Sv516,u,s,d⟩
   refine tn (wp_region_lit (rn0 2 s rfl fun a s=>?_))
   refine o7 (α:=Int) (vs:=[iv x520]) (cs:=[iv x520]) (xs:=([x520]:List Int)) s d S9 rfl rfl rfl rfl rfl rfl ⟨⟨_,rfl,rfl⟩,rfl⟩ rfl trivial rfl fun b522 a w s d=>?_
   obtain ⟨l524,h523,u⟩:=bt u
   refine F4 (α:=Int) s d S9 2 rfl rfl rfl 2 rfl 0 rfl 0 rfl h523 rfl trivial ?_
   intro p525 k526 c527 a w s d
   refine av s rfl rfl fun a s=>?_
   refine wpList_nil ?_
   refine l8 (tn (wp_region_lit (rn0 2 s rfl fun a s=>?_)))
   obtain ⟨i529,h528,u⟩:=bt u
   refine sv s (o8 rfl h528) rfl fun a s=>?_
   exact nl ⟨_,io u,p514,k515,c527,p525,k526,Sv516,wj s d [1,2] [2,0]⟩
  refine wp_exit (j5 (j5 (o9 ?_)))
  obtain rfl:=oi u
  have h568:=hd326 _ rfl
  subst h568
  exact tn ⟨p222,k223,c224,p225,k226,Sv227,wj s d [0,1] [0,1]⟩
 rintro a w ⟨p330,k331,c332,p333,k334,Sv335,s,d⟩
 refine tn (sz0 2 s rfl fun a s=>?_)
 obtain rfl:=oi u
 exact q1 s rfl (d.ret ⟨p333,k334,c332,p330,k331,rfl,(d.outs [1,0] (by decide) rfl),(d.envAt 1 rfl),(d.envAt 0 rfl)⟩)
abbrev a8o (w0:World) (X:List Nat) (b2:Nat) (r:(Segment × Dice)):(Nat→Prop)→World→Value→Prop:=fun S w v=>∃ p0_5 k0_5 c0_5 pq0_0 kq0_0,v=V64 r.1 p0_5 k0_5∧Outs X w0 S w [.row p0_5 r.1.Samples.length k0_5 c0_5 3 1,.box b2 (C87 r.2 pq0_0 kq0_0) 87]∧(l7 c0_5 r.1.Samples).p S w∧(Sq pq0_0 kq0_0 r.2.L).p S w
theorem a5k {w0 S0 b2 p3 k4 d1 n6 r} (u:Y4 d1 n6=some r) (hS:Dm S0 w0) (hin:Ins S0 w0 [.box b2 (C87 d1 p3 k4) 87]) (h5:(Sq p3 k4 d1.L).p S0 w0):Calls Tryz.prog 41 #[pt b2,iv n6] w0 (Ret (I8 [.box b2 (C87 d1 p3 k4) 87]) w0 S0 (a8o w0 (I8 [.box b2 (C87 d1 p3 k4) 87]) b2 r)):=by
 refine enI 22 func41 rfl hS hin rfl rfl rfl fun a s d=>?_
 have d:=d.addE h5
 refine sr (wa Z19 s d zeroValue64 fun b7 a w s d=>?_)
 refine nl (sn0 1 s rfl fun a s=>?_)
 obtain ⟨rv9,h8,u⟩:=bt u
 refine cR s (y5 h8 d.dom (d.ins [1] (by decide) rfl) (d.envAt 0 rfl)) (j3 call30 rfl) rfl ?_
 rintro v16 Sv13 w a h14 ⟨p10,k11,rfl,h17,h12⟩ s
 have d:=(d.callO [1] [0] (by decide) rfl h14 h17).addE (e:=Sq p10 k11 rv9.2.L) h12
 refine rn0 2 s rfl fun a s=>?_
 refine o7 (α:=Int) (vs:=[iv 0,iv 0,iv 5]) (cs:=[iv 0,iv 0,iv 5]) (xs:=([0,0,5]:List Int)) s d S9 rfl rfl rfl rfl rfl rfl ⟨⟨_,rfl,rfl⟩,⟨⟨_,rfl,rfl⟩,⟨⟨_,rfl,rfl⟩,rfl⟩⟩⟩ rfl trivial rfl fun b19 a w s d=>?_
 obtain ⟨rv21,h20,u⟩:=bt u
 obtain ⟨Sv25,d⟩:=D6 (α:=Int) d 0 rfl 0 rfl
 refine cR s (D8 h20 d.dom (d.ins [0] (by decide) rfl) (d.envAt 2 rfl) (d.envAt 0 rfl)) (j3 call24 rfl) rfl ?_
 rintro v29 Sv26 w a h27 ⟨p22,k23,rfl,h30,h24⟩ s
 have d:=(d.callO [0] [1] (by decide) rfl h27 h30).addE (e:=Sq p22 k23 rv21.2.L) h24
 refine mv s rfl rfl fun a s=>?_
 refine o7 (α:=Int) (vs:=Z20) (cs:=Z20) (xs:=([1,4,20,3]:List Int)) s d S9 rfl rfl rfl rfl rfl rfl ⟨⟨_,rfl,rfl⟩,⟨⟨_,rfl,rfl⟩,⟨⟨_,rfl,rfl⟩,⟨⟨_,rfl,rfl⟩,rfl⟩⟩⟩⟩ rfl trivial rfl fun b32 a w s d=>?_
 obtain ⟨rv34,h33,u⟩:=bt u
 obtain ⟨Sv38,d⟩:=D6 (α:=Int) d 0 rfl 0 rfl
 refine cR s (D8 h33 d.dom (d.ins [0] (by decide) rfl) (d.envAt 2 rfl) (d.envAt 0 rfl)) (j3 call24 rfl) rfl ?_
 rintro v42 Sv39 w a h40 ⟨p35,k36,rfl,h43,h37⟩ s
 have d:=(d.callO [0] [1] (by decide) rfl h40 h43).addE (e:=Sq p35 k36 rv34.2.L) h37
 refine sv s (D7 (vs:=[(0,iv rv34.1),(1,iv 1)]) b4b rfl rfl) rfl fun a s=>?_
 refine mv s rfl rfl fun a s=>?_
 refine o7 (α:=Int) (vs:=Z21) (cs:=Z21) (xs:=([0,10,2000000]:List Int)) s d S9 rfl rfl rfl rfl rfl rfl ⟨⟨_,rfl,rfl⟩,⟨⟨_,rfl,rfl⟩,⟨⟨_,rfl,rfl⟩,rfl⟩⟩⟩ rfl trivial rfl fun b45 a w s d=>?_
 obtain ⟨rv47,h46,u⟩:=bt u
 obtain ⟨Sv51,d⟩:=D6 (α:=Int) d 0 rfl 0 rfl
 refine cR s (D8 h46 d.dom (d.ins [0] (by decide) rfl) (d.envAt 2 rfl) (d.envAt 0 rfl)) (j3 call24 rfl) rfl ?_
 rintro v55 Sv52 w a h53 ⟨p48,k49,rfl,h56,h50⟩ s
 have d:=(d.callO [0] [1] (by decide) rfl h53 h56).addE (e:=Sq p48 k49 rv47.2.L) h50
 refine rn0 2 s rfl fun a s=>?_
 obtain ⟨rv58,h57,u⟩:=bt u
 refine cR s (a9W h57 d.dom (d.ins [0] (by decide) rfl) (d.envAt 0 rfl)) (j3 call81 rfl) rfl ?_
 rintro v69 Sv66 w a h67 ⟨p59,k60,c62,p63,k64,rfl,h70,h61,h65⟩ s
 have d:=((d.callO [0] [1] (by decide) rfl h67 h70).addE (e:=l7 c62 rv58.1) h61).addE (e:=Sq p63 k64 rv58.2.L) h65
 refine sv s (D7 (vs:=[(0,iv (w64 (1000000000000+rv9.1))),(1,iv rv21.1),(2,.agg #[iv rv34.1,iv 1]),(3,iv rv47.1),(4,sl p59 k60 rv58.1)]) Bld64 rfl rfl) rfl fun a s=>?_
 refine ws [iv (w64 (1000000000000+rv9.1)),iv rv21.1,iv rv34.1,iv 1,iv rv47.1,sl p59 k60 rv58.1] s d 2 rfl rfl rfl sizeOf64 fun a w s d=>?_
 refine nl ?_
 obtain rfl:=oi u
 exact wp_ret (b2m s rfl (K4 d 2 rfl rfl isAgg64 sizeOf64 rfl) (d.ret ⟨p59,k60,c62,p63,k64,rfl,(d.outs [0,1] (by decide) rfl),(d.envAt 1 rfl),(d.envAt 0 rfl)⟩))
theorem a1n {w0 S0 p2 k3 g6 f7 cp8 s1} {f5:Segment→Option Bool} {r} (u:M6 s1 f5=some r) (hS:Dm S0 w0) (h4:(Sq p2 k3 s1).p S0 w0) (h9:(a5Q Tryz.prog g6 f7 cp8 f5).p S0 w0):Ck Tryz.prog 104 #[sl p2 k3 s1,.func (.func g6) f7.toArray cp8.toArray] w0 S0 [] j4 r:=by
 refine en 19 func104 rfl hS rfl rfl rfl fun a s d=>?_
 have d:=(d.addE h4).addE h9
 refine sz0 1 s rfl fun a s=>?_
 refine wp_seq (sz0 3 s rfl fun a s=>?_)
 refine wp_block (u7 (fun sv90 a w=>∃ Sv142,Sl 19 [(0,sl p2 k3 s1),(1,.func (.func g6) f7.toArray cp8.toArray),(7,iv (s1.length:Int)),(8,iv sv90)] a∧Wd ⟨w0,S0,[]⟩ Sv142 [] [Sq p2 k3 s1,a5Q Tryz.prog g6 f7 cp8 f5] w) 0 u ⟨S0,wj s d [] [1,0]⟩ ?_)
 repeat clear u
 rintro sv90 a w tv169 ⟨Sv142,s,d⟩ u hd168
 refine sz0 1 s rfl fun a s=>?_
 refine wp_seq (cd s u rfl (fun u=>?_) fun u=>?_)
 ·refine sk (wp_seq (wp_block (sz0 2 s rfl fun a s=>?_)))
  refine sn0 3 s rfl fun a s=>?_
  obtain ⟨x200,h198,u⟩:=bt u
  obtain ⟨b206,o207,q204,c205,h208,h201,h202,h203,h199⟩:=d.elemV 0 rfl h198
  have hsv209:=s
  have hwv210:=d
  subst h208
  have s:=hsv209
  have d:=hwv210
  obtain ⟨_,_,_,_,_,_,rfl,rfl,rfl,rfl,rfl,rfl,⟨p211,n212,k213,rfl,h214⟩⟩:=h199
  obtain rfl:=h214.1
  have d:=(d.addE (e:=SlA p211 _ k213 x200.Samples) h214).addE h203
  refine sv s (o6 runUnderlying60 sizeOf64 rfl rfl h201.1 h201.2 h202) rfl fun a s=>?_
  refine sv s (G5 (j:=0) (d.ceAt 0 rfl) rfl isAgg64 sizeOf64 rfl rfl) rfl fun a s=>?_
  obtain ⟨rv216,h215,u⟩:=bt u
  refine x9 s ((d.bE 3 rfl).2 a4B.rfl' d.bdom ⟨_,_,_,_,_,_,rfl,rfl,rfl,rfl,rfl,rfl,⟨_,_,_,rfl,d.bE 1 rfl⟩⟩ h215) (a5j (d.bE 3 rfl).1 rfl rfl) trivial rfl rfl ?_
  rintro v220 Sv217 w a h218 rfl s
  have d:=d.callB h218
  refine nl (cd s u rfl (fun u=>?_) fun u=>?_)
  ·refine sz0 2 s rfl fun a s=>?_
   obtain rfl:=oi u
   have h223:=hd168 _ rfl
   subst h223
   exact wp_ret (A8 (j6 (j6 (A8 (j6 (rt s rfl (d.ret rfl)))))))
  refine wp_skip (l8 (tn (wp_region_lit (rz0 2 s rfl fun a s=>?_))))
  exact ⟨_,io u,Sv142,wj s d [] [2,3]⟩
 obtain ⟨rv224,u,h225⟩:=a0x u
 have h225:=(hd168 _ h225.symm).symm
 subst h225
 refine wp_exit (j5 (j5 (o9 (tn (sz0 1 s rfl fun a s=>?_)))))
 obtain rfl:=oi u
 exact q1 s rfl (d.ret rfl)
theorem a0Q {w0 S0 p2 k3 g6 f7 cp8 s1} {f5:Segment→Option Bool} {r} (u:H7 s1 f5=some r) (hS:Dm S0 w0) (h4:(Sq p2 k3 s1).p S0 w0) (h9:(a5Q Tryz.prog g6 f7 cp8 f5).p S0 w0):Ck Tryz.prog 72 #[sl p2 k3 s1,.func (.func g6) f7.toArray cp8.toArray] w0 S0 [] u6 r:=by
 refine en 9 func72 rfl hS rfl rfl rfl fun a s d=>?_
 have d:=(d.addE h4).addE h9
 refine sz0 1 s rfl fun a s=>?_
 refine sn0 2 s rfl fun a s=>?_
 obtain ⟨rv11,h10,u⟩:=bt u
 refine cV s d (a1n h10 d.bdom (d.bE 1 rfl) (d.bE 0 rfl)) (j3 call104 rfl) rfl fun a w s d=>?_
 refine rz0 2 s rfl fun a s=>?_
 obtain rfl:=oi u
 exact q1 s rfl (d.ret rfl)
theorem a6Q {w0 S0 p2 k3 s1 r} (u:a0s s1=some r) (hS:Dm S0 w0) (h4:(Sq p2 k3 s1.Samples).p S0 w0):Ck Tryz.prog 73 #[V64 s1 p2 k3] w0 S0 [] u6 r:=by
 refine en 6 func73 rfl hS rfl rfl rfl fun a s d=>?_
 have d:=d.addE h4
 refine sr (wb (C64 s1 p2 k3) s d rfl fun b5 a w s d=>?_)
 refine rz0 1 s rfl fun a s=>?_
 refine sn 1 [0] s d rfl rfl fun a s=>?_
 obtain ⟨rv7,h6,u⟩:=bt u
 refine cV s d (a0k h6 d.bdom (d.bE 0 rfl)) (j3 call45 rfl) rfl fun a w s d=>?_
 refine rz0 2 s rfl fun a s=>?_
 obtain rfl:=oi u
 exact q1 s rfl (d.ret rfl)
theorem a6P (S0:Nat→Prop) (w0:World):(a5Q Tryz.prog 73 [] [] a0s).p S0 w0:=by
  refine ⟨call73,?_⟩
  rintro S1 w1 hk hS c0 x0 r1 ⟨_,_,_,_,_,_,rfl,rfl,rfl,rfl,rfl,rfl,⟨_,_,_,rfl,e0⟩⟩ hf
  obtain rfl:=e0.1
  exact a6Q hf hS e0
theorem a8F {w0 S0 g3 f4 cp5 n1} {f2:Int→Option Bool} {r} (u:sort_Search n1 f2=some r) (hS:Dm S0 w0) (h6:(a5Q Tryz.prog g3 f4 cp5 f2).p S0 w0):Ck Tryz.prog 105 #[iv n1,.func (.func g3) f4.toArray cp5.toArray] w0 S0 [] j4 r:=by
 refine en 26 func105 rfl hS rfl rfl rfl fun a s d=>?_
 have d:=d.addE h6
 refine sz0 1 s rfl fun a s=>?_
 refine sz0 3 s rfl fun a s=>?_
 refine wp_seq ?_
 obtain ⟨e64,h104,u⟩:=bt u
 refine q8 (fun a w=>∃ Sv65,Sl 26 [(5,iv e64)] a∧Wd ⟨w0,S0,[]⟩ Sv65 [] [] w) ?_ ?_
 ·refine wp_block (u7 (fun sv7 a w=>∃ Sv43,Sl 26 [(1,.func (.func g3) f4.toArray cp5.toArray),(5,iv sv7.1),(6,iv sv7.2)] a∧Wd ⟨w0,S0,[]⟩ Sv43 [] [a5Q Tryz.prog g3 f4 cp5 f2] w) (0,n1) h104 ⟨S0,wj s d [] [0]⟩ ?_)
  clear h104
  repeat clear u
  rintro sv7 a w tv62 ⟨Sv43,s,d⟩ u hd61
  refine wp_seq (sz0 3 s rfl fun a s=>?_)
  refine cd s u rfl (fun u=>?_) fun u=>?_
  ·refine sk (wp_block (sn0 3 s rfl fun a s=>?_))
   refine sv s (b3k runUnderlying3 runUnderlying146 rfl) rfl fun a s=>?_
   obtain ⟨shr85,h84,u⟩:=bt u
   refine sv s (y_shrM rfl rfl h84) rfl fun a s=>?_
   refine sv s (b3k runUnderlying146 runUnderlying3 rfl) rfl fun a s=>?_
   obtain ⟨h87,h86,u⟩:=bt u
   refine sv s (o8 rfl h86) rfl fun a s=>?_
   refine nl (sn0 2 s rfl fun a s=>?_)
   obtain ⟨rv89,h88,u⟩:=bt u
   refine x9 s ((d.bE 0 rfl).2 a4B.rfl' d.bdom ⟨_,rfl,rfl⟩ h88) (a5j (d.bE 0 rfl).1 rfl rfl) trivial rfl rfl ?_
   rintro v93 Sv90 w a h91 rfl s
   have d:=d.callB h91
   refine rz0 1 s rfl fun a s=>?_
   refine q8 (fun a w=>∃ (i98:Int) (j99:Int) (Sv97:_),a4t i98 j99=some tv62∧Sl 26 [(1,.func (.func g3) f4.toArray cp5.toArray),(5,iv i98),(6,iv j99)] a∧Wd ⟨w0,S0,[]⟩ Sv97 [] [a5Q Tryz.prog g3 f4 cp5 f2] w) ?_ ?_
   ·refine cd s u rfl (fun u=>?_) fun u=>?_
    ·refine wp_region_lit (rn0 2 s rfl fun a s=>?_)
     obtain ⟨i102,h101,u⟩:=bt u
     refine sv s (o8 rfl h101) rfl fun a s=>?_
     exact nl ⟨i102,sv7.2,Sv43,u,wj s d [] [0]⟩
    refine wp_region_lit (rz0 2 s rfl fun a s=>?_)
    exact ⟨sv7.1,h87,Sv43,u,wj s d [] [0]⟩
   rintro a w ⟨i98,j99,Sv97,u,s,d⟩
   exact l8 (tn ⟨_,io u,Sv97,wj s d [] [0]⟩)
  refine wp_exit (j5 (j5 (o9 ?_)))
  obtain rfl:=oi u
  have h103:=hd61 _ rfl
  subst h103
  exact tn ⟨Sv43,wj s d [] []⟩
 rintro a w ⟨Sv65,s,d⟩
 refine tn (sz0 2 s rfl fun a s=>?_)
 obtain rfl:=oi u
 exact q1 s rfl (d.ret rfl)
theorem a8v {w0 S0 b3 p4 k5 b9 i1 x2 x8 r} (u:Y6 i1 x2 x8=some r) (hS:Dm S0 w0) (h6:(CeA b3 0 (C56 x2 p4 k5)).p S0 w0) (h7:(Sq p4 k5 x2.Samples).p S0 w0) (h10:(CeA b9 0 [iv x8]).p S0 w0):Ck Tryz.prog 106 #[iv i1,pt b3,pt b9] w0 S0 [] u6 r:=by
 refine en 11 func106 rfl hS rfl rfl rfl fun a s d=>?_
 have d:=((d.addE h6).addE h7).addE h10
 refine sz0 1 s rfl fun a s=>?_
 refine wp_seq ?_
 obtain ⟨rv12,h11,u⟩:=bt u
 refine A9 (fun a w=>∃ Sv13,Sl 11 [(4,.bool (decide (x8<rv12)))] a∧Wd ⟨w0,S0,[]⟩ Sv13 [] [] w) ?_ ?_
 ·refine h_c [] [0,2] d rfl rfl (by kernel_rfl) rfl fun hC d=>?_
  refine gv s 0 rfl rfl hC (fun w hC=>G5 (j:=0) (hC.ceAt 1 rfl) rfl isAgg56 sizeOf56 rfl rfl) fun a s=>?_
  refine gn 2 [1,2] [] s hC rfl rfl rfl fun a s=>?_
  refine gv s 4 rfl rfl hC (fun w hC=>C8 (j:=0) (hC.ceAt 0 rfl) rfl isAgg3 rfl) fun a s=>?_
  refine ho 3 rfl ?_
  refine cV s d (a2C h11 d.bdom (d.bE 1 rfl)) (j3 call107 rfl) rfl fun a w s d=>?_
  refine h_n [] [0,2] d rfl rfl fun hC=>?_
  refine gn 2 [5,6] [] s hC rfl rfl rfl fun a s=>?_
  refine y7 (by kernel_rfl) ?_
  exact ⟨S0,wj s d [] []⟩
 rintro a w ⟨Sv13,s,d⟩
 refine tn ?_
 obtain rfl:=oi u
 exact q1 s rfl (d.ret rfl)
theorem a8u {S0 w0 b3 p4 k5 b9 x2 x8} (h6:(CeA b3 0 (C56 x2 p4 k5)).p S0 w0) (h7:(Sq p4 k5 x2.Samples).p S0 w0) (h10:(CeA b9 0 [iv x8]).p S0 w0):(a5Q Tryz.prog 106 [] [pt b3,pt b9] (fun y0=>Y6 y0 x2 x8)).p S0 w0:=by
  refine ⟨call106,?_⟩
  rintro S1 w1 hk hS c0 x0 r1 ⟨_,rfl,rfl⟩ hf
  exact a8v hf hS  (Asrt.mono _ hk h6) (Asrt.mono _ hk h7) (Asrt.mono _ hk h10)
end Go.Proofs.YtdcafiefjakfeaaGreat.Wk

/- The walks of RevisionApart, part 3: each Go function computes what its plain program computes. Printed by a program of ours. -/
import Derived.Test.YteanekphncdhiaaGreatProg
import Derived.Test.YteanekphncdhiaaGreatDat
import Derived.Test.YteanekphncdhiaaGreatSh
import Derived.Test.YteanekphncdhiaaGreatLa1
import Derived.Test.YteanekphncdhiaaGreatLa2
import Derived.Test.YteanekphncdhiaaGreatLibCh
import Derived.KernelRfl
import Derived.Test.YteanekphncdhiaaGreatLb1
import Derived.Shelf.SlLaysF0
import Derived.Test.YteanekphncdhiaaGreatWRevisionApart2
namespace Go.Proofs.YteanekphncdhiaaGreat.Wk
open Go Go.RowKit Go.Proofs Go.Proofs.YteanekphncdhiaaGreat.Sh Go.Proofs.Tryz
set_option linter.unusedVariables false
set_option linter.unusedSimpArgs false
set_option maxHeartbeats 4000000
set_option maxRecDepth 100000
theorem b0c {w0 S0 p2 k3 r1 r} (u:a3d r1=some r) (hS:Dm S0 w0) (h4:(Sq p2 k3 r1.Stages).p S0 w0):Ck Tryz.prog 113 #[.agg #[sl p2 k3 r1.Stages]] w0 S0 [] l5 r:=by
 refine en 40 func113 rfl hS rfl rfl rfl fun a s d=>?_
 have d:=d.addE h4
 refine sr (wb [sl p2 k3 r1.Stages] s d rfl fun b5 a w s d=>?_)
 refine rz0 1 s rfl fun a s=>?_
 refine sz0 1 s rfl fun a s=>?_
 refine wp_seq (sz0 1 s rfl fun a s=>?_)
 refine wp_block (u7 (fun sv188 a w=>∃ Sv308,Sl 40 [(1,pt b5),(3,iv sv188.1),(4,iv sv188.2)] a∧Wd ⟨w0,S0,[]⟩ Sv308 [.box b5 [sl p2 k3 r1.Stages] 39] [Sq p2 k3 r1.Stages] w) (1,0) u ⟨S0,wj s d [0] [0]⟩ ?_)
 repeat clear u
 rintro sv188 a w tv369 ⟨Sv308,s,d⟩ u hd368
 refine wp_seq (sz 5 [0] s d rfl rfl fun a s=>?_)
 refine cd s u rfl (fun u=>?_) fun u=>?_
 ·refine sk (wp_seq (wp_block (wp_seq (sn 3 [0] s d rfl rfl fun a s=>?_))))
  obtain ⟨x432,h430,u⟩:=bt u
  obtain ⟨b438,o439,q436,c437,h440,h433,h434,h435,h431⟩:=d.elemV 0 rfl h430
  have hsv441:=s
  have hwv442:=d
  subst h440
  have s:=hsv441
  have d:=hwv442
  obtain ⟨_,_,_,_,_,_,_,_,_,_,rfl,rfl,rfl,rfl,rfl,rfl,rfl,rfl,⟨p443,n444,k445,rfl,h446⟩,rfl,rfl⟩:=h431
  obtain rfl:=h446.1
  have d:=(d.addE (e:=SlA p443 _ k445 x432.Taps) h446).addE h435
  refine sv s (u6 runUnderlying37 sizeOf138 rfl rfl h433.1 h433.2 h434) rfl fun a s=>?_
  refine sv s (F4 (j:=0) (d.ceAt 0 rfl) rfl isAgg138 sizeOf138 rfl rfl) rfl fun a s=>?_
  obtain ⟨rv448,h447,u⟩:=bt u
  refine cV s d (a7x h447 d.bdom (d.bE 1 rfl)) (d9 call139 rfl) rfl fun a w s d=>?_
  refine rz0 1 s rfl fun a s=>?_
  refine cd s u rfl (fun u=>?_) fun u=>?_
  ·refine sz0 1 s rfl fun a s=>?_
   obtain rfl:=oi u
   have h457:=hd368 _ rfl
   subst h457
   exact wp_ret (j3 (o9 (j3 (j3 (o9 (j3 (rt s rfl (d.ret rfl))))))))
  refine sk (sn 3 [0] s d rfl rfl fun a s=>?_)
  obtain ⟨x460,h458,u⟩:=bt u
  obtain ⟨q464,c465,h461,h462,h463,h459⟩:=d.elemK 2 rfl h458
  obtain ⟨_,_,_,_,_,_,_,_,_,_,rfl,rfl,rfl,rfl,rfl,rfl,rfl,rfl,⟨p466,n467,k468,rfl,h469⟩,rfl,rfl⟩:=h459
  obtain rfl:=h469.1
  have d:=(d.addE (e:=SlA p466 _ k468 x460.Taps) h469).addE h463
  refine sv s (u6 runUnderlying37 sizeOf138 rfl rfl h461.1 h461.2 h462) rfl fun a s=>?_
  refine sv s (j6 (o':=q464+0) runUnderlying138 rfl sizeOf3 rfl rfl rfl) rfl fun a s=>?_
  refine sv s (G6 (j:=0) (d.ceAt 0 rfl) rfl isAgg3 rfl) rfl fun a s=>?_
  refine rz0 1 s rfl fun a s=>?_
  refine y7 (fun a w=>∃ (n487:Int) (Sv486:_),a2a sv188 n487=some tv369∧Sl 40 [(1,pt b5),(3,iv n487),(4,iv sv188.2)] a∧Wd ⟨w0,S0,[]⟩ Sv486 [.box b5 [sl (some ⟨b438,o439,none⟩) k3 r1.Stages] 39] [Sq (some ⟨b438,o439,none⟩) k3 r1.Stages] w) ?_ ?_
  ·refine cd s u rfl (fun u=>?_) fun u=>?_
   ·refine sn 4 [0] s d rfl rfl fun a s=>?_
    obtain ⟨x493,h491,u⟩:=bt u
    obtain ⟨q497,c498,h494,h495,h496,h492⟩:=d.elemK 4 rfl h491
    obtain ⟨_,_,_,_,_,_,_,_,_,_,rfl,rfl,rfl,rfl,rfl,rfl,rfl,rfl,⟨p499,n500,k501,rfl,h502⟩,rfl,rfl⟩:=h492
    obtain rfl:=h502.1
    have d:=(d.addE (e:=SlA p499 _ k501 x493.Taps) h502).addE h496
    refine sv s (u6 runUnderlying37 sizeOf138 rfl rfl h494.1 h494.2 h495) rfl fun a s=>?_
    refine sv s (j6 (o':=q497+8) runUnderlying138 rfl sizeOf3 rfl rfl rfl) rfl fun a s=>?_
    refine sv s (G6 (j:=8) (d.ceAt 0 rfl) rfl isAgg3 rfl) rfl fun a s=>?_
    refine sv s (y_mul rfl rfl) rfl fun a s=>?_
    obtain ⟨n504,h503,u⟩:=bt u
    refine sv s (r9 rfl h503) rfl fun a s=>?_
    refine nl (sz0 2 s rfl fun a s=>?_)
    refine cd s u rfl (fun u=>?_) fun u=>?_
    ·refine sz0 1 s rfl fun a s=>?_
     obtain rfl:=oi u
     have h507:=hd368 _ rfl
     subst h507
     exact wp_ret (j3 (o9 (j3 (j3 (o9 (j3 (rt s rfl (d.ret rfl))))))))
    exact sk ⟨n504,Sv308,u,wj s d [0] [6]⟩
   exact sk ⟨sv188.1,Sv308,u,wj s d [0] [4]⟩
  rintro a w ⟨n487,Sv486,u,s,d⟩
  refine l7 (tn (wp_region_lit (rn0 2 s rfl fun a s=>?_)))
  obtain ⟨i489,h488,u⟩:=bt u
  refine sv s (r9 rfl h488) rfl fun a s=>?_
  exact nl ⟨_,io u,Sv486,wj s d [0] [0]⟩
 obtain ⟨rv508,u,h509⟩:=a0l u
 have h509:=(hd368 _ h509.symm).symm
 subst h509
 refine wp_exit (j4 (j4 (q9 (tn (sz 5 [0] s d rfl rfl fun a s=>?_)))))
 obtain rfl:=oi u
 exact q1 s rfl (d.ret rfl)
theorem a0Q {w0 S0 p2 k3 e1 r} (u:a0T e1=some r) (hS:Dm S0 w0) (h4:(Sq p2 k3 e1.Response.Stages).p S0 w0):Ck Tryz.prog 65 #[V41 e1 p2 k3] w0 S0 [] l5 r:=by
 refine en 46 func65 rfl hS rfl rfl rfl fun a s d=>?_
 have d:=d.addE h4
 refine sr (wb (C41 e1 p2 k3) s d rfl fun b5 a w s d=>?_)
 refine rz0 1 s rfl fun a s=>?_
 refine sn 2 [0] s d rfl rfl fun a s=>?_
 refine wa [iv 0,iv 0,iv 0] s d zeroValue36 fun b6 a w s d=>?_
 refine ws (C36 e1.Position) s d 0 rfl rfl rfl sizeOf36 fun a w s d=>?_
 refine nl (sn 4 [1] s d rfl rfl fun a s=>?_)
 refine rA 6 9 [1,1] s d rfl rfl rfl rfl rfl fun a s=>?_
 refine mv s rfl rfl fun a s=>?_
 refine rA 4 16 [1] s d rfl rfl rfl rfl rfl fun a s=>?_
 refine mv s rfl rfl fun a s=>?_
 obtain ⟨c18,hc18,u⟩:=bt u
 refine o5 4 (fun a w=>∃ Sv19,Sl 46 [(1,pt b5),(3,pt b6),(25,.bool c18)] a∧Wd ⟨w0,S0,[]⟩ Sv19 [.box b5 (C41 e1 p2 k3) 41,.box b6 (C36 e1.Position) 36] [Sq p2 k3 e1.Response.Stages] w) ?_ ?_
 ·rcases Bool.eq_false_or_eq_true (((decide (0≤e1.From)) && (decide (e1.From<e1.To))) && (decide (e1.To≤9007199254740992))) with h17 | h17
  ·have s:=s.bT 21 rfl h17
   have u:=A9 hc18 h17
   refine rn 2 [1] s d rfl rfl fun a s=>?_
   obtain ⟨rv21,h20,u⟩:=bt u
   refine o7 s (b0b h20 d.bdom) (d9 call112 rfl) ⟨_,rfl,rfl⟩ rfl rfl ?_
   rintro v25 Sv22 w a h23 rfl s
   have d:=d.callB h23
   refine sv s (G7 rfl rfl) rfl fun a s=>?_
   refine wpList_nil ?_
   obtain rfl:=oi u
   exact tn ⟨S0,wj s d [1,0] [0]⟩
  have s:=s.bF 21 rfl h17
  have u:=C8 hc18 h17
  refine rn0 4 s rfl fun a s=>?_
  refine wpList_nil ?_
  obtain rfl:=oi u
  exact tn ⟨S0,wj s d [1,0] [0]⟩
 rintro a w ⟨Sv19,s,d⟩
 refine mv s rfl rfl fun a s=>?_
 obtain ⟨c37,hc37,u⟩:=bt u
 refine o5 4 (fun a w=>∃ Sv38,Sl 46 [(3,pt b6),(30,.bool c37)] a∧Wd ⟨w0,S0,[]⟩ Sv38 [.box b6 (C36 e1.Position) 36] [] w) ?_ ?_
 ·rcases Bool.eq_false_or_eq_true c18 with h36 | h36
  ·have s:=s.bT 26 rfl h36
   have u:=A9 hc37 h36
   refine rn 2 [0] s d rfl rfl fun a s=>?_
   obtain ⟨rv40,h39,u⟩:=bt u
   refine o7 s (b0c h39 d.bdom (d.bE 0 rfl)) (d9 call113 rfl) ⟨_,rfl,rfl⟩ rfl rfl ?_
   rintro v44 Sv41 w a h42 rfl s
   have d:=d.callB h42
   refine sv s (G7 rfl rfl) rfl fun a s=>?_
   refine wpList_nil ?_
   obtain rfl:=oi u
   exact tn ⟨Sv19,wj s d [1] []⟩
  have s:=s.bF 26 rfl h36
  have u:=C8 hc37 h36
  refine rn0 4 s rfl fun a s=>?_
  refine wpList_nil ?_
  obtain rfl:=oi u
  exact tn ⟨Sv19,wj s d [1] []⟩
 rintro a w ⟨Sv38,s,d⟩
 refine mv s rfl rfl fun a s=>?_
 obtain ⟨c56,hc56,u⟩:=bt u
 refine o5 4 (fun a w=>∃ Sv57,Sl 46 [(3,pt b6),(35,.bool c56)] a∧Wd ⟨w0,S0,[]⟩ Sv57 [.box b6 (C36 e1.Position) 36] [] w) ?_ ?_
 ·rcases Bool.eq_false_or_eq_true c37 with h55 | h55
  ·have s:=s.bT 31 rfl h55
   have u:=A9 hc56 h55
   refine rn 2 [0] s d rfl rfl fun a s=>?_
   obtain ⟨rv59,h58,u⟩:=bt u
   refine o7 s (O0 h58 d.bdom) (d9 call64 rfl) ⟨_,rfl,rfl⟩ rfl rfl ?_
   rintro v63 Sv60 w a h61 rfl s
   have d:=d.callB h61
   refine sv s (G7 rfl rfl) rfl fun a s=>?_
   refine wpList_nil ?_
   obtain rfl:=oi u
   exact tn ⟨Sv38,wj s d [0] []⟩
  have s:=s.bF 31 rfl h55
  have u:=C8 hc56 h55
  refine rn0 4 s rfl fun a s=>?_
  refine wpList_nil ?_
  obtain rfl:=oi u
  exact tn ⟨Sv38,wj s d [0] []⟩
 rintro a w ⟨Sv57,s,d⟩
 refine mv s rfl rfl fun a s=>?_
 obtain ⟨c75,hc75,u⟩:=bt u
 refine o5 4 (fun a w=>∃ Sv76,Sl 46 [(3,pt b6),(40,.bool c75)] a∧Wd ⟨w0,S0,[]⟩ Sv76 [.box b6 (C36 e1.Position) 36] [] w) ?_ ?_
 ·rcases Bool.eq_false_or_eq_true c56 with h74 | h74
  ·have s:=s.bT 36 rfl h74
   have u:=A9 hc75 h74
   refine rn 2 [0] s d rfl rfl fun a s=>?_
   obtain ⟨rv78,h77,u⟩:=bt u
   refine o7 s (O0 h77 d.bdom) (d9 call64 rfl) ⟨_,rfl,rfl⟩ rfl rfl ?_
   rintro v82 Sv79 w a h80 rfl s
   have d:=d.callB h80
   refine sv s (G7 rfl rfl) rfl fun a s=>?_
   refine wpList_nil ?_
   obtain rfl:=oi u
   exact tn ⟨Sv57,wj s d [0] []⟩
  have s:=s.bF 36 rfl h74
  have u:=C8 hc75 h74
  refine rn0 4 s rfl fun a s=>?_
  refine wpList_nil ?_
  obtain rfl:=oi u
  exact tn ⟨Sv57,wj s d [0] []⟩
 rintro a w ⟨Sv76,s,d⟩
 refine mv s rfl rfl fun a s=>?_
 obtain ⟨c94,hc94,u⟩:=bt u
 refine o5 4 (fun a w=>∃ Sv95,Sl 46 [(45,.bool c94)] a∧Wd ⟨w0,S0,[]⟩ Sv95 [] [] w) ?_ ?_
 ·rcases Bool.eq_false_or_eq_true c75 with h93 | h93
  ·have s:=s.bT 41 rfl h93
   have u:=A9 hc94 h93
   refine rn 2 [0] s d rfl rfl fun a s=>?_
   obtain ⟨rv97,h96,u⟩:=bt u
   refine o7 s (O0 h96 d.bdom) (d9 call64 rfl) ⟨_,rfl,rfl⟩ rfl rfl ?_
   rintro v101 Sv98 w a h99 rfl s
   have d:=d.callB h99
   refine sv s (G7 rfl rfl) rfl fun a s=>?_
   refine wpList_nil ?_
   obtain rfl:=oi u
   exact tn ⟨Sv76,wj s d [] []⟩
  have s:=s.bF 41 rfl h93
  have u:=C8 hc94 h93
  refine rn0 4 s rfl fun a s=>?_
  refine wpList_nil ?_
  obtain rfl:=oi u
  exact tn ⟨Sv76,wj s d [] []⟩
 rintro a w ⟨Sv95,s,d⟩
 refine rz0 1 s rfl fun a s=>?_
 obtain rfl:=oi u
 exact q1 s rfl (d.ret rfl)
theorem b0f {w0 S0 p2 k3 inv1 r} (u:a3f inv1=some r) (hS:Dm S0 w0) (h4:(Sq p2 k3 inv1.Channels).p S0 w0):Ck Tryz.prog 18 #[.agg #[sl p2 k3 inv1.Channels]] w0 S0 [] l5 r:=by
 refine en 84 func18 rfl hS rfl rfl rfl fun a s d=>?_
 have d:=d.addE h4
 refine sr (wb [sl p2 k3 inv1.Channels] s d rfl fun b5 a w s d=>?_)
 refine rz0 1 s rfl fun a s=>?_
 refine wp_seq (sz0 1 s rfl fun a s=>?_)
 refine wp_block (u7 (fun sv608 a w=>∃ Sv1008,Sl 84 [(1,pt b5),(3,iv sv608)] a∧Wd ⟨w0,S0,[]⟩ Sv1008 [.box b5 [sl p2 k3 inv1.Channels] 29] [Sq p2 k3 inv1.Channels] w) 0 u ⟨S0,wj s d [0] [0]⟩ ?_)
 repeat clear u
 rintro sv608 a w tv1209 ⟨Sv1008,s,d⟩ u hd1208
 refine wp_seq (sz 5 [0] s d rfl rfl fun a s=>?_)
 refine cd s u rfl (fun u=>?_) fun u=>?_
 ·refine sk (wp_seq (wp_block (sn 3 [0] s d rfl rfl fun a s=>?_)))
  obtain ⟨x1412,h1410,u⟩:=bt u
  obtain ⟨b1418,o1419,q1416,c1417,h1420,h1413,h1414,h1415,h1411⟩:=d.elemV 0 rfl h1410
  have hsv1421:=s
  have hwv1422:=d
  subst h1420
  have s:=hsv1421
  have d:=hwv1422
  obtain ⟨_,_,_,_,_,rfl,rfl,rfl,rfl,rfl,⟨p1423,n1424,k1425,rfl,h1426⟩⟩:=h1411
  obtain rfl:=h1426.1
  have d:=(d.addE (e:=SlA p1423 _ k1425 x1412.Epochs) h1426).addE h1415
  refine sv s (u6 runUnderlying27 sizeOf73 rfl rfl h1413.1 h1413.2 h1414) rfl fun a s=>?_
  refine sv s (F4 (j:=0) (d.ceAt 0 rfl) rfl isAgg73 sizeOf73 rfl rfl) rfl fun a s=>?_
  refine wa Z2 s d zeroValue73 fun b1427 a w s d=>?_
  refine ws (C73 x1412 p1423 k1425) s d 0 rfl rfl rfl sizeOf73 fun a w s d=>?_
  refine nl (wp_seq (wp_seq ?_))
  obtain ⟨rv1429,h1428,u⟩:=bt u
  obtain ⟨c1445,hc1445,u⟩:=bt u
  obtain ⟨c1448,hc1448,u⟩:=bt u
  refine A7 (fun a w=>∃ Sv1449,Sl 84 [(1,pt b5),(3,iv sv608),(4,pt b1427),(45,.bool c1448)] a∧Wd ⟨w0,S0,[]⟩ Sv1449 [.box b5 [sl (some ⟨b1418,o1419,none⟩) k3 inv1.Channels] 29,.box b1427 (C73 x1412 p1423 k1425) 73] [Sq (some ⟨b1418,o1419,none⟩) k3 inv1.Channels,Sq p1423 k1425 x1412.Epochs] w) ?_ ?_
  ·rcases Bool.eq_false_or_eq_true (!rv1429) with h1450 | h1450
   ·have h1451:=A9 hc1445 h1450
    have h1452:c1445=true:=(Option.some.inj h1451).symm
    have h1453:=A9 hc1448 h1452
    refine h_c [0,1] [0] d rfl rfl (by kernel_rfl) rfl fun hC d=>?_
    refine gn 2 [0,1] [0] s hC rfl rfl rfl fun a s=>?_
    refine ho 2 rfl ?_
    refine cV s d (a0S h1428 d.bdom) (d9 call62 rfl) rfl fun a w s d=>?_
    refine h_n [0,1] [0] d rfl rfl fun hC=>?_
    refine gn 2 [3,4] [] s hC rfl rfl rfl fun a s=>?_
    have s:=s.bT 22 rfl h1450
    refine gn 15 [5,6,7,8,9,10,11,12,13,14,15,16,17,18,19] [] s hC rfl rfl rfl fun a s=>?_
    refine gT s 20 rfl rfl hC rfl rfl h1451 fun a s=>?_
    refine gm s 21 rfl rfl rfl hC fun a s=>?_
    have s:=s.bT 39 rfl h1452
    refine gn 5 [22,23,24,25,26] [] s hC rfl rfl rfl fun a s=>?_
    refine gT s 27 rfl rfl hC rfl rfl h1453 fun a s=>?_
    refine y8 (by kernel_rfl) ?_
    exact ⟨Sv1008,wj s d [1,0] [2,1]⟩
   have h1460:=C8 hc1445 h1450
   obtain ⟨c1475,hc1475,h1460⟩:=T9 h1460
   rcases Bool.eq_false_or_eq_true (decide (0<sv608)) with h1476 | h1476
   ·have h1477:=A9 hc1475 h1476
    obtain ⟨x1480,h1478,h1477⟩:=T9 h1477
    obtain ⟨q1484,c1485,h1481,h1482,h1483,h1479⟩:=d.elemK 2 rfl h1478
    obtain ⟨_,_,_,_,_,rfl,rfl,rfl,rfl,rfl,⟨p1486,n1487,k1488,rfl,h1489⟩⟩:=h1479
    obtain rfl:=h1489.1
    have d:=(d.addE (e:=SlA p1486 _ k1488 x1480.Epochs) h1489).addE h1483
    obtain ⟨rv1491,h1490,h1477⟩:=T9 h1477
    rcases Bool.eq_false_or_eq_true c1445 with h1492 | h1492
    ·have h1493:=A9 hc1448 h1492
     refine h_c [0,1] [0,2] d rfl rfl (by kernel_rfl) rfl fun hC d=>?_
     refine gn 2 [0,1] [0] s hC rfl rfl rfl fun a s=>?_
     refine ho 2 rfl ?_
     refine cV s d (a0S h1428 d.bdom) (d9 call62 rfl) rfl fun a w s d=>?_
     refine h_n [0,1] [0,2] d rfl rfl fun hC=>?_
     refine gn 2 [3,4] [] s hC rfl rfl rfl fun a s=>?_
     have s:=s.bF 22 rfl h1450
     refine gn 3 [5,6,7] [] s hC rfl rfl rfl fun a s=>?_
     have s:=s.bT 25 rfl h1476
     refine gn 4 [8,9,10,11] [1] s hC rfl rfl rfl fun a s=>?_
     refine gx s 12 rfl ⟨_,rfl,rfl⟩ rfl hC runUnderlying27 sizeOf73 rfl rfl h1481 h1482 fun a s=>?_
     refine gt s 13 rfl ⟨_,rfl,rfl⟩ rfl hC (fun w hC=>j6 (o':=q1484+0) runUnderlying73 rfl sizeOf32 rfl rfl rfl) fun a s=>?_
     refine gt s 14 rfl ⟨_,rfl,rfl⟩ rfl hC (fun w hC=>F4 (j:=0) (hC.ceAt 0 rfl) rfl isAgg32 sizeOf32 rfl rfl) fun a s=>?_
     refine gn 2 [15,16] [0] s hC rfl rfl rfl fun a s=>?_
     refine ho 17 rfl ?_
     refine o7 s (a3R h1490 d.bdom) (d9 call63 rfl) ⟨_,rfl,rfl⟩ rfl rfl ?_
     rintro v1503 Sv1500 w a h1501 rfl s
     have d:=d.callB h1501
     refine h_n [0,1] [0,2] d rfl rfl fun hC=>?_
     refine gt s 18 rfl ⟨_,rfl,rfl⟩ rfl hC (fun w hC=>a9v rfl rfl) fun a s=>?_
     refine gt s 19 rfl ⟨_,rfl,rfl⟩ rfl hC (fun w hC=>a5L (v:=.bool c1475) rfl rfl (vbs h1477)) fun a s=>?_
     refine gF s 20 rfl rfl hC rfl rfl h1460 fun a s=>?_
     refine gm s 21 rfl rfl rfl hC fun a s=>?_
     have s:=s.bT 39 rfl h1492
     refine gn 5 [22,23,24,25,26] [] s hC rfl rfl rfl fun a s=>?_
     refine gT s 27 rfl rfl hC rfl rfl h1493 fun a s=>?_
     refine y8 (by kernel_rfl) ?_
     exact ⟨Sv1008,wj s d [1,0] [4,3]⟩
    have h1506:=C8 hc1448 h1492
    obtain ⟨rv1508,h1507,h1506⟩:=T9 h1506
    refine h_c [0,1] [0,2] d rfl rfl (by kernel_rfl) rfl fun hC d=>?_
    refine gn 2 [0,1] [0] s hC rfl rfl rfl fun a s=>?_
    refine ho 2 rfl ?_
    refine cV s d (a0S h1428 d.bdom) (d9 call62 rfl) rfl fun a w s d=>?_
    refine h_n [0,1] [0,2] d rfl rfl fun hC=>?_
    refine gn 2 [3,4] [] s hC rfl rfl rfl fun a s=>?_
    have s:=s.bF 22 rfl h1450
    refine gn 3 [5,6,7] [] s hC rfl rfl rfl fun a s=>?_
    have s:=s.bT 25 rfl h1476
    refine gn 4 [8,9,10,11] [1] s hC rfl rfl rfl fun a s=>?_
    refine gx s 12 rfl ⟨_,rfl,rfl⟩ rfl hC runUnderlying27 sizeOf73 rfl rfl h1481 h1482 fun a s=>?_
    refine gt s 13 rfl ⟨_,rfl,rfl⟩ rfl hC (fun w hC=>j6 (o':=q1484+0) runUnderlying73 rfl sizeOf32 rfl rfl rfl) fun a s=>?_
    refine gt s 14 rfl ⟨_,rfl,rfl⟩ rfl hC (fun w hC=>F4 (j:=0) (hC.ceAt 0 rfl) rfl isAgg32 sizeOf32 rfl rfl) fun a s=>?_
    refine gn 2 [15,16] [0] s hC rfl rfl rfl fun a s=>?_
    refine ho 17 rfl ?_
    refine o7 s (a3R h1490 d.bdom) (d9 call63 rfl) ⟨_,rfl,rfl⟩ rfl rfl ?_
    rintro v1518 Sv1515 w a h1516 rfl s
    have d:=d.callB h1516
    refine h_n [0,1] [0,2] d rfl rfl fun hC=>?_
    refine gt s 18 rfl ⟨_,rfl,rfl⟩ rfl hC (fun w hC=>a9v rfl rfl) fun a s=>?_
    refine gt s 19 rfl ⟨_,rfl,rfl⟩ rfl hC (fun w hC=>a5L (v:=.bool c1475) rfl rfl (vbs h1477)) fun a s=>?_
    refine gF s 20 rfl rfl hC rfl rfl h1460 fun a s=>?_
    refine gm s 21 rfl rfl rfl hC fun a s=>?_
    have s:=s.bF 39 rfl h1492
    refine gn 3 [22,23,24] [0] s hC rfl rfl rfl fun a s=>?_
    refine ho 25 rfl ?_
    refine o7 s (O0 h1507 d.bdom) (d9 call64 rfl) ⟨_,rfl,rfl⟩ rfl rfl ?_
    rintro v1524 Sv1521 w a h1522 rfl s
    have d:=d.callB h1522
    refine h_n [0,1] [0,2] d rfl rfl fun hC=>?_
    refine gt s 26 rfl ⟨_,rfl,rfl⟩ rfl hC (fun w hC=>a9w rfl) fun a s=>?_
    refine gF s 27 rfl rfl hC rfl rfl h1506 fun a s=>?_
    refine y8 (by kernel_rfl) ?_
    exact ⟨Sv1008,wj s d [1,0] [4,3]⟩
   have h1527:=C8 hc1475 h1476
   rcases Bool.eq_false_or_eq_true c1445 with h1528 | h1528
   ·have h1529:=A9 hc1448 h1528
    refine h_c [0,1] [0] d rfl rfl (by kernel_rfl) rfl fun hC d=>?_
    refine gn 2 [0,1] [0] s hC rfl rfl rfl fun a s=>?_
    refine ho 2 rfl ?_
    refine cV s d (a0S h1428 d.bdom) (d9 call62 rfl) rfl fun a w s d=>?_
    refine h_n [0,1] [0] d rfl rfl fun hC=>?_
    refine gn 2 [3,4] [] s hC rfl rfl rfl fun a s=>?_
    have s:=s.bF 22 rfl h1450
    refine gn 3 [5,6,7] [] s hC rfl rfl rfl fun a s=>?_
    have s:=s.bF 25 rfl h1476
    refine gn 11 [8,9,10,11,12,13,14,15,16,17,18] [] s hC rfl rfl rfl fun a s=>?_
    refine gt s 19 rfl ⟨_,rfl,rfl⟩ rfl hC (fun w hC=>a5K (v:=.bool c1475) rfl rfl (vbs h1527)) fun a s=>?_
    refine gF s 20 rfl rfl hC rfl rfl h1460 fun a s=>?_
    refine gm s 21 rfl rfl rfl hC fun a s=>?_
    have s:=s.bT 39 rfl h1528
    refine gn 5 [22,23,24,25,26] [] s hC rfl rfl rfl fun a s=>?_
    refine gT s 27 rfl rfl hC rfl rfl h1529 fun a s=>?_
    refine y8 (by kernel_rfl) ?_
    exact ⟨Sv1008,wj s d [1,0] [2,1]⟩
   have h1536:=C8 hc1448 h1528
   obtain ⟨rv1538,h1537,h1536⟩:=T9 h1536
   refine h_c [0,1] [0] d rfl rfl (by kernel_rfl) rfl fun hC d=>?_
   refine gn 2 [0,1] [0] s hC rfl rfl rfl fun a s=>?_
   refine ho 2 rfl ?_
   refine cV s d (a0S h1428 d.bdom) (d9 call62 rfl) rfl fun a w s d=>?_
   refine h_n [0,1] [0] d rfl rfl fun hC=>?_
   refine gn 2 [3,4] [] s hC rfl rfl rfl fun a s=>?_
   have s:=s.bF 22 rfl h1450
   refine gn 3 [5,6,7] [] s hC rfl rfl rfl fun a s=>?_
   have s:=s.bF 25 rfl h1476
   refine gn 11 [8,9,10,11,12,13,14,15,16,17,18] [] s hC rfl rfl rfl fun a s=>?_
   refine gt s 19 rfl ⟨_,rfl,rfl⟩ rfl hC (fun w hC=>a5K (v:=.bool c1475) rfl rfl (vbs h1527)) fun a s=>?_
   refine gF s 20 rfl rfl hC rfl rfl h1460 fun a s=>?_
   refine gm s 21 rfl rfl rfl hC fun a s=>?_
   have s:=s.bF 39 rfl h1528
   refine gn 3 [22,23,24] [0] s hC rfl rfl rfl fun a s=>?_
   refine ho 25 rfl ?_
   refine o7 s (O0 h1537 d.bdom) (d9 call64 rfl) ⟨_,rfl,rfl⟩ rfl rfl ?_
   rintro v1548 Sv1545 w a h1546 rfl s
   have d:=d.callB h1546
   refine h_n [0,1] [0] d rfl rfl fun hC=>?_
   refine gt s 26 rfl ⟨_,rfl,rfl⟩ rfl hC (fun w hC=>a9w rfl) fun a s=>?_
   refine gF s 27 rfl rfl hC rfl rfl h1536 fun a s=>?_
   refine y8 (by kernel_rfl) ?_
   exact ⟨Sv1008,wj s d [1,0] [2,1]⟩
  rintro a w ⟨Sv1449,s,d⟩
  refine tn (cd s u rfl (fun u=>?_) fun u=>?_)
  ·refine sz0 1 s rfl fun a s=>?_
   obtain rfl:=oi u
   have h1553:=hd1208 _ rfl
   subst h1553
   exact wp_ret (j3 (o9 (j3 (j3 (o9 (j3 (rt s rfl (d.ret rfl))))))))
  refine sk (sz0 1 s rfl fun a s=>?_)
  refine wp_block (u7 (fun sv1709 a w=>∃ Sv1811,Sl 84 [(1,pt b5),(3,iv sv608),(4,pt b1427),(5,iv sv1709)] a∧Wd ⟨w0,S0,[]⟩ Sv1811 [.box b5 [sl (some ⟨b1418,o1419,none⟩) k3 inv1.Channels] 29,.box b1427 (C73 x1412 p1423 k1425) 73] [Sq (some ⟨b1418,o1419,none⟩) k3 inv1.Channels,Sq p1423 k1425 x1412.Epochs] w) 0 u ⟨Sv1449,wj s d [0,1] [0,1]⟩ ?_)
  repeat clear u
  rintro sv1709 a w tv1863 ⟨Sv1811,s,d⟩ u hd1862
  refine wp_seq (sz 5 [1] s d rfl rfl fun a s=>?_)
  refine cd s u rfl (fun u=>?_) fun u=>?_
  ·refine sk (wp_seq (wp_block (wp_seq ?_)))
   obtain ⟨x1917,h1915,u⟩:=bt u
   obtain ⟨b1923,o1924,q1921,c1922,h1925,h1918,h1919,h1920,h1916⟩:=d.elemV 1 rfl h1915
   have hsv1926:=s
   have hwv1927:=d
   subst h1925
   have s:=hsv1926
   have d:=hwv1927
   obtain ⟨_,_,_,_,_,_,_,_,rfl,rfl,rfl,rfl,rfl,rfl,rfl,rfl,⟨p1928,n1929,k1930,rfl,h1931⟩⟩:=h1916
   obtain rfl:=h1931.1
   have d:=(d.addE (e:=SlA p1928 _ k1930 x1917.Response.Stages) h1931).addE h1920
   obtain ⟨rv1933,h1932,u⟩:=bt u
   obtain ⟨c1959,hc1959,u⟩:=bt u
   refine A7 (fun a w=>∃ Sv1960,Sl 84 [(1,pt b5),(3,iv sv608),(4,pt b1427),(5,iv sv1709),(79,.bool c1959)] a∧Wd ⟨w0,S0,[]⟩ Sv1960 [.box b5 [sl (some ⟨b1418,o1419,none⟩) k3 inv1.Channels] 29,.box b1427 (C73 x1412 (some ⟨b1923,o1924,none⟩) k1425) 73] [Sq (some ⟨b1418,o1419,none⟩) k3 inv1.Channels,Sq (some ⟨b1923,o1924,none⟩) k1425 x1412.Epochs] w) ?_ ?_
   ·rcases Bool.eq_false_or_eq_true (!rv1933) with h1961 | h1961
    ·have h1962:=A9 hc1959 h1961
     refine h_c [0,1] [0] d rfl rfl (by kernel_rfl) rfl fun hC d=>?_
     refine gn 3 [0,1,2] [1] s hC rfl rfl rfl fun a s=>?_
     refine gx s 3 rfl trivial rfl hC runUnderlying71 sizeOf41 rfl rfl h1918 h1919 fun a s=>?_
     refine gv s 4 rfl rfl hC (fun w hC=>F4 (j:=0) (hC.ceAt 0 rfl) rfl isAgg41 sizeOf41 rfl rfl) fun a s=>?_
     refine ho 5 rfl ?_
     refine cV s d (a0Q h1932 d.bdom (d.bE 1 rfl)) (d9 call65 rfl) rfl fun a w s d=>?_
     refine h_n [0,1] [0] d rfl rfl fun hC=>?_
     refine gn 2 [6,7] [] s hC rfl rfl rfl fun a s=>?_
     have s:=s.bT 60 rfl h1961
     refine gn 18 [8,9,10,11,12,13,14,15,16,17,18,19,20,21,22,23,24,25] [] s hC rfl rfl rfl fun a s=>?_
     refine gT s 26 rfl rfl hC rfl rfl h1962 fun a s=>?_
     refine y8 (by kernel_rfl) ?_
     exact ⟨Sv1811,wj s d [0,1] [2,3]⟩
    have h1969:=C8 hc1959 h1961
    obtain ⟨c1994,hc1994,h1969⟩:=T9 h1969
    rcases Bool.eq_false_or_eq_true (decide (0<sv1709)) with h1995 | h1995
    ·have h1996:=A9 hc1994 h1995
     obtain ⟨x1999,h1997,h1996⟩:=T9 h1996
     obtain ⟨q2003,c2004,h2000,h2001,h2002,h1998⟩:=d.elemK 3 rfl h1997
     obtain ⟨_,_,_,_,_,_,_,_,rfl,rfl,rfl,rfl,rfl,rfl,rfl,rfl,⟨p2005,n2006,k2007,rfl,h2008⟩⟩:=h1998
     obtain rfl:=h2008.1
     have d:=(d.addE (e:=SlA p2005 _ k2007 x1999.Response.Stages) h2008).addE h2002
     obtain ⟨x2011,h2009,h1996⟩:=T9 h1996
     obtain ⟨q2015,c2016,h2012,h2013,h2014,h2010⟩:=d.elemK 5 rfl h2009
     obtain ⟨_,_,_,_,_,_,_,_,rfl,rfl,rfl,rfl,rfl,rfl,rfl,rfl,⟨p2017,n2018,k2019,rfl,h2020⟩⟩:=h2010
     obtain rfl:=h2020.1
     have d:=(d.addE (e:=SlA p2017 _ k2019 x2011.Response.Stages) h2020).addE h2014
     refine h_c [0,1] [0,2,4] d rfl rfl (by kernel_rfl) rfl fun hC d=>?_
     refine gn 3 [0,1,2] [1] s hC rfl rfl rfl fun a s=>?_
     refine gx s 3 rfl trivial rfl hC runUnderlying71 sizeOf41 rfl rfl h1918 h1919 fun a s=>?_
     refine gv s 4 rfl rfl hC (fun w hC=>F4 (j:=0) (hC.ceAt 2 rfl) rfl isAgg41 sizeOf41 rfl rfl) fun a s=>?_
     refine ho 5 rfl ?_
     refine cV s d (a0Q h1932 d.bdom (d.bE 5 rfl)) (d9 call65 rfl) rfl fun a w s d=>?_
     refine h_n [0,1] [0,2,4] d rfl rfl fun hC=>?_
     refine gn 2 [6,7] [] s hC rfl rfl rfl fun a s=>?_
     have s:=s.bF 60 rfl h1961
     refine gn 3 [8,9,10] [] s hC rfl rfl rfl fun a s=>?_
     have s:=s.bT 63 rfl h1995
     refine gn 3 [11,12,13] [1] s hC rfl rfl rfl fun a s=>?_
     refine gx s 14 rfl ⟨_,rfl,rfl⟩ rfl hC runUnderlying71 sizeOf41 rfl rfl h2000 h2001 fun a s=>?_
     refine gt s 15 rfl ⟨_,rfl,rfl⟩ rfl hC (fun w hC=>j6 (o':=q2003+0) runUnderlying41 rfl sizeOf3 rfl rfl rfl) fun a s=>?_
     refine gt s 16 rfl ⟨_,rfl,rfl⟩ rfl hC (fun w hC=>G6 (j:=0) (hC.ceAt 1 rfl) rfl isAgg3 rfl) fun a s=>?_
     refine gn 4 [17,18,19,20] [1] s hC rfl rfl rfl fun a s=>?_
     refine gx s 21 rfl ⟨_,rfl,rfl⟩ rfl hC runUnderlying71 sizeOf41 rfl rfl h2012 h2013 fun a s=>?_
     refine gt s 22 rfl ⟨_,rfl,rfl⟩ rfl hC (fun w hC=>j6 (o':=q2015+1) runUnderlying41 rfl sizeOf3 rfl rfl rfl) fun a s=>?_
     refine gt s 23 rfl ⟨_,rfl,rfl⟩ rfl hC (fun w hC=>G6 (j:=1) (hC.ceAt 0 rfl) rfl isAgg3 rfl) fun a s=>?_
     refine gt s 24 rfl ⟨_,rfl,rfl⟩ rfl hC (fun w hC=>b0C rfl rfl) fun a s=>?_
     refine gt s 25 rfl ⟨_,rfl,rfl⟩ rfl hC (fun w hC=>a5L (v:=.bool c1994) rfl rfl (vbs h1996)) fun a s=>?_
     refine gF s 26 rfl rfl hC rfl rfl h1969 fun a s=>?_
     refine y8 (by kernel_rfl) ?_
     exact ⟨Sv1811,wj s d [0,1] [6,7]⟩
    have h2027:=C8 hc1994 h1995
    refine h_c [0,1] [0] d rfl rfl (by kernel_rfl) rfl fun hC d=>?_
    refine gn 3 [0,1,2] [1] s hC rfl rfl rfl fun a s=>?_
    refine gx s 3 rfl trivial rfl hC runUnderlying71 sizeOf41 rfl rfl h1918 h1919 fun a s=>?_
    refine gv s 4 rfl rfl hC (fun w hC=>F4 (j:=0) (hC.ceAt 0 rfl) rfl isAgg41 sizeOf41 rfl rfl) fun a s=>?_
    refine ho 5 rfl ?_
    refine cV s d (a0Q h1932 d.bdom (d.bE 1 rfl)) (d9 call65 rfl) rfl fun a w s d=>?_
    refine h_n [0,1] [0] d rfl rfl fun hC=>?_
    refine gn 2 [6,7] [] s hC rfl rfl rfl fun a s=>?_
    have s:=s.bF 60 rfl h1961
    refine gn 3 [8,9,10] [] s hC rfl rfl rfl fun a s=>?_
    have s:=s.bF 63 rfl h1995
    refine gn 14 [11,12,13,14,15,16,17,18,19,20,21,22,23,24] [] s hC rfl rfl rfl fun a s=>?_
    refine gt s 25 rfl ⟨_,rfl,rfl⟩ rfl hC (fun w hC=>a5K (v:=.bool c1994) rfl rfl (vbs h2027)) fun a s=>?_
    refine gF s 26 rfl rfl hC rfl rfl h1969 fun a s=>?_
    refine y8 (by kernel_rfl) ?_
    exact ⟨Sv1811,wj s d [0,1] [2,3]⟩
   rintro a w ⟨Sv1960,s,d⟩
   refine tn (cd s u rfl (fun u=>?_) fun u=>?_)
   ·refine sz0 1 s rfl fun a s=>?_
    obtain rfl:=oi u
    have h2036:=hd1862 _ rfl
    subst h2036
    have h2037:=hd1208 _ rfl
    subst h2037
    exact wp_ret (o9 (j3 (j3 (o9 (o9 (j3 (j3 (o9 (j3 (rt s rfl (d.ret rfl)))))))))))
   refine wp_skip (l7 (tn (wp_region_lit (rn0 2 s rfl fun a s=>?_))))
   obtain ⟨k2039,h2038,u⟩:=bt u
   refine sv s (r9 rfl h2038) rfl fun a s=>?_
   exact nl ⟨_,io u,Sv1960,wj s d [0,1] [0,1]⟩
  obtain ⟨rv2042,u,h2043⟩:=a0l u
  have h2043:=(hd1862 _ h2043.symm).symm
  subst h2043
  refine wp_exit (j4 (j4 (q9 (l7 (tn (wp_region_lit (rn0 2 s rfl fun a s=>?_)))))))
  obtain ⟨i2041,h2040,u⟩:=bt u
  refine sv s (r9 rfl h2040) rfl fun a s=>?_
  exact nl ⟨_,io u,Sv1811,wj s d [0] [0]⟩
 obtain ⟨rv2044,u,h2045⟩:=a0l u
 have h2045:=(hd1208 _ h2045.symm).symm
 subst h2045
 refine wp_exit (j4 (j4 (q9 (tn (sz 5 [0] s d rfl rfl fun a s=>?_)))))
 obtain rfl:=oi u
 exact q1 s rfl (d.ret rfl)
theorem a7U {w0 S0 p2 k3 p6 k7 a1 b5 r} (u:a2M a1 b5=some r) (hS:Dm S0 w0) (h4:(Sq p2 k3 a1.Taps).p S0 w0) (h8:(Sq p6 k7 b5.Taps).p S0 w0):Ck Tryz.prog 116 #[V138 a1 p2 k3,V138 b5 p6 k7] w0 S0 [] l5 r:=by
 refine en 66 func116 rfl hS rfl rfl rfl fun a s d=>?_
 have d:=(d.addE h4).addE h8
 refine sr (wb (a1v a1 p2 k3) s d rfl fun b9 a w s d=>?_)
 refine wb (a1v b5 p6 k7) s d rfl fun b10 a w s d=>?_
 refine rz0 1 s rfl fun a s=>?_
 refine wp_seq (sn 6 [1,0] s d rfl rfl fun a s=>?_)
 refine o5 6 (fun a w1=>w=w1∧Sl 66 [(2,pt b9),(3,pt b10),(17,.bool ((a1.Kind != b5.Kind) || (!((a1.Num.e0 == b5.Num.e0) && ((a1.Num.e1 == b5.Num.e1) && ((a1.Num.e2 == b5.Num.e2) && true))))))] a) ?_ ?_
 ·rcases Bool.eq_false_or_eq_true (a1.Kind != b5.Kind) with h11 | h11
  ·have s:=s.bT 11 rfl h11
   refine rz0 6 s rfl fun a s=>?_
   exact ⟨rfl,(s.fix 17 (.bool ((a1.Kind != b5.Kind) || (!((a1.Num.e0 == b5.Num.e0) && ((a1.Num.e1 == b5.Num.e1) && ((a1.Num.e2 == b5.Num.e2) && true)))))) rfl (or_t h11)).weaken _ ⟨rfl,rfl,rfl,trivial⟩⟩
  have s:=s.bF 11 rfl h11
  refine rn 4 [1,0] s d rfl rfl fun a s=>?_
  refine w9 s (a9n (by kernel_rfl) rfl rfl (a1F runUnderlying136 sizeOf3 (EqA.cons1 isAgg3 rfl rfl (F3 runUnderlying3) (EqA.cons1 isAgg3 rfl rfl (F3 runUnderlying3) (EqA.cons1 isAgg3 rfl rfl (F3 runUnderlying3) EqA.nil))))) ⟨_,rfl,rfl⟩ rfl rfl fun a s=>?_
  refine rz0 1 s rfl fun a s=>?_
  exact ⟨rfl,(s.fix 17 (.bool ((a1.Kind != b5.Kind) || (!((a1.Num.e0 == b5.Num.e0) && ((a1.Num.e1 == b5.Num.e1) && ((a1.Num.e2 == b5.Num.e2) && true)))))) rfl (or_f h11)).weaken _ ⟨rfl,rfl,rfl,trivial⟩⟩
 rintro a w1 ⟨h281,s⟩
 subst h281
 refine mv s rfl rfl fun a s=>?_
 refine o5 6 (fun a w1=>w=w1∧Sl 66 [(2,pt b9),(3,pt b10),(24,.bool (((a1.Kind != b5.Kind) || (!((a1.Num.e0 == b5.Num.e0) && ((a1.Num.e1 == b5.Num.e1) && ((a1.Num.e2 == b5.Num.e2) && true))))) || (!((a1.Den.e0 == b5.Den.e0) && ((a1.Den.e1 == b5.Den.e1) && ((a1.Den.e2 == b5.Den.e2) && true))))))] a) ?_ ?_
 ·rcases Bool.eq_false_or_eq_true ((a1.Kind != b5.Kind) || (!((a1.Num.e0 == b5.Num.e0) && ((a1.Num.e1 == b5.Num.e1) && ((a1.Num.e2 == b5.Num.e2) && true))))) with h12 | h12
  ·have s:=s.bT 18 rfl h12
   refine rz0 6 s rfl fun a s=>?_
   exact ⟨rfl,(s.fix 24 (.bool (((a1.Kind != b5.Kind) || (!((a1.Num.e0 == b5.Num.e0) && ((a1.Num.e1 == b5.Num.e1) && ((a1.Num.e2 == b5.Num.e2) && true))))) || (!((a1.Den.e0 == b5.Den.e0) && ((a1.Den.e1 == b5.Den.e1) && ((a1.Den.e2 == b5.Den.e2) && true)))))) rfl (or_t h12)).weaken _ ⟨rfl,rfl,rfl,trivial⟩⟩
  have s:=s.bF 18 rfl h12
  refine rn 4 [1,0] s d rfl rfl fun a s=>?_
  refine w9 s (a9n (by kernel_rfl) rfl rfl (a1F runUnderlying136 sizeOf3 (EqA.cons1 isAgg3 rfl rfl (F3 runUnderlying3) (EqA.cons1 isAgg3 rfl rfl (F3 runUnderlying3) (EqA.cons1 isAgg3 rfl rfl (F3 runUnderlying3) EqA.nil))))) ⟨_,rfl,rfl⟩ rfl rfl fun a s=>?_
  refine rz0 1 s rfl fun a s=>?_
  exact ⟨rfl,(s.fix 24 (.bool (((a1.Kind != b5.Kind) || (!((a1.Num.e0 == b5.Num.e0) && ((a1.Num.e1 == b5.Num.e1) && ((a1.Num.e2 == b5.Num.e2) && true))))) || (!((a1.Den.e0 == b5.Den.e0) && ((a1.Den.e1 == b5.Den.e1) && ((a1.Den.e2 == b5.Den.e2) && true)))))) rfl (or_f h12)).weaken _ ⟨rfl,rfl,rfl,trivial⟩⟩
 rintro a w1 ⟨h280,s⟩
 subst h280
 refine mv s rfl rfl fun a s=>?_
 refine rO 6 25 [1,0] s d rfl rfl rfl rfl rfl fun a s=>?_
 refine mv s rfl rfl fun a s=>?_
 refine rO 6 32 [1,0] s d rfl rfl rfl rfl rfl fun a s=>?_
 refine mv s rfl rfl fun a s=>?_
 refine rO 8 39 [1,0] s d rfl rfl rfl rfl rfl fun a s=>?_
 refine nl (cd s u rfl (fun u=>?_) fun u=>?_)
 ·refine sz0 1 s rfl fun a s=>?_
  obtain rfl:=oi u
  exact wp_ret (j3 (rt s rfl (d.ret rfl)))
 refine sk (wp_seq (sz0 1 s rfl fun a s=>?_))
 refine wp_block (u7 (fun sv116 a w=>∃ Sv180,Sl 66 [(2,pt b9),(3,pt b10),(5,iv sv116)] a∧Wd ⟨w0,S0,[]⟩ Sv180 [.box b9 (a1v a1 p2 k3) 138,.box b10 (a1v b5 p6 k7) 138] [Sq p2 k3 a1.Taps,Sq p6 k7 b5.Taps] w) 0 u ⟨S0,wj s d [1,0] [1,0]⟩ ?_)
 repeat clear u
 rintro sv116 a w tv213 ⟨Sv180,s,d⟩ u hd212
 refine wp_seq (sz 5 [0] s d rfl rfl fun a s=>?_)
 refine cd s u rfl (fun u=>?_) fun u=>?_
 ·refine sk (wp_seq (wp_block (wp_seq ?_)))
  obtain ⟨x248,h246,u⟩:=bt u
  obtain ⟨b254,o255,q252,c253,h256,h249,h250,h251,h247⟩:=d.elemV 0 rfl h246
  have hsv257:=s
  have hwv258:=d
  subst h256
  have s:=hsv257
  have d:=hwv258
  obtain ⟨_,rfl,rfl⟩:=h247
  have d:=d.addE h251
  obtain ⟨x261,h259,u⟩:=bt u
  obtain ⟨b267,o268,q265,c266,h269,h262,h263,h264,h260⟩:=d.elemV 2 rfl h259
  have hsv270:=s
  have hwv271:=d
  subst h269
  have s:=hsv270
  have d:=hwv271
  obtain ⟨_,rfl,rfl⟩:=h260
  have d:=d.addE h264
  refine A7 (fun a w=>∃ Sv272,Sl 66 [(2,pt b9),(3,pt b10),(5,iv sv116),(65,.bool (x248 != x261))] a∧Wd ⟨w0,S0,[]⟩ Sv272 [.box b9 (a1v a1 (some ⟨b254,o255,none⟩) k3) 138,.box b10 (a1v b5 (some ⟨b267,o268,none⟩) k7) 138] [Sq (some ⟨b254,o255,none⟩) k3 a1.Taps,Sq (some ⟨b267,o268,none⟩) k7 b5.Taps] w) ?_ ?_
  ·refine h_c [0,1] [0,1] d rfl rfl (by kernel_rfl) rfl fun hC d=>?_
   refine gn 3 [0,1,2] [0] s hC rfl rfl rfl fun a s=>?_
   refine gx s 3 rfl trivial rfl hC runUnderlying22 sizeOf3 rfl rfl h249 h250 fun a s=>?_
   refine gv s 4 rfl rfl hC (fun w hC=>G6 (j:=0) (hC.ceAt 1 rfl) rfl isAgg3 rfl) fun a s=>?_
   refine gn 3 [5,6,7] [1] s hC rfl rfl rfl fun a s=>?_
   refine gx s 8 rfl trivial rfl hC runUnderlying22 sizeOf3 rfl rfl h262 h263 fun a s=>?_
   refine gv s 9 rfl rfl hC (fun w hC=>G6 (j:=0) (hC.ceAt 0 rfl) rfl isAgg3 rfl) fun a s=>?_
   refine gv s 10 rfl rfl hC (fun w hC=>y_neq rfl rfl) fun a s=>?_
   refine y8 (by kernel_rfl) ?_
   exact ⟨Sv180,wj s d [0,1] [2,3]⟩
  rintro a w ⟨Sv272,s,d⟩
  refine tn (cd s u rfl (fun u=>?_) fun u=>?_)
  ·refine sz0 1 s rfl fun a s=>?_
   obtain rfl:=oi u
   have h275:=hd212 _ rfl
   subst h275
   exact wp_ret (o9 (j3 (j3 (o9 (j3 (rt s rfl (d.ret rfl)))))))
  refine wp_skip (l7 (tn (wp_region_lit (rn0 2 s rfl fun a s=>?_))))
  obtain ⟨i277,h276,u⟩:=bt u
  refine sv s (r9 rfl h276) rfl fun a s=>?_
  exact nl ⟨_,io u,Sv272,wj s d [0,1] [0,1]⟩
 obtain ⟨rv278,u,h279⟩:=a0l u
 have h279:=(hd212 _ h279.symm).symm
 subst h279
 refine wp_exit (j4 (j4 (q9 (tn (sz0 1 s rfl fun a s=>?_)))))
 obtain rfl:=oi u
 exact q1 s rfl (d.ret rfl)
theorem b0N {w0 S0 p2 k3 p6 k7 a1 b5 r} (u:a6c a1 b5=some r) (hS:Dm S0 w0) (h4:(Sq p2 k3 a1.Stages).p S0 w0) (h8:(Sq p6 k7 b5.Stages).p S0 w0):Ck Tryz.prog 70 #[.agg #[sl p2 k3 a1.Stages],.agg #[sl p6 k7 b5.Stages]] w0 S0 [] l5 r:=by
 refine en 32 func70 rfl hS rfl rfl rfl fun a s d=>?_
 have d:=(d.addE h4).addE h8
 refine sr (wb [sl p2 k3 a1.Stages] s d rfl fun b9 a w s d=>?_)
 refine wb [sl p6 k7 b5.Stages] s d rfl fun b10 a w s d=>?_
 refine rz0 1 s rfl fun a s=>?_
 refine wp_seq (sz 7 [1,0] s d rfl rfl fun a s=>?_)
 refine cd s u rfl (fun u=>?_) fun u=>?_
 ·refine sz0 1 s rfl fun a s=>?_
  obtain rfl:=oi u
  exact wp_ret (j3 (rt s rfl (d.ret rfl)))
 refine sk (wp_seq (sz0 1 s rfl fun a s=>?_))
 refine wp_block (u7 (fun sv141 a w=>∃ Sv225,Sl 32 [(2,pt b9),(3,pt b10),(5,iv sv141)] a∧Wd ⟨w0,S0,[]⟩ Sv225 [.box b9 [sl p2 k3 a1.Stages] 39,.box b10 [sl p6 k7 b5.Stages] 39] [Sq p2 k3 a1.Stages,Sq p6 k7 b5.Stages] w) 0 u ⟨S0,wj s d [1,0] [1,0]⟩ ?_)
 repeat clear u
 rintro sv141 a w tv268 ⟨Sv225,s,d⟩ u hd267
 refine wp_seq (sz 5 [0] s d rfl rfl fun a s=>?_)
 refine cd s u rfl (fun u=>?_) fun u=>?_
 ·refine sk (wp_seq (wp_block (wp_seq ?_)))
  obtain ⟨x313,h311,u⟩:=bt u
  obtain ⟨b319,o320,q317,c318,h321,h314,h315,h316,h312⟩:=d.elemV 0 rfl h311
  have hsv322:=s
  have hwv323:=d
  subst h321
  have s:=hsv322
  have d:=hwv323
  obtain ⟨_,_,_,_,_,_,_,_,_,_,rfl,rfl,rfl,rfl,rfl,rfl,rfl,rfl,⟨p324,n325,k326,rfl,h327⟩,rfl,rfl⟩:=h312
  obtain rfl:=h327.1
  have d:=(d.addE (e:=SlA p324 _ k326 x313.Taps) h327).addE h316
  obtain ⟨x330,h328,u⟩:=bt u
  obtain ⟨b336,o337,q334,c335,h338,h331,h332,h333,h329⟩:=d.elemV 3 rfl h328
  have hsv339:=s
  have hwv340:=d
  subst h338
  have s:=hsv339
  have d:=hwv340
  obtain ⟨_,_,_,_,_,_,_,_,_,_,rfl,rfl,rfl,rfl,rfl,rfl,rfl,rfl,⟨p341,n342,k343,rfl,h344⟩,rfl,rfl⟩:=h329
  obtain rfl:=h344.1
  have d:=(d.addE (e:=SlA p341 _ k343 x330.Taps) h344).addE h333
  obtain ⟨rv346,h345,u⟩:=bt u
  refine A7 (fun a w=>∃ Sv347,Sl 32 [(2,pt b9),(3,pt b10),(5,iv sv141),(31,.bool (!rv346))] a∧Wd ⟨w0,S0,[]⟩ Sv347 [.box b9 [sl (some ⟨b319,o320,none⟩) k3 a1.Stages] 39,.box b10 [sl (some ⟨b336,o337,none⟩) k7 b5.Stages] 39] [Sq (some ⟨b319,o320,none⟩) k3 a1.Stages,Sq (some ⟨b336,o337,none⟩) k7 b5.Stages] w) ?_ ?_
  ·refine h_c [0,1] [0,2] d rfl rfl (by kernel_rfl) rfl fun hC d=>?_
   refine gn 3 [0,1,2] [0] s hC rfl rfl rfl fun a s=>?_
   refine gx s 3 rfl trivial rfl hC runUnderlying37 sizeOf138 rfl rfl h314 h315 fun a s=>?_
   refine gv s 4 rfl rfl hC (fun w hC=>F4 (j:=0) (hC.ceAt 1 rfl) rfl isAgg138 sizeOf138 rfl rfl) fun a s=>?_
   refine gn 3 [5,6,7] [1] s hC rfl rfl rfl fun a s=>?_
   refine gx s 8 rfl trivial rfl hC runUnderlying37 sizeOf138 rfl rfl h331 h332 fun a s=>?_
   refine gv s 9 rfl rfl hC (fun w hC=>F4 (j:=0) (hC.ceAt 0 rfl) rfl isAgg138 sizeOf138 rfl rfl) fun a s=>?_
   refine ho 10 rfl ?_
   refine cV s d (a7U h345 d.bdom (d.bE 3 rfl) (d.bE 1 rfl)) (d9 call116 rfl) rfl fun a w s d=>?_
   refine h_n [0,1] [0,2] d rfl rfl fun hC=>?_
   refine gv s 11 rfl rfl hC (fun w hC=>a9w rfl) fun a s=>?_
   refine y8 (by kernel_rfl) ?_
   exact ⟨Sv225,wj s d [0,1] [4,5]⟩
  rintro a w ⟨Sv347,s,d⟩
  refine tn (cd s u rfl (fun u=>?_) fun u=>?_)
  ·refine sz0 1 s rfl fun a s=>?_
   obtain rfl:=oi u
   have h356:=hd267 _ rfl
   subst h356
   exact wp_ret (o9 (j3 (j3 (o9 (j3 (rt s rfl (d.ret rfl)))))))
  refine wp_skip (l7 (tn (wp_region_lit (rn0 2 s rfl fun a s=>?_))))
  obtain ⟨i358,h357,u⟩:=bt u
  refine sv s (r9 rfl h357) rfl fun a s=>?_
  exact nl ⟨_,io u,Sv347,wj s d [0,1] [0,1]⟩
 obtain ⟨rv359,u,h360⟩:=a0l u
 have h360:=(hd267 _ h360.symm).symm
 subst h360
 refine wp_exit (j4 (j4 (q9 (tn (sz0 1 s rfl fun a s=>?_)))))
 obtain rfl:=oi u
 exact q1 s rfl (d.ret rfl)
theorem a4L {w0 S0 p2 k3 p6 k7 a1 b5 r} (u:W9 a1 b5=some r) (hS:Dm S0 w0) (h4:(Sq p2 k3 a1.Response.Stages).p S0 w0) (h8:(Sq p6 k7 b5.Response.Stages).p S0 w0):Ck Tryz.prog 26 #[V41 a1 p2 k3,V41 b5 p6 k7] w0 S0 [] l5 r:=by
 refine en 38 func26 rfl hS rfl rfl rfl fun a s d=>?_
 have d:=(d.addE h4).addE h8
 refine sr (wb (C41 a1 p2 k3) s d rfl fun b9 a w s d=>?_)
 refine wb (C41 b5 p6 k7) s d rfl fun b10 a w s d=>?_
 refine rz0 1 s rfl fun a s=>?_
 refine sn 6 [1,0] s d rfl rfl fun a s=>?_
 refine rA 6 10 [1,0] s d rfl rfl rfl rfl rfl fun a s=>?_
 refine mv s rfl rfl fun a s=>?_
 refine o5 6 (fun a w1=>w=w1∧Sl 38 [(2,pt b9),(3,pt b10),(23,.bool (((a1.From == b5.From) && (a1.To == b5.To)) && ((a1.Rate.Num == b5.Rate.Num) && ((a1.Rate.Den == b5.Rate.Den) && true))))] a) ?_ ?_
 ·rcases Bool.eq_false_or_eq_true ((a1.From == b5.From) && (a1.To == b5.To)) with h12 | h12
  ·have s:=s.bT 17 rfl h12
   refine rn 4 [1,0] s d rfl rfl fun a s=>?_
   refine w9 s (a0Z (by kernel_rfl) rfl rfl (O8 runUnderlying34 (by kernel_rfl) (EqF.cons1 rfl isAgg3 rfl rfl (F3 runUnderlying3) (EqF.cons1 rfl isAgg3 rfl rfl (F3 runUnderlying3) EqF.nil)))) ⟨_,rfl,rfl⟩ rfl rfl fun a s=>?_
   refine rz0 1 s rfl fun a s=>?_
   exact ⟨rfl,(s.fix 23 (.bool (((a1.From == b5.From) && (a1.To == b5.To)) && ((a1.Rate.Num == b5.Rate.Num) && ((a1.Rate.Den == b5.Rate.Den) && true)))) rfl (a2Y h12)).weaken _ ⟨rfl,rfl,rfl,trivial⟩⟩
  have s:=s.bF 17 rfl h12
  refine rz0 6 s rfl fun a s=>?_
  exact ⟨rfl,(s.fix 23 (.bool (((a1.From == b5.From) && (a1.To == b5.To)) && ((a1.Rate.Num == b5.Rate.Num) && ((a1.Rate.Den == b5.Rate.Den) && true)))) rfl (a2X h12)).weaken _ ⟨rfl,rfl,rfl,trivial⟩⟩
 rintro a w1 ⟨h34,s⟩
 subst h34
 refine mv s rfl rfl fun a s=>?_
 refine o5 6 (fun a w1=>w=w1∧Sl 38 [(2,pt b9),(3,pt b10),(30,.bool ((((a1.From == b5.From) && (a1.To == b5.To)) && ((a1.Rate.Num == b5.Rate.Num) && ((a1.Rate.Den == b5.Rate.Den) && true))) && ((a1.Position.X == b5.Position.X) && ((a1.Position.Y == b5.Position.Y) && ((a1.Position.Z == b5.Position.Z) && true)))))] a) ?_ ?_
 ·rcases Bool.eq_false_or_eq_true (((a1.From == b5.From) && (a1.To == b5.To)) && ((a1.Rate.Num == b5.Rate.Num) && ((a1.Rate.Den == b5.Rate.Den) && true))) with h13 | h13
  ·have s:=s.bT 24 rfl h13
   refine rn 4 [1,0] s d rfl rfl fun a s=>?_
   refine w9 s (a0Z (by kernel_rfl) rfl rfl (O8 runUnderlying36 (by kernel_rfl) (EqF.cons1 rfl isAgg3 rfl rfl (F3 runUnderlying3) (EqF.cons1 rfl isAgg3 rfl rfl (F3 runUnderlying3) (EqF.cons1 rfl isAgg3 rfl rfl (F3 runUnderlying3) EqF.nil))))) ⟨_,rfl,rfl⟩ rfl rfl fun a s=>?_
   refine rz0 1 s rfl fun a s=>?_
   exact ⟨rfl,(s.fix 30 (.bool ((((a1.From == b5.From) && (a1.To == b5.To)) && ((a1.Rate.Num == b5.Rate.Num) && ((a1.Rate.Den == b5.Rate.Den) && true))) && ((a1.Position.X == b5.Position.X) && ((a1.Position.Y == b5.Position.Y) && ((a1.Position.Z == b5.Position.Z) && true))))) rfl (a2Y h13)).weaken _ ⟨rfl,rfl,rfl,trivial⟩⟩
  have s:=s.bF 24 rfl h13
  refine rz0 6 s rfl fun a s=>?_
  exact ⟨rfl,(s.fix 30 (.bool ((((a1.From == b5.From) && (a1.To == b5.To)) && ((a1.Rate.Num == b5.Rate.Num) && ((a1.Rate.Den == b5.Rate.Den) && true))) && ((a1.Position.X == b5.Position.X) && ((a1.Position.Y == b5.Position.Y) && ((a1.Position.Z == b5.Position.Z) && true))))) rfl (a2X h13)).weaken _ ⟨rfl,rfl,rfl,trivial⟩⟩
 rintro a w1 ⟨h33,s⟩
 subst h33
 refine mv s rfl rfl fun a s=>?_
 obtain ⟨c23,hc23,u⟩:=bt u
 refine o5 6 (fun a w=>∃ Sv24,Sl 38 [(37,.bool c23)] a∧Wd ⟨w0,S0,[]⟩ Sv24 [] [] w) ?_ ?_
 ·rcases Bool.eq_false_or_eq_true ((((a1.From == b5.From) && (a1.To == b5.To)) && ((a1.Rate.Num == b5.Rate.Num) && ((a1.Rate.Den == b5.Rate.Den) && true))) && ((a1.Position.X == b5.Position.X) && ((a1.Position.Y == b5.Position.Y) && ((a1.Position.Z == b5.Position.Z) && true)))) with h22 | h22
  ·have s:=s.bT 31 rfl h22
   have u:=A9 hc23 h22
   refine rn 4 [1,0] s d rfl rfl fun a s=>?_
   obtain ⟨rv26,h25,u⟩:=bt u
   refine o7 s (b0N h25 d.bdom (d.bE 1 rfl) (d.bE 0 rfl)) (d9 call70 rfl) ⟨_,rfl,rfl⟩ rfl rfl ?_
   rintro v30 Sv27 w a h28 rfl s
   have d:=d.callB h28
   refine sv s (G7 rfl rfl) rfl fun a s=>?_
   refine wpList_nil ?_
   obtain rfl:=oi u
   exact tn ⟨S0,wj s d [] []⟩
  have s:=s.bF 31 rfl h22
  have u:=C8 hc23 h22
  refine rn0 6 s rfl fun a s=>?_
  refine wpList_nil ?_
  obtain rfl:=oi u
  exact tn ⟨S0,wj s d [] []⟩
 rintro a w ⟨Sv24,s,d⟩
 refine rz0 1 s rfl fun a s=>?_
 obtain rfl:=oi u
 exact q1 s rfl (d.ret rfl)
theorem b0R {w0 S0 p2 k3 e1 r} (u:a6h e1=some r) (hS:Dm S0 w0) (h4:(Sq p2 k3 e1.Response.Stages).p S0 w0):Ck Tryz.prog 117 #[V41 e1 p2 k3] w0 S0 [] l5 r:=by
 refine en 6 func117 rfl hS rfl rfl rfl fun a s d=>?_
 have d:=d.addE h4
 refine sr (wb (C41 e1 p2 k3) s d rfl fun b5 a w s d=>?_)
 refine rz0 1 s rfl fun a s=>?_
 refine sn 1 [0] s d rfl rfl fun a s=>?_
 refine sv s (D5 (vs:=[]) Bld41 rfl rfl) rfl fun a s=>?_
 obtain ⟨rv7,h6,u⟩:=bt u
 have d:=d.addE (e:=SlA (α:=Stage) none 0 0 []) Q9
 refine cV s d (a4L h6 d.bdom (d.bE 1 rfl) (d.bE 0 rfl)) (d9 call26 rfl) rfl fun a w s d=>?_
 refine rz0 1 s rfl fun a s=>?_
 obtain rfl:=oi u
 exact q1 s rfl (d.ret rfl)
theorem b0Q {w0 S0 p2 k3 p6 k7 inv1 c5 r} (u:a6g inv1 c5=some r) (hS:Dm S0 w0) (h4:(Sq p2 k3 inv1.Channels).p S0 w0) (h8:(Sq p6 k7 c5.Epoch.Response.Stages).p S0 w0):Ck Tryz.prog 72 #[.agg #[sl p2 k3 inv1.Channels],V43 c5 p6 k7] w0 S0 [] l5 r:=by
 refine en 42 func72 rfl hS rfl rfl rfl fun a s d=>?_
 have d:=(d.addE h4).addE h8
 refine sr (wb [sl p2 k3 inv1.Channels] s d rfl fun b9 a w s d=>?_)
 refine wb (C43 c5 p6 k7) s d rfl fun b10 a w s d=>?_
 refine rz0 1 s rfl fun a s=>?_
 refine wp_seq (sn 1 [1] s d rfl rfl fun a s=>?_)
 obtain ⟨rv12,h11,u⟩:=bt u
 refine cV s d (b0f h11 d.bdom (d.bE 1 rfl)) (d9 call18 rfl) rfl fun a w s d=>?_
 refine rn0 2 s rfl fun a s=>?_
 obtain ⟨c28,hc28,u⟩:=bt u
 refine o5 5 (fun a w=>∃ Sv29,Sl 42 [(3,pt b10),(13,.bool c28)] a∧Wd ⟨w0,S0,[]⟩ Sv29 [.box b10 (C43 c5 p6 k7) 43] [Sq p6 k7 c5.Epoch.Response.Stages] w) ?_ ?_
 ·rcases Bool.eq_false_or_eq_true (!rv12) with h27 | h27
  ·have s:=s.bT 8 rfl h27
   have u:=A9 hc28 h27
   refine rn0 5 s rfl fun a s=>?_
   refine wpList_nil ?_
   obtain rfl:=oi u
   exact tn ⟨S0,wj s d [0] [0]⟩
  have s:=s.bF 8 rfl h27
  have u:=C8 hc28 h27
  refine rn 2 [0] s d rfl rfl fun a s=>?_
  obtain ⟨rv31,h30,u⟩:=bt u
  refine o7 s (O0 h30 d.bdom) (d9 call64 rfl) ⟨_,rfl,rfl⟩ rfl rfl ?_
  rintro v35 Sv32 w a h33 rfl s
  have d:=d.callB h33
  refine rn0 2 s rfl fun a s=>?_
  refine wpList_nil ?_
  obtain rfl:=oi u
  exact tn ⟨S0,wj s d [0] [0]⟩
 rintro a w ⟨Sv29,s,d⟩
 refine mv s rfl rfl fun a s=>?_
 obtain ⟨c47,hc47,u⟩:=bt u
 refine o5 5 (fun a w=>∃ Sv48,Sl 42 [(3,pt b10),(19,.bool c47)] a∧Wd ⟨w0,S0,[]⟩ Sv48 [.box b10 (C43 c5 p6 k7) 43] [Sq p6 k7 c5.Epoch.Response.Stages] w) ?_ ?_
 ·rcases Bool.eq_false_or_eq_true c28 with h46 | h46
  ·have s:=s.bT 14 rfl h46
   have u:=A9 hc47 h46
   refine rn0 5 s rfl fun a s=>?_
   refine wpList_nil ?_
   obtain rfl:=oi u
   exact tn ⟨Sv29,wj s d [0] [0]⟩
  have s:=s.bF 14 rfl h46
  have u:=C8 hc47 h46
  refine rn 2 [0] s d rfl rfl fun a s=>?_
  obtain ⟨rv50,h49,u⟩:=bt u
  refine o7 s (a0S h49 d.bdom) (d9 call62 rfl) ⟨_,rfl,rfl⟩ rfl rfl ?_
  rintro v54 Sv51 w a h52 rfl s
  have d:=d.callB h52
  refine rn0 2 s rfl fun a s=>?_
  refine wpList_nil ?_
  obtain rfl:=oi u
  exact tn ⟨Sv29,wj s d [0] [0]⟩
 rintro a w ⟨Sv48,s,d⟩
 refine nl (cd s u rfl (fun u=>?_) fun u=>?_)
 ·refine sz0 1 s rfl fun a s=>?_
  obtain rfl:=oi u
  exact wp_ret (j3 (rt s rfl (d.ret rfl)))
 refine sk (wp_seq (sz 3 [0] s d rfl rfl fun a s=>?_))
 refine cd s u rfl (fun u=>?_) fun u=>?_
 ·refine sn 2 [0] s d rfl rfl fun a s=>?_
  obtain ⟨rv70,h69,u⟩:=bt u
  refine cV s d (b0R h69 d.bdom (d.bE 0 rfl)) (d9 call117 rfl) rfl fun a w s d=>?_
  refine rz0 1 s rfl fun a s=>?_
  obtain rfl:=oi u
  exact wp_ret (j3 (rt s rfl (d.ret rfl)))
 refine sk (sn 2 [0] s d rfl rfl fun a s=>?_)
 obtain ⟨rv78,h77,u⟩:=bt u
 refine cV s d (a0Q h77 d.bdom (d.bE 0 rfl)) (d9 call65 rfl) rfl fun a w s d=>?_
 refine mv s rfl rfl fun a s=>?_
 refine o5 12 (fun a w1=>w=w1∧Sl 42 [(41,.bool (rv78 && ((c5.Kind == 2) || (c5.From == c5.Epoch.From))))] a) ?_ ?_
 ·rcases Bool.eq_false_or_eq_true rv78 with h86 | h86
  ·have s:=s.bT 29 rfl h86
   refine rn 4 [0] s d rfl rfl fun a s=>?_
   refine rO 7 33 [0,0] s d rfl rfl rfl rfl rfl fun a s=>?_
   refine rz0 1 s rfl fun a s=>?_
   exact ⟨rfl,(s.fix 41 (.bool (rv78 && ((c5.Kind == 2) || (c5.From == c5.Epoch.From)))) rfl (a2Y h86)).weaken _ ⟨rfl,trivial⟩⟩
  have s:=s.bF 29 rfl h86
  refine rz0 12 s rfl fun a s=>?_
  exact ⟨rfl,(s.fix 41 (.bool (rv78 && ((c5.Kind == 2) || (c5.From == c5.Epoch.From)))) rfl (a2X h86)).weaken _ ⟨rfl,trivial⟩⟩
 rintro a w1 ⟨h89,s⟩
 subst h89
 refine rz0 1 s rfl fun a s=>?_
 obtain rfl:=oi u
 exact q1 s rfl (d.ret rfl)
abbrev a9M:List Value:=[.slice none ([]:List Channel).length 0]
theorem b0O {w0 S0 p2 k3 inv1 r} (u:a4K inv1=some r) (hS:Dm S0 w0) (h4:(Sq p2 k3 inv1.Channels).p S0 w0):Ck Tryz.prog 73 #[.agg #[sl p2 k3 inv1.Channels]] w0 S0 [] a4T r:=by
 refine en 54 func73 rfl hS rfl rfl rfl fun a s d=>?_
 have d:=d.addE h4
 refine sr (wb [sl p2 k3 inv1.Channels] s d rfl fun b5 a w s d=>?_)
 refine wa a9M s d zeroValue29 fun b6 a w s d=>?_
 refine nl (sr (wa a9M s d zeroValue29 fun b7 a w s d=>?_))
 refine nl (wp_seq (sz0 1 s rfl fun a s=>?_))
 obtain ⟨e680,h1264,u⟩:=bt u
 refine y7 (fun a w=>∃ c681 p682 k683 Sv684,Sl 54 [(2,pt b6),(3,pt b7)] a∧Wd ⟨w0,S0,[]⟩ Sv684 [.box b6 a9M 29,.box b7 [sl p682 k683 e680] 29,.row p682 e680.length k683 c681 73 5] [Sq none 0 ([]:List Channel),j5 c681 e680] w) ?_ ?_
 ·refine wp_block ?_
  have d:=(d.nilRow Channel 73).addE (e:=SlA (α:=Channel) none 0 0 []) Q9
  refine u7 (fun sv8 a w=>∃ c453 p454 k455 Sv456,Sl 54 [(1,pt b5),(2,pt b6),(3,pt b7),(4,iv sv8.2)] a∧Wd ⟨w0,S0,[]⟩ Sv456 [.box b5 [sl p2 k3 inv1.Channels] 29,.box b6 a9M 29,.box b7 [sl p454 k455 sv8.1] 29,.row p454 sv8.1.length k455 c453 73 5] [Sq p2 k3 inv1.Channels,Sq none 0 ([]:List Channel),j5 c453 sv8.1] w) (([]:List Channel),0) h1264 ⟨[],none,0,S0,wj s d [3,2,1,0] [2,0,1]⟩ ?_
  clear h1264
  repeat clear u
  rintro sv8 a w tv678 ⟨c453,p454,k455,Sv456,s,d⟩ u hd677
  refine wp_seq (sz 5 [0] s d rfl rfl fun a s=>?_)
  refine cd s u rfl (fun u=>?_) fun u=>?_
  ·refine sk (wp_seq (wp_block (sn 3 [0] s d rfl rfl fun a s=>?_)))
   obtain ⟨x906,h904,u⟩:=bt u
   obtain ⟨b912,o913,q910,c911,h914,h907,h908,h909,h905⟩:=d.elemV 0 rfl h904
   have hsv915:=s
   have hwv916:=d
   subst h914
   have s:=hsv915
   have d:=hwv916
   obtain ⟨_,_,_,_,_,rfl,rfl,rfl,rfl,rfl,⟨p917,n918,k919,rfl,h920⟩⟩:=h905
   obtain rfl:=h920.1
   have d:=(d.addE (e:=SlA p917 _ k919 x906.Epochs) h920).addE h909
   refine sv s (u6 runUnderlying27 sizeOf73 rfl rfl h907.1 h907.2 h908) rfl fun a s=>?_
   refine sv s (j6 (o':=q910+0) runUnderlying73 rfl sizeOf32 rfl rfl rfl) rfl fun a s=>?_
   refine sv s (F4 (j:=0) (d.ceAt 0 rfl) rfl isAgg32 sizeOf32 rfl rfl) rfl fun a s=>?_
   refine sv s (D5 (vs:=[(0,V32 x906.Source)]) b2a rfl rfl) rfl fun a s=>?_
   refine wa Z2 s d zeroValue73 fun b921 a w s d=>?_
   refine ws (C73 ⟨x906.Source,([]:List Epoch)⟩ none 0) s d 0 rfl rfl rfl sizeOf73 fun a w s d=>?_
   refine nl (wp_seq (sz0 1 s rfl fun a s=>?_))
   obtain ⟨e1108,h1262,u⟩:=bt u
   refine y7 (fun a w=>∃ c1109 p1110 k1111 Sv1112,Sl 54 [(1,pt b5),(2,pt b6),(3,pt b7),(4,iv sv8.2),(5,pt b921)] a∧Wd ⟨w0,S0,[]⟩ Sv1112 [.box b5 [sl (some ⟨b912,o913,none⟩) k3 inv1.Channels] 29,.box b6 a9M 29,.box b7 [sl p454 k455 sv8.1] 29,.box b921 (C73 ⟨x906.Source,e1108⟩ p1110 k1111) 73,.row p454 sv8.1.length k455 c453 73 5,.row p1110 e1108.length k1111 c1109 41 8] [Sq (some ⟨b912,o913,none⟩) k3 inv1.Channels,Sq none 0 ([]:List Channel),j5 c453 sv8.1,j5 c1109 e1108] w) ?_ ?_
   ·refine wp_block ?_
    have d:=d.nilRow Epoch 41
    refine u7 (fun sv922 a w=>∃ c1043 p1044 k1045 Sv1046,Sl 54 [(1,pt b5),(2,pt b6),(3,pt b7),(4,iv sv8.2),(5,pt b921),(6,iv sv922.2)] a∧Wd ⟨w0,S0,[]⟩ Sv1046 [.box b5 [sl (some ⟨b912,o913,none⟩) k3 inv1.Channels] 29,.box b6 a9M 29,.box b7 [sl p454 k455 sv8.1] 29,.box b921 (C73 ⟨x906.Source,sv922.1⟩ p1044 k1045) 73,.row p454 sv8.1.length k455 c453 73 5,.row p1044 sv922.1.length k1045 c1043 41 8] [Sq (some ⟨b912,o913,none⟩) k3 inv1.Channels,Sq none 0 ([]:List Channel),j5 c453 sv8.1,j5 c1043 sv922.1] w) (([]:List Epoch),0) h1262 ⟨[],none,0,Sv456,wj s d [2,3,4,1,5,0] [3,4,5,0]⟩ ?_
    clear h1262
    repeat clear u
    rintro sv922 a w tv1106 ⟨c1043,p1044,k1045,Sv1046,s,d⟩ u hd1105
    refine wp_seq (sn 4 [0] s d rfl rfl fun a s=>?_)
    obtain ⟨x1115,h1113,u⟩:=bt u
    obtain ⟨q1119,c1120,h1116,h1117,h1118,h1114⟩:=d.elemK 0 rfl h1113
    obtain ⟨_,_,_,_,_,rfl,rfl,rfl,rfl,rfl,⟨p1121,n1122,k1123,rfl,h1124⟩⟩:=h1114
    obtain rfl:=h1124.1
    have d:=(d.addE (e:=SlA p1121 _ k1123 x1115.Epochs) h1124).addE h1118
    refine sv s (u6 runUnderlying27 sizeOf73 rfl rfl h1116.1 h1116.2 h1117) rfl fun a s=>?_
    refine sv s (j6 (o':=q1119+4) runUnderlying73 rfl sizeOf71 rfl rfl rfl) rfl fun a s=>?_
    refine sv s (G6 (j:=4) (d.ceAt 0 rfl) rfl isAgg71 rfl) rfl fun a s=>?_
    refine rz0 2 s rfl fun a s=>?_
    refine cd s u rfl (fun u=>?_) fun u=>?_
    ·refine sk (wp_seq (wp_block ?_))
     obtain ⟨x1172,h1170,u⟩:=bt u
     obtain ⟨q1176,c1177,h1173,h1174,h1175,h1171⟩:=d.elemK 2 rfl h1170
     obtain ⟨_,_,_,_,_,rfl,rfl,rfl,rfl,rfl,⟨p1178,n1179,k1180,rfl,h1181⟩⟩:=h1171
     obtain rfl:=h1181.1
     have d:=(d.addE (e:=SlA p1178 _ k1180 x1172.Epochs) h1181).addE h1175
     obtain ⟨x1184,h1182,u⟩:=bt u
     obtain ⟨b1190,o1191,q1188,c1189,h1192,h1185,h1186,h1187,h1183⟩:=d.elemV 1 rfl h1182
     have hsv1193:=s
     have hwv1194:=d
     subst h1192
     have s:=hsv1193
     have d:=hwv1194
     obtain ⟨_,_,_,_,_,_,_,_,rfl,rfl,rfl,rfl,rfl,rfl,rfl,rfl,⟨p1195,n1196,k1197,rfl,h1198⟩⟩:=h1183
     obtain rfl:=h1198.1
     have d:=(d.addE (e:=SlA p1195 _ k1197 x1184.Response.Stages) h1198).addE h1187
     obtain ⟨rv1200,h1199,u⟩:=bt u
     obtain ⟨l1208,h1207,u⟩:=bt u
     refine A7 (fun a w=>∃ Sv1212 c1211 k1210 p1209,Sl 54 [(1,pt b5),(2,pt b6),(3,pt b7),(4,iv sv8.2),(5,pt b921),(6,iv sv922.2)] a∧Wd ⟨w0,S0,[]⟩ Sv1212 [.box b5 [sl (some ⟨b912,o913,none⟩) k3 inv1.Channels] 29,.box b6 a9M 29,.box b7 [sl p454 k455 sv8.1] 29,.box b921 (C73 ⟨x906.Source,l1208⟩ p1209 k1210) 73,.row p454 sv8.1.length k455 c453 73 5,.row p1209 l1208.length k1210 c1211 41 8] [Sq (some ⟨b912,o913,none⟩) k3 inv1.Channels,Sq none 0 ([]:List Channel),j5 c453 sv8.1,j5 c1211 l1208] w) ?_ ?_
     ·refine h_c [0,1,2,4] [0,2,4] d rfl rfl (by kernel_rfl) rfl fun hC d=>?_
      refine gn 4 [0,2,3,4] [0] s hC rfl rfl rfl fun a s=>?_
      refine gx s 5 rfl trivial rfl hC runUnderlying27 sizeOf73 rfl rfl h1173 h1174 fun a s=>?_
      refine gv s 6 rfl rfl hC (fun w hC=>j6 (o':=q1176+4) runUnderlying73 rfl sizeOf71 rfl rfl rfl) fun a s=>?_
      refine gv s 7 rfl rfl hC (fun w hC=>G6 (j:=4) (hC.ceAt 1 rfl) rfl isAgg71 rfl) fun a s=>?_
      refine gm s 8 rfl rfl rfl hC fun a s=>?_
      refine gx s 9 rfl trivial rfl hC runUnderlying71 sizeOf41 rfl rfl h1185 h1186 fun a s=>?_
      refine gv s 10 rfl rfl hC (fun w hC=>F4 (j:=0) (hC.ceAt 0 rfl) rfl isAgg41 sizeOf41 rfl rfl) fun a s=>?_
      refine a6J (rs:=[1,11]) (by kernel_rfl) rfl ?_
      refine a1u.cons rfl ?_ ?_
      ·refine sv s (V5 (d.ownAt 3 rfl) rfl isAgg71 rfl) rfl fun a s=>?_
       refine h_n [0,1,2,4] [0,2,4] d rfl rfl fun hC=>?_
       refine ho 11 rfl ?_
       refine cR s (a1j h1199 d.dom (d.envAt 1 rfl)) (d9 call45 rfl) rfl ?_
       rintro v1216 Sv1213 w a h1214 ⟨p1201,k1202,c1204,rfl,h1217,h1203⟩ s
       have d:=(d.callN h1214 h1217).addE (e:=j5 c1204 rv1200.Response.Stages) h1203
       refine h_n [1,2,3,5] [1,3,5] d rfl rfl fun hC=>?_
       refine ho 12 rfl ?_
       obtain ⟨Sv1219,d⟩:=D9 (α:=Stage) d 0 rfl 0 rfl
       refine x9 (α:=Epoch) (vs:=[V41 rv1200 p1201 k1202]) (cs:=(C41 rv1200 p1201 k1202)) (xs:=([rv1200]:List Epoch)) s d a5v rfl rfl rfl rfl rfl rfl ⟨⟨_,_,_,_,_,_,_,_,rfl,rfl,rfl,rfl,rfl,rfl,rfl,rfl,⟨_,_,_,rfl,d.envAt 0 rfl⟩⟩,rfl⟩ rfl trivial rfl fun b1206 a w s d=>?_
       refine h_n [1,2,3,5] [3,5,7] d rfl rfl fun hC=>?_
       refine h_d [1,2,3,5,0] [3,5,7] [0,1,2,3] [0,1,2] d rfl rfl rfl rfl fun hC=>?_
       refine ho 13 rfl ?_
       refine N9 (α:=Epoch) s d a5v 6 rfl rfl rfl 12 rfl 0 rfl 0 rfl h1207 rfl trivial ?_
       intro p1209 k1210 c1211 a w s d
       refine h_n [1,2,3,5,0] [4,6,8] d rfl rfl fun hC=>?_
       refine gv s 14 rfl rfl hC (fun w hC=>j6 (o':=4) runUnderlying73 rfl sizeOf71 rfl rfl rfl) fun a s=>?_
       refine ho 15 rfl ?_
       refine ws (C73 ⟨x906.Source,l1208⟩ p1209 k1210) s d 4 rfl rfl rfl sizeOf71 fun a w s d=>?_
       refine h_n [1,2,3,5,0] [4,6,8] d rfl rfl fun hC=>?_
       refine y8 (by kernel_rfl) ?_
       exact ⟨Sv1219,c1211,k1210,p1209,wj s d [1,2,3,4,5,6] [10,11,12,0]⟩
      refine a1u.cons rfl ?_ ?_
      ·refine cR s (a1j h1199 d.dom (d.envAt 1 rfl)) (d9 call45 rfl) rfl ?_
       rintro v1223 Sv1220 w a h1221 ⟨p1201,k1202,c1204,rfl,h1224,h1203⟩ s
       have d:=(d.callN h1221 h1224).addE (e:=j5 c1204 rv1200.Response.Stages) h1203
       refine h_n [1,2,3,5] [1,3,5] d rfl rfl fun hC=>?_
       refine a6J (rs:=[1,12]) (by kernel_rfl) rfl ?_
       refine a1u.cons rfl ?_ ?_
       ·refine sv s (V5 (d.ownAt 4 rfl) rfl isAgg71 rfl) rfl fun a s=>?_
        refine h_n [1,2,3,5] [1,3,5] d rfl rfl fun hC=>?_
        refine ho 12 rfl ?_
        obtain ⟨Sv1226,d⟩:=D9 (α:=Stage) d 0 rfl 0 rfl
        refine x9 (α:=Epoch) (vs:=[V41 rv1200 p1201 k1202]) (cs:=(C41 rv1200 p1201 k1202)) (xs:=([rv1200]:List Epoch)) s d a5v rfl rfl rfl rfl rfl rfl ⟨⟨_,_,_,_,_,_,_,_,rfl,rfl,rfl,rfl,rfl,rfl,rfl,rfl,⟨_,_,_,rfl,d.envAt 0 rfl⟩⟩,rfl⟩ rfl trivial rfl fun b1206 a w s d=>?_
        refine h_n [1,2,3,5] [3,5,7] d rfl rfl fun hC=>?_
        refine h_d [1,2,3,5,0] [3,5,7] [0,1,2,3] [0,1,2] d rfl rfl rfl rfl fun hC=>?_
        refine ho 13 rfl ?_
        refine N9 (α:=Epoch) s d a5v 6 rfl rfl rfl 12 rfl 0 rfl 0 rfl h1207 rfl trivial ?_
        intro p1209 k1210 c1211 a w s d
        refine h_n [1,2,3,5,0] [4,6,8] d rfl rfl fun hC=>?_
        refine gv s 14 rfl rfl hC (fun w hC=>j6 (o':=4) runUnderlying73 rfl sizeOf71 rfl rfl rfl) fun a s=>?_
        refine ho 15 rfl ?_
        refine ws (C73 ⟨x906.Source,l1208⟩ p1209 k1210) s d 4 rfl rfl rfl sizeOf71 fun a w s d=>?_
        refine h_n [1,2,3,5,0] [4,6,8] d rfl rfl fun hC=>?_
        refine y8 (by kernel_rfl) ?_
        exact ⟨Sv1226,c1211,k1210,p1209,wj s d [1,2,3,4,5,6] [10,11,12,0]⟩
       refine a1u.cons rfl ?_ ?_
       ·obtain ⟨Sv1227,d⟩:=D9 (α:=Stage) d 0 rfl 0 rfl
        refine x9 (α:=Epoch) (vs:=[V41 rv1200 p1201 k1202]) (cs:=(C41 rv1200 p1201 k1202)) (xs:=([rv1200]:List Epoch)) s d a5v rfl rfl rfl rfl rfl rfl ⟨⟨_,_,_,_,_,_,_,_,rfl,rfl,rfl,rfl,rfl,rfl,rfl,rfl,⟨_,_,_,rfl,d.envAt 0 rfl⟩⟩,rfl⟩ rfl trivial rfl fun b1206 a w s d=>?_
        refine h_n [1,2,3,5] [3,5,7] d rfl rfl fun hC=>?_
        refine h_d [1,2,3,5,0] [3,5,7] [0,1,2,3] [0,1,2] d rfl rfl rfl rfl fun hC=>?_
        refine ho 1 rfl ?_
        refine sv s (V5 (d.ownAt 4 rfl) rfl isAgg71 rfl) rfl fun a s=>?_
        refine h_n [1,2,3,5,0] [3,5,7] d rfl rfl fun hC=>?_
        refine ho 13 rfl ?_
        refine N9 (α:=Epoch) s d a5v 6 rfl rfl rfl 12 rfl 0 rfl 0 rfl h1207 rfl trivial ?_
        intro p1209 k1210 c1211 a w s d
        refine h_n [1,2,3,5,0] [4,6,8] d rfl rfl fun hC=>?_
        refine gv s 14 rfl rfl hC (fun w hC=>j6 (o':=4) runUnderlying73 rfl sizeOf71 rfl rfl rfl) fun a s=>?_
        refine ho 15 rfl ?_
        refine ws (C73 ⟨x906.Source,l1208⟩ p1209 k1210) s d 4 rfl rfl rfl sizeOf71 fun a w s d=>?_
        refine h_n [1,2,3,5,0] [4,6,8] d rfl rfl fun hC=>?_
        refine y8 (by kernel_rfl) ?_
        exact ⟨Sv1227,c1211,k1210,p1209,wj s d [1,2,3,4,5,6] [10,11,12,0]⟩
       exact a1u.nil
      exact a1u.nil
     rintro a w ⟨Sv1212,c1211,k1210,p1209,s,d⟩
     refine l7 (tn (wp_region_lit (rn0 2 s rfl fun a s=>?_)))
     obtain ⟨k1250,h1249,u⟩:=bt u
     refine sv s (r9 rfl h1249) rfl fun a s=>?_
     exact nl ⟨_,io u,c1211,p1209,k1210,Sv1212,wj s d [0,1,2,3,4,5] [0,1,2,3]⟩
    refine wp_exit (j4 (j4 (q9 ?_)))
    obtain rfl:=oi u
    have h1251:=hd1105 _ rfl
    subst h1251
    exact tn ⟨c1043,p1044,k1045,Sv1046,wj s d [0,1,2,3,4,5] [2,3,4,5]⟩
   rintro a w ⟨c1109,p1110,k1111,Sv1112,s,d⟩
   refine tn (wp_region_lit (rn 3 [2,3] s d rfl rfl fun a s=>?_))
   obtain ⟨Sv1254,d⟩:=D9 (α:=Epoch) d 5 rfl 3 rfl
   refine x9 (α:=Channel) (vs:=[V73 ⟨x906.Source,e1108⟩ p1110 k1111]) (cs:=(C73 ⟨x906.Source,e1108⟩ p1110 k1111)) (xs:=([(⟨x906.Source,e1108⟩:Channel)]:List Channel)) s d a6D rfl rfl rfl rfl rfl rfl ⟨⟨_,_,_,_,_,rfl,rfl,rfl,rfl,rfl,⟨_,_,_,rfl,d.envAt 0 rfl⟩⟩,rfl⟩ rfl trivial rfl fun b1253 a w s d=>?_
   obtain ⟨l1256,h1255,u⟩:=bt u
   refine N9 (α:=Channel) s d a6D 5 rfl rfl rfl 4 rfl 0 rfl 0 rfl h1255 rfl trivial ?_
   intro p1257 k1258 c1259 a w s d
   refine sv s (j6 (o':=0) runUnderlying29 rfl sizeOf27 rfl rfl rfl) rfl fun a s=>?_
   refine ws [sl p1257 k1258 l1256] s d 3 rfl rfl rfl sizeOf27 fun a w s d=>?_
   refine wpList_nil ?_
   refine l7 (tn (wp_region_lit (rn0 2 s rfl fun a s=>?_)))
   obtain ⟨i1261,h1260,u⟩:=bt u
   refine sv s (r9 rfl h1260) rfl fun a s=>?_
   exact nl ⟨_,io u,c1259,p1257,k1258,Sv1254,wj s d [1,2,3,5] [3,4,0]⟩
  refine wp_exit (j4 (j4 (q9 ?_)))
  obtain rfl:=oi u
  have h1263:=hd677 _ rfl
  subst h1263
  exact tn ⟨c453,p454,k455,Sv456,wj s d [1,2,3] [1,2]⟩
 rintro a w ⟨c681,p682,k683,Sv684,s,d⟩
 refine tn (sn 1 [1] s d rfl rfl fun a s=>?_)
 refine ws [sl p682 k683 e680] s d 0 rfl rfl rfl sizeOf29 fun a w s d=>?_
 refine nl ?_
 obtain rfl:=oi u
 exact wp_ret (a6A s rfl (M4 d 0 rfl rfl isAgg29 sizeOf29 rfl) (d.ret ⟨p682,k683,c681,rfl,(d.outs [2] (by decide) rfl),(d.envAt 1 rfl)⟩))
abbrev b0i (w0:World) (X:List Nat) (r:(Int × Int)):Rd:=fun S w v=>v=.tuple #[iv r.1,iv r.2]
theorem b0h {w0 S0 p2 k3 p6 k7 inv1 c5 r} (u:a5b inv1 c5=some r) (hS:Dm S0 w0) (h4:(Sq p2 k3 inv1.Channels).p S0 w0) (h8:(Sq p6 k7 c5.Epoch.Response.Stages).p S0 w0):Ck Tryz.prog 74 #[.agg #[sl p2 k3 inv1.Channels],V43 c5 p6 k7] w0 S0 [] b0i r:=by
 refine en 51 func74 rfl hS rfl rfl rfl fun a s d=>?_
 have d:=(d.addE h4).addE h8
 refine sr (wb [sl p2 k3 inv1.Channels] s d rfl fun b9 a w s d=>?_)
 refine wb (C43 c5 p6 k7) s d rfl fun b10 a w s d=>?_
 refine rz0 2 s rfl fun a s=>?_
 refine wp_seq (sz0 1 s rfl fun a s=>?_)
 refine wp_block (u7 (fun sv511 a w=>∃ Sv843,Sl 51 [(2,pt b9),(3,pt b10),(6,iv sv511)] a∧Wd ⟨w0,S0,[]⟩ Sv843 [.box b9 [sl p2 k3 inv1.Channels] 29,.box b10 (C43 c5 p6 k7) 43] [Sq p2 k3 inv1.Channels,Sq p6 k7 c5.Epoch.Response.Stages] w) 0 u ⟨S0,wj s d [1,0] [1,0]⟩ ?_)
 repeat clear u
 rintro sv511 a w tv1010 ⟨Sv843,s,d⟩ u hd1009
 refine wp_seq (sz 5 [0] s d rfl rfl fun a s=>?_)
 refine cd s u rfl (fun u=>?_) fun u=>?_
 ·refine sk (wp_seq (wp_block (wp_seq (wp_seq ?_))))
  obtain ⟨x1179,h1177,u⟩:=bt u
  obtain ⟨b1185,o1186,q1183,c1184,h1187,h1180,h1181,h1182,h1178⟩:=d.elemV 0 rfl h1177
  have hsv1188:=s
  have hwv1189:=d
  subst h1187
  have s:=hsv1188
  have d:=hwv1189
  obtain ⟨_,_,_,_,_,rfl,rfl,rfl,rfl,rfl,⟨p1190,n1191,k1192,rfl,h1193⟩⟩:=h1178
  obtain rfl:=h1193.1
  have d:=(d.addE (e:=SlA p1190 _ k1192 x1179.Epochs) h1193).addE h1182
  refine A7 (fun a w=>∃ Sv1194,Sl 51 [(2,pt b9),(3,pt b10),(6,iv sv511),(23,.bool (!((x1179.Source.Network == c5.Source.Network) && ((x1179.Source.Station == c5.Source.Station) && ((x1179.Source.Location == c5.Source.Location) && ((x1179.Source.Channel == c5.Source.Channel) && true))))))] a∧Wd ⟨w0,S0,[]⟩ Sv1194 [.box b9 [sl (some ⟨b1185,o1186,none⟩) k3 inv1.Channels] 29,.box b10 (C43 c5 p6 k7) 43] [Sq (some ⟨b1185,o1186,none⟩) k3 inv1.Channels,Sq p6 k7 c5.Epoch.Response.Stages] w) ?_ ?_
  ·refine h_c [0,1] [0] d rfl rfl (by kernel_rfl) rfl fun hC d=>?_
   refine gn 3 [0,1,2] [0] s hC rfl rfl rfl fun a s=>?_
   refine gx s 3 rfl trivial rfl hC runUnderlying27 sizeOf73 rfl rfl h1180 h1181 fun a s=>?_
   refine gv s 4 rfl rfl hC (fun w hC=>j6 (o':=q1183+0) runUnderlying73 rfl sizeOf32 rfl rfl rfl) fun a s=>?_
   refine gv s 5 rfl rfl hC (fun w hC=>F4 (j:=0) (hC.ceAt 0 rfl) rfl isAgg32 sizeOf32 rfl rfl) fun a s=>?_
   refine gn 2 [6,7] [1] s hC rfl rfl rfl fun a s=>?_
   refine gv s 8 rfl rfl hC (fun w hC=>a9n (by kernel_rfl) rfl rfl (O8 runUnderlying32 (by kernel_rfl) (EqF.cons1 rfl isAgg9 rfl rfl (I9 runUnderlying9) (EqF.cons1 rfl isAgg9 rfl rfl (I9 runUnderlying9) (EqF.cons1 rfl isAgg9 rfl rfl (I9 runUnderlying9) (EqF.cons1 rfl isAgg9 rfl rfl (I9 runUnderlying9) EqF.nil)))))) fun a s=>?_
   refine y8 (by kernel_rfl) ?_
   exact ⟨Sv843,wj s d [0,1] [2,3]⟩
  rintro a w ⟨Sv1194,s,d⟩
  refine tn (cd s u rfl (fun u=>?_) fun u=>?_)
  ·refine wp_exit (j4 (q9 (tn (wp_region_lit (rn0 2 s rfl fun a s=>?_)))))
   obtain ⟨i1198,h1197,u⟩:=bt u
   refine sv s (r9 rfl h1197) rfl fun a s=>?_
   exact nl ⟨_,io u,Sv1194,wj s d [0,1] [0,1]⟩
  refine sk (wp_seq (sz0 1 s rfl fun a s=>?_))
  refine wp_block (u7 (fun sv1342 a w=>∃ Sv1436,Sl 51 [(2,pt b9),(3,pt b10),(6,iv sv511),(7,iv sv1342)] a∧Wd ⟨w0,S0,[]⟩ Sv1436 [.box b9 [sl (some ⟨b1185,o1186,none⟩) k3 inv1.Channels] 29,.box b10 (C43 c5 p6 k7) 43] [Sq (some ⟨b1185,o1186,none⟩) k3 inv1.Channels,Sq p6 k7 c5.Epoch.Response.Stages] w) 0 u ⟨Sv1194,wj s d [0,1] [0,1]⟩ ?_)
  repeat clear u
  rintro sv1342 a w tv1484 ⟨Sv1436,s,d⟩ u hd1483
  refine wp_seq (sn 4 [0] s d rfl rfl fun a s=>?_)
  obtain ⟨x1487,h1485,u⟩:=bt u
  obtain ⟨q1491,c1492,h1488,h1489,h1490,h1486⟩:=d.elemK 0 rfl h1485
  obtain ⟨_,_,_,_,_,rfl,rfl,rfl,rfl,rfl,⟨p1493,n1494,k1495,rfl,h1496⟩⟩:=h1486
  obtain rfl:=h1496.1
  have d:=(d.addE (e:=SlA p1493 _ k1495 x1487.Epochs) h1496).addE h1490
  refine sv s (u6 runUnderlying27 sizeOf73 rfl rfl h1488.1 h1488.2 h1489) rfl fun a s=>?_
  refine sv s (j6 (o':=q1491+4) runUnderlying73 rfl sizeOf71 rfl rfl rfl) rfl fun a s=>?_
  refine sv s (G6 (j:=4) (d.ceAt 0 rfl) rfl isAgg71 rfl) rfl fun a s=>?_
  refine rz0 2 s rfl fun a s=>?_
  refine cd s u rfl (fun u=>?_) fun u=>?_
  ·refine sk (wp_seq (wp_block (wp_seq ?_)))
   obtain ⟨x1534,h1532,u⟩:=bt u
   obtain ⟨q1538,c1539,h1535,h1536,h1537,h1533⟩:=d.elemK 2 rfl h1532
   obtain ⟨_,_,_,_,_,rfl,rfl,rfl,rfl,rfl,⟨p1540,n1541,k1542,rfl,h1543⟩⟩:=h1533
   obtain rfl:=h1543.1
   have d:=(d.addE (e:=SlA p1540 _ k1542 x1534.Epochs) h1543).addE h1537
   obtain ⟨x1546,h1544,u⟩:=bt u
   obtain ⟨b1552,o1553,q1550,c1551,h1554,h1547,h1548,h1549,h1545⟩:=d.elemV 1 rfl h1544
   have hsv1555:=s
   have hwv1556:=d
   subst h1554
   have s:=hsv1555
   have d:=hwv1556
   obtain ⟨_,_,_,_,_,_,_,_,rfl,rfl,rfl,rfl,rfl,rfl,rfl,rfl,⟨p1557,n1558,k1559,rfl,h1560⟩⟩:=h1545
   obtain rfl:=h1560.1
   have d:=(d.addE (e:=SlA p1557 _ k1559 x1546.Response.Stages) h1560).addE h1549
   refine A7 (fun a w=>∃ Sv1561,Sl 51 [(2,pt b9),(3,pt b10),(6,iv sv511),(7,iv sv1342),(47,.bool (x1546.From == c5.From))] a∧Wd ⟨w0,S0,[]⟩ Sv1561 [.box b9 [sl (some ⟨b1185,o1186,none⟩) k3 inv1.Channels] 29,.box b10 (C43 c5 p6 k7) 43] [Sq (some ⟨b1185,o1186,none⟩) k3 inv1.Channels,Sq p6 k7 c5.Epoch.Response.Stages] w) ?_ ?_
   ·refine h_c [0,1] [0,2,4] d rfl rfl (by kernel_rfl) rfl fun hC d=>?_
    refine gn 3 [0,1,2] [0] s hC rfl rfl rfl fun a s=>?_
    refine gx s 3 rfl trivial rfl hC runUnderlying27 sizeOf73 rfl rfl h1535 h1536 fun a s=>?_
    refine gv s 4 rfl rfl hC (fun w hC=>j6 (o':=q1538+4) runUnderlying73 rfl sizeOf71 rfl rfl rfl) fun a s=>?_
    refine gv s 5 rfl rfl hC (fun w hC=>G6 (j:=4) (hC.ceAt 1 rfl) rfl isAgg71 rfl) fun a s=>?_
    refine gm s 6 rfl rfl rfl hC fun a s=>?_
    refine gx s 7 rfl trivial rfl hC runUnderlying71 sizeOf41 rfl rfl h1547 h1548 fun a s=>?_
    refine gv s 8 rfl rfl hC (fun w hC=>j6 (o':=q1550+0) runUnderlying41 rfl sizeOf3 rfl rfl rfl) fun a s=>?_
    refine gv s 9 rfl rfl hC (fun w hC=>G6 (j:=0) (hC.ceAt 0 rfl) rfl isAgg3 rfl) fun a s=>?_
    refine gn 3 [10,11,12] [1] s hC rfl rfl rfl fun a s=>?_
    refine y8 (by kernel_rfl) ?_
    exact ⟨Sv1436,wj s d [0,1] [6,7]⟩
   rintro a w ⟨Sv1561,s,d⟩
   refine tn (cd s u rfl (fun u=>?_) fun u=>?_)
   ·refine sz0 4 s rfl fun a s=>?_
    obtain rfl:=oi u
    have h1564:=hd1483 _ rfl
    subst h1564
    have h1565:=hd1009 _ rfl
    subst h1565
    exact wp_ret (o9 (j3 (j3 (o9 (j3 (o9 (j3 (j3 (o9 (j3 (a4Q s rfl (P8 rfl) (P8 rfl) (d.ret rfl))))))))))))
   refine wp_skip (l7 (tn (wp_region_lit (rn0 2 s rfl fun a s=>?_))))
   obtain ⟨k1567,h1566,u⟩:=bt u
   refine sv s (r9 rfl h1566) rfl fun a s=>?_
   exact nl ⟨_,io u,Sv1561,wj s d [0,1] [0,1]⟩
  obtain ⟨rv1569,u,h1570⟩:=a0l u
  have h1570:=(hd1483 _ h1570.symm).symm
  subst h1570
  refine wp_exit (j4 (j4 (q9 (tn (sz0 3 s rfl fun a s=>?_)))))
  obtain rfl:=oi u
  have h1568:=hd1009 _ rfl
  subst h1568
  exact wp_ret (o9 (j3 (j3 (o9 (j3 (a4Q s rfl (P8 rfl) (P8 rfl) (d.ret rfl)))))))
 obtain ⟨rv1571,u,h1572⟩:=a0l u
 have h1572:=(hd1009 _ h1572.symm).symm
 subst h1572
 refine wp_exit (j4 (j4 (q9 (tn (sz0 2 s rfl fun a s=>?_)))))
 obtain rfl:=oi u
 exact wp_ret (a4Q s rfl (P8 rfl) (P8 rfl) (d.ret rfl))
theorem a8A {w0 S0 p2 k3 p6 k7 l1 e5 r} (u:a3w l1 e5=some r) (hS:Dm S0 w0) (h4:(Sq p2 k3 l1).p S0 w0) (h8:(Sq p6 k7 e5.Response.Stages).p S0 w0):Ck Tryz.prog 75 #[sl p2 k3 l1,V41 e5 p6 k7] w0 S0 [] l5 r:=by
 refine en 30 func75 rfl hS rfl rfl rfl fun a s d=>?_
 have d:=(d.addE h4).addE h8
 refine sr (wb (C41 e5 p6 k7) s d rfl fun b9 a w s d=>?_)
 refine rz0 1 s rfl fun a s=>?_
 refine wp_seq (sz0 1 s rfl fun a s=>?_)
 refine wp_block (u7 (fun sv120 a w=>∃ Sv192,Sl 30 [(0,sl p2 k3 l1),(3,pt b9),(5,iv sv120)] a∧Wd ⟨w0,S0,[]⟩ Sv192 [.box b9 (C41 e5 p6 k7) 41] [Sq p2 k3 l1,Sq p6 k7 e5.Response.Stages] w) 0 u ⟨S0,wj s d [0] [1,0]⟩ ?_)
 repeat clear u
 rintro sv120 a w tv229 ⟨Sv192,s,d⟩ u hd228
 refine wp_seq (sz0 4 s rfl fun a s=>?_)
 refine cd s u rfl (fun u=>?_) fun u=>?_
 ·refine sk (wp_seq (wp_block (wp_seq ?_)))
  obtain ⟨x268,h266,u⟩:=bt u
  obtain ⟨b274,o275,q272,c273,h276,h269,h270,h271,h267⟩:=d.elemV 0 rfl h266
  have hsv277:=s
  have hwv278:=d
  subst h276
  have s:=hsv277
  have d:=hwv278
  obtain ⟨_,_,_,_,_,_,_,_,rfl,rfl,rfl,rfl,rfl,rfl,rfl,rfl,⟨p279,n280,k281,rfl,h282⟩⟩:=h267
  obtain rfl:=h282.1
  have d:=(d.addE (e:=SlA p279 _ k281 x268.Response.Stages) h282).addE h271
  obtain ⟨c295,hc295,u⟩:=bt u
  refine A7 (fun a w=>∃ Sv296,Sl 30 [(0,sl (some ⟨b274,o275,none⟩) k3 l1),(3,pt b9),(5,iv sv120),(29,.bool c295)] a∧Wd ⟨w0,S0,[]⟩ Sv296 [.box b9 (C41 e5 p6 k7) 41] [Sq (some ⟨b274,o275,none⟩) k3 l1,Sq p6 k7 e5.Response.Stages] w) ?_ ?_
  ·rcases Bool.eq_false_or_eq_true (decide (x268.From<e5.To)) with h297 | h297
   ·have h298:=A9 hc295 h297
    obtain ⟨x301,h299,h298⟩:=T9 h298
    obtain ⟨q305,c306,h302,h303,h304,h300⟩:=d.elemK 2 rfl h299
    obtain ⟨_,_,_,_,_,_,_,_,rfl,rfl,rfl,rfl,rfl,rfl,rfl,rfl,⟨p307,n308,k309,rfl,h310⟩⟩:=h300
    obtain rfl:=h310.1
    have d:=(d.addE (e:=SlA p307 _ k309 x301.Response.Stages) h310).addE h304
    refine h_c [0] [0,2] d rfl rfl (by kernel_rfl) rfl fun hC d=>?_
    refine gn 2 [0,1] [] s hC rfl rfl rfl fun a s=>?_
    refine gx s 2 rfl trivial rfl hC runUnderlying71 sizeOf41 rfl rfl h269 h270 fun a s=>?_
    refine gv s 3 rfl rfl hC (fun w hC=>j6 (o':=q272+0) runUnderlying41 rfl sizeOf3 rfl rfl rfl) fun a s=>?_
    refine gv s 4 rfl rfl hC (fun w hC=>G6 (j:=0) (hC.ceAt 1 rfl) rfl isAgg3 rfl) fun a s=>?_
    refine gn 4 [5,6,7,8] [0] s hC rfl rfl rfl fun a s=>?_
    have s:=s.bT 20 rfl h297
    refine gn 4 [9,10,11,12] [0] s hC rfl rfl rfl fun a s=>?_
    refine gx s 13 rfl ⟨_,rfl,rfl⟩ rfl hC runUnderlying71 sizeOf41 rfl rfl h302 h303 fun a s=>?_
    refine gt s 14 rfl ⟨_,rfl,rfl⟩ rfl hC (fun w hC=>j6 (o':=q305+1) runUnderlying41 rfl sizeOf3 rfl rfl rfl) fun a s=>?_
    refine gt s 15 rfl ⟨_,rfl,rfl⟩ rfl hC (fun w hC=>G6 (j:=1) (hC.ceAt 0 rfl) rfl isAgg3 rfl) fun a s=>?_
    refine gt s 16 rfl ⟨_,rfl,rfl⟩ rfl hC (fun w hC=>b0C rfl rfl) fun a s=>?_
    refine gT s 17 rfl rfl hC rfl rfl h298 fun a s=>?_
    refine y8 (by kernel_rfl) ?_
    exact ⟨Sv192,wj s d [0] [4,5]⟩
   have h311:=C8 hc295 h297
   refine h_c [0] [0] d rfl rfl (by kernel_rfl) rfl fun hC d=>?_
   refine gn 2 [0,1] [] s hC rfl rfl rfl fun a s=>?_
   refine gx s 2 rfl trivial rfl hC runUnderlying71 sizeOf41 rfl rfl h269 h270 fun a s=>?_
   refine gv s 3 rfl rfl hC (fun w hC=>j6 (o':=q272+0) runUnderlying41 rfl sizeOf3 rfl rfl rfl) fun a s=>?_
   refine gv s 4 rfl rfl hC (fun w hC=>G6 (j:=0) (hC.ceAt 0 rfl) rfl isAgg3 rfl) fun a s=>?_
   refine gn 4 [5,6,7,8] [0] s hC rfl rfl rfl fun a s=>?_
   have s:=s.bF 20 rfl h297
   refine gn 8 [9,10,11,12,13,14,15,16] [] s hC rfl rfl rfl fun a s=>?_
   refine gF s 17 rfl rfl hC rfl rfl h311 fun a s=>?_
   refine y8 (by kernel_rfl) ?_
   exact ⟨Sv192,wj s d [0] [2,3]⟩
  rintro a w ⟨Sv296,s,d⟩
  refine tn (cd s u rfl (fun u=>?_) fun u=>?_)
  ·refine sz0 1 s rfl fun a s=>?_
   obtain rfl:=oi u
   have h314:=hd228 _ rfl
   subst h314
   exact wp_ret (o9 (j3 (j3 (o9 (j3 (rt s rfl (d.ret rfl)))))))
  refine wp_skip (l7 (tn (wp_region_lit (rn0 2 s rfl fun a s=>?_))))
  obtain ⟨i316,h315,u⟩:=bt u
  refine sv s (r9 rfl h315) rfl fun a s=>?_
  exact nl ⟨_,io u,Sv296,wj s d [0] [0,1]⟩
 obtain ⟨rv317,u,h318⟩:=a0l u
 have h318:=(hd228 _ h318.symm).symm
 subst h318
 refine wp_exit (j4 (j4 (q9 (tn (sz0 1 s rfl fun a s=>?_)))))
 obtain rfl:=oi u
 exact q1 s rfl (d.ret rfl)
theorem b1G {w0 S0 p2 k3 p6 k7 l1 e5 r} (u:a7l l1 e5=some r) (hS:Dm S0 w0) (h4:(Sq p2 k3 l1).p S0 w0) (h8:(Sq p6 k7 e5.Response.Stages).p S0 w0):Ck Tryz.prog 76 #[sl p2 k3 l1,V41 e5 p6 k7] w0 S0 [] H7 r:=by
 refine en 36 func76 rfl hS rfl rfl rfl fun a s d=>?_
 have d:=(d.addE h4).addE h8
 refine sr (wb (C41 e5 p6 k7) s d rfl fun b9 a w s d=>?_)
 refine rz0 1 s rfl fun a s=>?_
 refine sz0 1 s rfl fun a s=>?_
 refine wp_seq ?_
 obtain ⟨e82,h173,u⟩:=bt u
 refine y7 (fun a w=>∃ Sv83,Sl 36 [(0,sl p2 k3 l1),(3,pt b9),(5,iv e82)] a∧Wd ⟨w0,S0,[]⟩ Sv83 [.box b9 (C41 e5 p6 k7) 41] [Sq p2 k3 l1,Sq p6 k7 e5.Response.Stages] w) ?_ ?_
 ·refine wp_block (u7 (fun sv10 a w=>∃ Sv56,Sl 36 [(0,sl p2 k3 l1),(3,pt b9),(5,iv sv10)] a∧Wd ⟨w0,S0,[]⟩ Sv56 [.box b9 (C41 e5 p6 k7) 41] [Sq p2 k3 l1,Sq p6 k7 e5.Response.Stages] w) 0 h173 ⟨S0,wj s d [0] [1,0]⟩ ?_)
  clear h173
  repeat clear u
  rintro sv10 a w tv80 ⟨Sv56,s,d⟩ u hd79
  refine wp_seq (wp_seq ?_)
  obtain ⟨c101,hc101,u⟩:=bt u
  refine A7 (fun a w=>∃ Sv102,Sl 36 [(0,sl p2 k3 l1),(3,pt b9),(5,iv sv10),(20,.bool c101)] a∧Wd ⟨w0,S0,[]⟩ Sv102 [.box b9 (C41 e5 p6 k7) 41] [Sq p2 k3 l1,Sq p6 k7 e5.Response.Stages] w) ?_ ?_
  ·rcases Bool.eq_false_or_eq_true (decide (sv10<(l1.length:Int))) with h103 | h103
   ·have h104:=A9 hc101 h103
    obtain ⟨x107,h105,h104⟩:=T9 h104
    obtain ⟨b113,o114,q111,c112,h115,h108,h109,h110,h106⟩:=d.elemV 0 rfl h105
    have hsv116:=s
    have hwv117:=d
    subst h115
    have s:=hsv116
    have d:=hwv117
    obtain ⟨_,_,_,_,_,_,_,_,rfl,rfl,rfl,rfl,rfl,rfl,rfl,rfl,⟨p118,n119,k120,rfl,h121⟩⟩:=h106
    obtain rfl:=h121.1
    have d:=(d.addE (e:=SlA p118 _ k120 x107.Response.Stages) h121).addE h110
    refine h_c [0] [0] d rfl rfl (by kernel_rfl) rfl fun hC d=>?_
    refine gn 5 [0,1,2,3,4] [] s hC rfl rfl rfl fun a s=>?_
    have s:=s.bT 11 rfl h103
    refine gn 2 [5,6] [] s hC rfl rfl rfl fun a s=>?_
    refine gx s 7 rfl ⟨_,rfl,rfl⟩ rfl hC runUnderlying71 sizeOf41 rfl rfl h108 h109 fun a s=>?_
    refine gt s 8 rfl ⟨_,rfl,rfl⟩ rfl hC (fun w hC=>j6 (o':=q111+0) runUnderlying41 rfl sizeOf3 rfl rfl rfl) fun a s=>?_
    refine gt s 9 rfl ⟨_,rfl,rfl⟩ rfl hC (fun w hC=>G6 (j:=0) (hC.ceAt 0 rfl) rfl isAgg3 rfl) fun a s=>?_
    refine gn 3 [10,11,12] [0] s hC rfl rfl rfl fun a s=>?_
    refine gT s 13 rfl rfl hC rfl rfl h104 fun a s=>?_
    refine y8 (by kernel_rfl) ?_
    exact ⟨Sv56,wj s d [0] [2,3]⟩
   have h122:=C8 hc101 h103
   refine h_c [0] [] d rfl rfl (by kernel_rfl) rfl fun hC d=>?_
   refine gn 5 [0,1,2,3,4] [] s hC rfl rfl rfl fun a s=>?_
   have s:=s.bF 11 rfl h103
   refine gn 8 [5,6,7,8,9,10,11,12] [] s hC rfl rfl rfl fun a s=>?_
   refine gF s 13 rfl rfl hC rfl rfl h122 fun a s=>?_
   refine y8 (by kernel_rfl) ?_
   exact ⟨Sv56,wj s d [0] [0,1]⟩
  rintro a w ⟨Sv102,s,d⟩
  refine tn (cd s u rfl (fun u=>?_) fun u=>?_)
  ·refine sk (wp_block (wp_region_lit (rn0 2 s rfl fun a s=>?_)))
   obtain ⟨k128,h127,u⟩:=bt u
   refine sv s (r9 rfl h127) rfl fun a s=>?_
   refine wpList_nil ?_
   exact l7 (tn ⟨_,io u,Sv102,wj s d [0] [0,1]⟩)
  refine wp_exit (j4 (j4 (q9 ?_)))
  obtain rfl:=oi u
  have h129:=hd79 _ rfl
  subst h129
  exact tn ⟨Sv102,wj s d [0] [0,1]⟩
 rintro a w ⟨Sv83,s,d⟩
 refine tn (sn0 2 s rfl fun a s=>?_)
 obtain ⟨l135,h130,u⟩:=bt u
 obtain ⟨p133,k134,h131,h132⟩:=a8K (d.envAt 0 rfl) h130
 have d:=d.addE h131
 refine sv s (U8 runUnderlying71 sizeOf41 rfl (by exact rfl) ⟨_,rfl⟩ h132) rfl fun a s=>?_
 obtain ⟨l137,h136,u⟩:=bt u
 have d:=d.nilRow Epoch 41
 refine a0b (α:=Epoch) s d a5v 0 rfl rfl rfl 0 rfl 1 rfl h136 rfl trivial ?_
 intro p138 k139 c140 a w s d
 refine rz0 1 s rfl fun a s=>?_
 refine wp_seq ?_
 obtain ⟨rv142,h141,u⟩:=bt u
 obtain ⟨l150,h149,u⟩:=bt u
 obtain ⟨l159,h154,u⟩:=bt u
 obtain ⟨p157,k158,h155,h156⟩:=a8K (d.envAt 3 rfl) h154
 have d:=d.addE h155
 obtain ⟨l161,h160,u⟩:=bt u
 refine A7 (fun a w=>∃ Sv165 c164 k163 p162,Sl 36 [(4,sl p162 k163 l161)] a∧Wd ⟨w0,S0,[]⟩ Sv165 [.row p162 l161.length k163 c164 41 8] [j5 c164 l161] w) ?_ ?_
 ·refine h_c [1] [] d rfl rfl (by kernel_rfl) rfl fun hC d=>?_
  refine gn 4 [0,1,5,6] [0] s hC rfl rfl rfl fun a s=>?_
  refine gv s 7 rfl rfl hC (fun w hC=>U8 runUnderlying71 sizeOf41 rfl ⟨_,rfl⟩ (by exact rfl) h156) fun a s=>?_
  refine ho 2 rfl ?_
  refine cR s (a1j h141 d.dom (d.envAt 5 rfl)) (d9 call45 rfl) rfl ?_
  rintro v169 Sv166 w a h167 ⟨p143,k144,c146,rfl,h170,h145⟩ s
  have d:=(d.callN h167 h170).addE (e:=j5 c146 rv142.Response.Stages) h145
  refine h_n [2] [] d rfl rfl fun hC=>?_
  refine ho 3 rfl ?_
  obtain ⟨Sv172,d⟩:=D9 (α:=Stage) d 0 rfl 0 rfl
  refine x9 (α:=Epoch) (vs:=[V41 rv142 p143 k144]) (cs:=(C41 rv142 p143 k144)) (xs:=([rv142]:List Epoch)) s d a5v rfl rfl rfl rfl rfl rfl ⟨⟨_,_,_,_,_,_,_,_,rfl,rfl,rfl,rfl,rfl,rfl,rfl,rfl,⟨_,_,_,rfl,d.envAt 0 rfl⟩⟩,rfl⟩ rfl trivial rfl fun b148 a w s d=>?_
  refine h_n [2] [] d rfl rfl fun hC=>?_
  refine h_d [2,0] [] [0] [] d rfl rfl rfl rfl fun hC=>?_
  refine ho 4 rfl ?_
  refine N9 (α:=Epoch) s d a5v 1 rfl rfl rfl 4 rfl 0 rfl 0 rfl h149 rfl trivial ?_
  intro p151 k152 c153 a w s d
  refine h_n [2,0] [] d rfl rfl fun hC=>?_
  refine ho 8 rfl ?_
  refine a0b (α:=Epoch) s d a5v 1 rfl rfl rfl 0 rfl 4 rfl h160 rfl trivial ?_
  intro p162 k163 c164 a w s d
  refine h_n [2,0] [] d rfl rfl fun hC=>?_
  refine gv s 9 rfl rfl hC (fun w hC=>Y2 rfl) fun a s=>?_
  refine y8 (by kernel_rfl) ?_
  exact ⟨Sv172,c164,k163,p162,wj s d [1] [0]⟩
 rintro a w ⟨Sv165,c164,k163,p162,s,d⟩
 refine tn ?_
 obtain rfl:=oi u
 exact q1 s rfl (d.ret ⟨p162,k163,c164,rfl,(d.outs [0] (by decide) rfl),(d.envAt 0 rfl)⟩)
abbrev b0g (w0:World) (X:List Nat) (r:(Inventory × Int)):Rd:=fun S w v=>∃ p0_0 k0_0,v=.tuple #[.agg #[sl p0_0 k0_0 r.1.Channels],iv r.2]∧(Sq p0_0 k0_0 r.1.Channels).p S w
abbrev a3N:List Value:=[.slice none ([]:List Channel).length 0]
theorem a4O {w0 S0 p2 k3 p6 k7 inv1 c5 r} (u:a2c inv1 c5=some r) (hS:Dm S0 w0) (h4:(Sq p2 k3 inv1.Channels).p S0 w0) (h8:(Sq p6 k7 c5.Epoch.Response.Stages).p S0 w0):Ck Tryz.prog 33 #[.agg #[sl p2 k3 inv1.Channels],V43 c5 p6 k7] w0 S0 [] b0g r:=by
 refine en 157 func33 rfl hS rfl rfl rfl fun a s d=>?_
 have d:=(d.addE h4).addE h8
 refine sr (wb [sl p2 k3 inv1.Channels] s d rfl fun b9 a w s d=>?_)
 refine wb (C43 c5 p6 k7) s d rfl fun b10 a w s d=>?_
 refine wa a3N s d zeroValue29 fun b11 a w s d=>?_
 refine rz0 1 s rfl fun a s=>?_
 refine wp_seq (sn 2 [2,1] s d rfl rfl fun a s=>?_)
 obtain ⟨rv13,h12,u⟩:=bt u
 refine cV s d (b0Q h12 d.bdom (d.bE 1 rfl) (d.bE 0 rfl)) (d9 call72 rfl) rfl fun a w s d=>?_
 refine rz0 1 s rfl fun a s=>?_
 refine cd s u rfl (fun u=>?_) fun u=>?_
 ·refine sr (sv s (D5 (vs:=[]) a8f rfl rfl) rfl fun a s=>?_)
  refine ws a3N s d 0 rfl rfl rfl sizeOf29 fun a w s d=>?_
  refine rz0 1 s rfl fun a s=>?_
  obtain rfl:=oi u
  have d:=d.addE (e:=SlA (α:=Channel) none 0 0 []) Q9
  exact wp_ret (j3 (a4Q s rfl (M4 d 0 rfl rfl isAgg29 sizeOf29 rfl) (P8 rfl) (d.ret ⟨none,0,rfl,(d.envAt 0 rfl)⟩)))
 refine sk (sn 1 [2] s d rfl rfl fun a s=>?_)
 obtain ⟨rv23,h22,u⟩:=bt u
 refine cR s (b0O h22 d.dom (d.envAt 1 rfl)) (d9 call73 rfl) rfl ?_
 rintro v31 Sv28 w a h29 ⟨p24,k25,c27,rfl,h32,h26⟩ s
 have d:=(d.callN h29 h32).addE (e:=j5 c27 rv23.Channels) h26
 refine wa a3N s d zeroValue29 fun b34 a w s d=>?_
 refine ws [sl p24 k25 rv23.Channels] s d 0 rfl rfl rfl sizeOf29 fun a w s d=>?_
 refine nl (sn 2 [0,3] s d rfl rfl fun a s=>?_)
 obtain ⟨rv36,h35,u⟩:=bt u
 refine cV s d (b0h h35 d.bdom (d.bRow 1 rfl 0 rfl) (d.bE 1 rfl)) (d9 call74 rfl) rfl fun a w s d=>?_
 refine rz0 5 s rfl fun a s=>?_
 refine wp_seq (sz 3 [3] s d rfl rfl fun a s=>?_)
 refine y7 (fun a w=>∃ (x106:(List Channel)) (c102 p103 k104 Sv105:_),a0U c5 rv36 x106=some r∧Sl 157 [(3,pt b10),(4,pt b11),(6,pt b34),(7,iv rv36.1)] a∧Wd ⟨w0,S0,[]⟩ Sv105 [.box b10 (C43 c5 p6 k7) 43,.box b11 a3N 29,.box b34 [sl p103 k104 x106] 29,.row p103 x106.length k104 c102 73 5] [Sq p6 k7 c5.Epoch.Response.Stages,Sq none 0 ([]:List Channel),j5 c102 x106] w) ?_ ?_
 ·refine cd s u rfl (fun u=>?_) fun u=>?_
  ·refine wp_seq (sz0 2 s rfl fun a s=>?_)
   refine cd s u rfl (fun u=>?_) fun u=>?_
   ·refine sr (sv s (D5 (vs:=[]) a8f rfl rfl) rfl fun a s=>?_)
    refine ws a3N s d 2 rfl rfl rfl sizeOf29 fun a w s d=>?_
    refine rz0 1 s rfl fun a s=>?_
    obtain rfl:=oi u
    have d:=d.addE (e:=SlA (α:=Channel) none 0 0 []) Q9
    exact wp_ret (j3 (j3 (j3 (a4Q s rfl (M4 d 2 rfl rfl isAgg29 sizeOf29 rfl) (P8 rfl) (d.ret ⟨none,0,rfl,(d.envAt 0 rfl)⟩)))))
   refine sk (sn 3 [0] s d rfl rfl fun a s=>?_)
   obtain ⟨x631,h629,u⟩:=bt u
   obtain ⟨b638,q635,c636,h639,h632,h633,h637,h630⟩:=d.elemRV (α:=Channel) 1 rfl 0 rfl h629
   have hsv640:=s
   have hwv641:=d
   subst h639
   have s:=hsv640
   have d:=hwv641
   obtain ⟨_,_,_,_,_,rfl,rfl,rfl,rfl,rfl,⟨p642,n643,k644,rfl,h645⟩⟩:=h630
   obtain rfl:=h645.1
   have d:=d.addE (e:=SlA p642 _ k644 x631.Epochs) h645
   refine sv s (u6 runUnderlying27 sizeOf73 rfl rfl h632.1 h632.2 h633) rfl fun a s=>?_
   refine sv s (j6 (o':=q635+4) runUnderlying73 rfl sizeOf71 rfl rfl rfl) rfl fun a s=>?_
   refine sv s (Q7 (j:=4) (d.ownAt 1 rfl) rfl isAgg71 h637 rfl) rfl fun a s=>?_
   refine rz0 1 s rfl fun a s=>?_
   obtain ⟨l651,h646,u⟩:=bt u
   obtain ⟨p649,k650,h647,h648⟩:=a8K (d.envAt 0 rfl) h646
   have d:=d.addE h647
   obtain ⟨l653,h652,u⟩:=bt u
   obtain ⟨l662,h657,u⟩:=bt u
   obtain ⟨p660,k661,h658,h659⟩:=a8K (d.envAt 1 rfl) h657
   have d:=d.addE h658
   obtain ⟨l664,h663,u⟩:=bt u
   obtain ⟨x670,h668,u⟩:=bt u
   obtain ⟨q674,c675,h671,h672,h676,h669⟩:=d.elemRK (α:=Channel) 1 rfl 3 rfl h668
   obtain ⟨_,_,_,_,_,rfl,rfl,rfl,rfl,rfl,⟨p677,n678,k679,rfl,h680⟩⟩:=h669
   obtain rfl:=h680.1
   have d:=d.addE (e:=SlA p677 _ k679 x670.Epochs) h680
   obtain ⟨l682,h681,u⟩:=bt u
   refine A7 (fun a w=>∃ Sv685 c683,Sl 157 [(3,pt b10),(4,pt b11),(6,pt b34),(7,iv rv36.1)] a∧Wd ⟨w0,S0,[]⟩ Sv685 [.box b10 (C43 c5 p6 k7) 43,.box b11 a3N 29,.box b34 [sl (ad b638) k25 l682] 29,.row (ad b638) l682.length k25 c683 73 5] [Sq p6 k7 c5.Epoch.Response.Stages,Sq none 0 ([]:List Channel),j5 c683 l682] w) ?_ ?_
   ·refine h_c [0,2,3,4] [] d rfl rfl (by kernel_rfl) rfl fun hC d=>?_
    refine gn 5 [0,1,2,3,4] [0] s hC rfl rfl rfl fun a s=>?_
    refine gv s 5 rfl rfl hC (fun w hC=>U8 runUnderlying71 sizeOf41 rfl (by exact rfl) ⟨_,rfl⟩ h648) fun a s=>?_
    refine gn 3 [7,8,9] [] s hC rfl rfl rfl fun a s=>?_
    refine gv s 10 rfl rfl hC (fun w hC=>U8 runUnderlying71 sizeOf41 rfl ⟨_,rfl⟩ (by exact rfl) h659) fun a s=>?_
    refine ho 6 rfl ?_
    have d:=d.nilRow Epoch 41
    refine a0b (α:=Epoch) s d a5v 0 rfl rfl rfl 0 rfl 3 rfl h652 rfl trivial ?_
    intro p654 k655 c656 a w s d
    refine h_n [1,3,4,5] [] d rfl rfl fun hC=>?_
    refine ho 11 rfl ?_
    refine a0b (α:=Epoch) s d a5v 0 rfl rfl rfl 0 rfl 3 rfl h663 rfl trivial ?_
    intro p665 k666 c667 a w s d
    refine h_n [1,3,4,5] [] d rfl rfl fun hC=>?_
    refine gx s 12 rfl trivial rfl hC runUnderlying27 sizeOf73 rfl rfl h671 h672 fun a s=>?_
    refine gv s 13 rfl rfl hC (fun w hC=>j6 (o':=q674+4) runUnderlying73 rfl sizeOf71 rfl rfl rfl) fun a s=>?_
    refine ho 14 rfl ?_
    obtain ⟨Sv686,d⟩:=D9 (α:=Epoch) d 0 rfl 0 rfl
    refine a5I (α:=Channel) (f:=4) (m:=1) s d 1 rfl 8 rfl h672 rfl rfl sizeOf71 rfl rfl rfl h681 (fun es he=>by rw [h676] at he;subst he;exact ⟨_,_,_,_,_,rfl,rfl,rfl,rfl,rfl,⟨_,_,_,rfl,d.envAt 0 rfl⟩⟩) trivial ?_
    intro c683 a w s d
    have h684:=a0y h681
    try have s:=s.fl 36 rfl h684
    refine h_n [0,2,3,4] [] d rfl rfl fun hC=>?_
    refine y8 (by kernel_rfl) ?_
    have d:=(d.fixB 0 0 rfl rfl h684).addE (e:=SlA (α:=Channel) none 0 0 []) Q9
    exact ⟨Sv686,c683,wj s d [3,2,0,1] [11,0,1]⟩
   rintro a w ⟨Sv685,c683,s,d⟩
   exact tn ⟨l682,c683,(ad b638),k25,Sv685,u,wj s d [0,1,2,3] [0,1,2]⟩
  refine sk ?_
  have d:=d.addE (e:=SlA (α:=Channel) none 0 0 []) Q9
  exact ⟨rv23.Channels,c27,p24,k25,Sv28,u,wj s d [3,2,0,1] [2,0,1]⟩
 rintro a w ⟨x106,c102,p103,k104,Sv105,u,s,d⟩
 refine tn (wp_seq (sz 3 [0] s d rfl rfl fun a s=>?_))
 refine cd s u rfl (fun u=>?_) fun u=>?_
 ·refine wp_seq (sn 3 [2] s d rfl rfl fun a s=>?_)
  obtain ⟨x149,h147,u⟩:=bt u
  obtain ⟨b156,q153,c154,h157,h150,h151,h155,h148⟩:=d.elemRV (α:=Channel) 3 rfl 2 rfl h147
  have hsv158:=s
  have hwv159:=d
  subst h157
  have s:=hsv158
  have d:=hwv159
  obtain ⟨_,_,_,_,_,rfl,rfl,rfl,rfl,rfl,⟨p160,n161,k162,rfl,h163⟩⟩:=h148
  obtain rfl:=h163.1
  have d:=d.addE (e:=SlA p160 _ k162 x149.Epochs) h163
  refine sv s (u6 runUnderlying27 sizeOf73 rfl rfl h150.1 h150.2 h151) rfl fun a s=>?_
  refine sv s (j6 (o':=q153+4) runUnderlying73 rfl sizeOf71 rfl rfl rfl) rfl fun a s=>?_
  refine sv s (Q7 (j:=4) (d.ownAt 3 rfl) rfl isAgg71 h155 rfl) rfl fun a s=>?_
  refine rz0 2 s rfl fun a s=>?_
  refine y7 (fun a w=>∃ (x184:(List Channel)) (p181 k182 Sv183:_),a4M x184=some r∧Sl 157 [(4,pt b11),(6,pt b34)] a∧Wd ⟨w0,S0,[]⟩ Sv183 [.box b11 a3N 29,.box b34 [sl p181 k182 x184] 29] [Sq none 0 ([]:List Channel),Sq p181 k182 x184] w) ?_ ?_
  ·refine cd s u rfl (fun u=>?_) fun u=>?_
   ·obtain ⟨Sv188,d⟩:=D9 (α:=Channel) d 3 rfl 3 rfl
    obtain ⟨l190,h186,u⟩:=bt u
    obtain ⟨h189,h187⟩:=sub_env3 (d.envAt 0 rfl) h186
    have d:=d.addE (e:=Sq (ad b156) l190.length l190) h189
    obtain ⟨l196,h191,u⟩:=bt u
    obtain ⟨p194,k195,h192,h193⟩:=a8K (d.envAt 1 rfl) h191
    have d:=d.addE h192
    obtain ⟨l198,h197,u⟩:=bt u
    refine A7 (fun a w=>∃ Sv201 k200 p199,Sl 157 [(4,pt b11),(6,pt b34)] a∧Wd ⟨w0,S0,[]⟩ Sv201 [.box b11 a3N 29,.box b34 [sl p199 k200 l198] 29] [Sq none 0 ([]:List Channel),Sq p199 k200 l198] w) ?_ ?_
    ·refine h_c [0,1] [] d rfl rfl (by kernel_rfl) rfl fun hC d=>?_
     refine gn 6 [0,2,3,5,7,8] [] s hC rfl rfl rfl fun a s=>?_
     refine a6J (rs:=[1,6]) (by kernel_rfl) rfl ?_
     refine a1u.cons rfl ?_ ?_
     ·refine sv s (V5 (d.ownAt 2 rfl) rfl isAgg27 rfl) rfl fun a s=>?_
      refine h_n [0,1] [] d rfl rfl fun hC=>?_
      refine gv s 4 rfl rfl hC (fun w hC=>b0D runUnderlying27 sizeOf73 rfl (by exact rfl) rfl rfl h187) fun a s=>?_
      refine ho 6 rfl ?_
      refine sv s (V5 (d.ownAt 2 rfl) rfl isAgg27 rfl) rfl fun a s=>?_
      refine h_n [0,1] [] d rfl rfl fun hC=>?_
      refine gv s 9 rfl rfl hC (fun w hC=>U8 runUnderlying27 sizeOf73 rfl ⟨_,rfl⟩ (by exact rfl) h193) fun a s=>?_
      refine ho 10 rfl ?_
      refine b1k (α:=Channel) s d a6D 1 rfl 0 rfl rfl rfl h197 rfl trivial ?_
      intro p199 k200 Sv202 a w s d
      refine h_n [0,1] [] d rfl rfl fun hC=>?_
      refine gv s 11 rfl rfl hC (fun w hC=>j6 (o':=0) runUnderlying29 rfl sizeOf27 rfl rfl rfl) fun a s=>?_
      refine ho 12 rfl ?_
      refine ws [sl p199 k200 l198] s d 2 rfl rfl rfl sizeOf27 fun a w s d=>?_
      refine h_n [0,1] [] d rfl rfl fun hC=>?_
      refine y8 (by kernel_rfl) ?_
      exact ⟨Sv202,k200,p199,wj s d [1,2] [6,0]⟩
     refine a1u.cons rfl ?_ ?_
     ·refine sv s (V5 (d.ownAt 2 rfl) rfl isAgg27 rfl) rfl fun a s=>?_
      refine h_n [0,1] [] d rfl rfl fun hC=>?_
      refine gv s 9 rfl rfl hC (fun w hC=>U8 runUnderlying27 sizeOf73 rfl ⟨_,rfl⟩ (by exact rfl) h193) fun a s=>?_
      refine ho 1 rfl ?_
      refine sv s (V5 (d.ownAt 2 rfl) rfl isAgg27 rfl) rfl fun a s=>?_
      refine h_n [0,1] [] d rfl rfl fun hC=>?_
      refine gv s 4 rfl rfl hC (fun w hC=>b0D runUnderlying27 sizeOf73 rfl (by exact rfl) rfl rfl h187) fun a s=>?_
      refine ho 10 rfl ?_
      refine b1k (α:=Channel) s d a6D 1 rfl 0 rfl rfl rfl h197 rfl trivial ?_
      intro p199 k200 Sv203 a w s d
      refine h_n [0,1] [] d rfl rfl fun hC=>?_
      refine gv s 11 rfl rfl hC (fun w hC=>j6 (o':=0) runUnderlying29 rfl sizeOf27 rfl rfl rfl) fun a s=>?_
      refine ho 12 rfl ?_
      refine ws [sl p199 k200 l198] s d 2 rfl rfl rfl sizeOf27 fun a w s d=>?_
      refine h_n [0,1] [] d rfl rfl fun hC=>?_
      refine y8 (by kernel_rfl) ?_
      exact ⟨Sv203,k200,p199,wj s d [1,2] [6,0]⟩
     exact a1u.nil
    rintro a w ⟨Sv201,k200,p199,s,d⟩
    exact tn ⟨l198,p199,k200,Sv201,u,wj s d [0,1] [0,1]⟩
   refine sk ?_
   obtain ⟨Sv207,d⟩:=D9 (α:=Channel) d 3 rfl 3 rfl
   exact ⟨x106,(ad b156),k104,Sv207,u,wj s d [1,2] [3,0]⟩
  rintro a w ⟨x184,p181,k182,Sv183,u,s,d⟩
  refine tn (sn 1 [1] s d rfl rfl fun a s=>?_)
  refine ws [sl p181 k182 x184] s d 0 rfl rfl rfl sizeOf29 fun a w s d=>?_
  refine rz0 1 s rfl fun a s=>?_
  obtain rfl:=oi u
  exact wp_ret (j3 (a4Q s rfl (M4 d 0 rfl rfl isAgg29 sizeOf29 rfl) (P8 rfl) (d.ret ⟨p181,k182,rfl,(d.envAt 1 rfl)⟩)))
 refine sk (wp_seq (sz0 2 s rfl fun a s=>?_))
 refine y7 (fun a w=>∃ (x336:(List Channel)) (i337:Int) (c332 p333 k334 Sv335:_),a2d c5 x336 i337=some r∧Sl 157 [(3,pt b10),(4,pt b11),(6,pt b34),(7,iv i337)] a∧Wd ⟨w0,S0,[]⟩ Sv335 [.box b10 (C43 c5 p6 k7) 43,.box b11 a3N 29,.box b34 [sl p333 k334 x336] 29,.row p333 x336.length k334 c332 73 5] [Sq p6 k7 c5.Epoch.Response.Stages,Sq none 0 ([]:List Channel),j5 c332 x336] w) ?_ ?_
 ·refine cd s u rfl (fun u=>?_) fun u=>?_
  ·refine sz0 1 s rfl fun a s=>?_
   refine wp_seq ?_
   obtain ⟨e521,h625,u⟩:=bt u
   refine y7 (fun a w=>∃ Sv522,Sl 157 [(3,pt b10),(4,pt b11),(6,pt b34),(7,iv e521)] a∧Wd ⟨w0,S0,[]⟩ Sv522 [.box b10 (C43 c5 p6 k7) 43,.box b11 a3N 29,.box b34 [sl p103 k104 x106] 29,.row p103 x106.length k104 c102 73 5] [Sq p6 k7 c5.Epoch.Response.Stages,Sq none 0 ([]:List Channel),j5 c102 x106] w) ?_ ?_
   ·refine wp_block (u7 (fun sv443 a w=>∃ Sv493,Sl 157 [(3,pt b10),(4,pt b11),(6,pt b34),(7,iv sv443)] a∧Wd ⟨w0,S0,[]⟩ Sv493 [.box b10 (C43 c5 p6 k7) 43,.box b11 a3N 29,.box b34 [sl p103 k104 x106] 29,.row p103 x106.length k104 c102 73 5] [Sq p6 k7 c5.Epoch.Response.Stages,Sq none 0 ([]:List Channel),j5 c102 x106] w) 0 h625 ⟨Sv105,wj s d [0,1,2,3] [0,1,2]⟩ ?_)
    clear h625
    repeat clear u
    rintro sv443 a w tv519 ⟨Sv493,s,d⟩ u hd518
    refine wp_seq (wp_seq ?_)
    obtain ⟨c542,hc542,u⟩:=bt u
    refine A7 (fun a w=>∃ Sv543,Sl 157 [(3,pt b10),(4,pt b11),(6,pt b34),(7,iv sv443),(91,.bool c542)] a∧Wd ⟨w0,S0,[]⟩ Sv543 [.box b10 (C43 c5 p6 k7) 43,.box b11 a3N 29,.box b34 [sl p103 k104 x106] 29,.row p103 x106.length k104 c102 73 5] [Sq p6 k7 c5.Epoch.Response.Stages,Sq none 0 ([]:List Channel),j5 c102 x106] w) ?_ ?_
    ·rcases Bool.eq_false_or_eq_true (decide (sv443<(x106.length:Int))) with h544 | h544
     ·have h545:=A9 hc542 h544
      obtain ⟨x548,h546,h545⟩:=T9 h545
      obtain ⟨b555,q552,c553,h556,h549,h550,h554,h547⟩:=d.elemRV (α:=Channel) 3 rfl 2 rfl h546
      have hsv557:=s
      have hwv558:=d
      subst h556
      have s:=hsv557
      have d:=hwv558
      obtain ⟨_,_,_,_,_,rfl,rfl,rfl,rfl,rfl,⟨p559,n560,k561,rfl,h562⟩⟩:=h547
      obtain rfl:=h562.1
      have d:=d.addE (e:=SlA p559 _ k561 x548.Epochs) h562
      obtain ⟨rv564,h563,h545⟩:=T9 h545
      refine h_c [0,1,2,3] [] d rfl rfl (by kernel_rfl) rfl fun hC d=>?_
      refine gn 6 [0,1,2,3,4,5] [2] s hC rfl rfl rfl fun a s=>?_
      have s:=s.bT 80 rfl h544
      refine gn 3 [6,7,8] [2] s hC rfl rfl rfl fun a s=>?_
      refine gx s 9 rfl ⟨_,rfl,rfl⟩ rfl hC runUnderlying27 sizeOf73 rfl rfl h549 h550 fun a s=>?_
      refine gt s 10 rfl ⟨_,rfl,rfl⟩ rfl hC (fun w hC=>j6 (o':=q552+0) runUnderlying73 rfl sizeOf32 rfl rfl rfl) fun a s=>?_
      refine gt s 11 rfl ⟨_,rfl,rfl⟩ rfl hC (fun w hC=>R9 (j:=0) (hC.ownAt 3 rfl) rfl isAgg32 sizeOf32 h554 rfl rfl) fun a s=>?_
      refine gn 2 [12,13] [0] s hC rfl rfl rfl fun a s=>?_
      refine ho 14 rfl ?_
      refine o7 s (a3R h563 d.bdom) (d9 call63 rfl) ⟨_,rfl,rfl⟩ rfl rfl ?_
      rintro v568 Sv565 w a h566 rfl s
      have d:=d.callB h566
      refine h_n [0,1,2,3] [] d rfl rfl fun hC=>?_
      refine gt s 15 rfl ⟨_,rfl,rfl⟩ rfl hC (fun w hC=>b0C rfl rfl) fun a s=>?_
      refine gT s 16 rfl rfl hC rfl rfl h545 fun a s=>?_
      refine y8 (by kernel_rfl) ?_
      exact ⟨Sv493,wj s d [0,1,2,3] [1,2,3]⟩
     have h571:=C8 hc542 h544
     refine h_c [0,1,2,3] [] d rfl rfl (by kernel_rfl) rfl fun hC d=>?_
     refine gn 6 [0,1,2,3,4,5] [2] s hC rfl rfl rfl fun a s=>?_
     have s:=s.bF 80 rfl h544
     refine gn 10 [6,7,8,9,10,11,12,13,14,15] [] s hC rfl rfl rfl fun a s=>?_
     refine gF s 16 rfl rfl hC rfl rfl h571 fun a s=>?_
     refine y8 (by kernel_rfl) ?_
     exact ⟨Sv493,wj s d [0,1,2,3] [0,1,2]⟩
    rintro a w ⟨Sv543,s,d⟩
    refine tn (cd s u rfl (fun u=>?_) fun u=>?_)
    ·refine sk (wp_block (wp_region_lit (rn0 2 s rfl fun a s=>?_)))
     obtain ⟨i577,h576,u⟩:=bt u
     refine sv s (r9 rfl h576) rfl fun a s=>?_
     refine wpList_nil ?_
     exact l7 (tn ⟨_,io u,Sv543,wj s d [0,1,2,3] [0,1,2]⟩)
    refine wp_exit (j4 (j4 (q9 ?_)))
    obtain rfl:=oi u
    have h578:=hd518 _ rfl
    subst h578
    exact tn ⟨Sv543,wj s d [0,1,2,3] [0,1,2]⟩
   rintro a w ⟨Sv522,s,d⟩
   refine tn (sn 2 [2] s d rfl rfl fun a s=>?_)
   refine sv s (D5 (vs:=[]) b2a rfl rfl) rfl fun a s=>?_
   have d:=d.addE (e:=SlA (α:=Epoch) none 0 0 []) Q9
   refine x9 (α:=Channel) (vs:=[.agg Z2.toArray]) (cs:=Z2) (xs:=([(⟨(⟨ByteArray.empty,ByteArray.empty,ByteArray.empty,ByteArray.empty⟩:SourceID),([]:List Epoch)⟩:Channel)]:List Channel)) s d a6D rfl rfl rfl rfl rfl rfl ⟨⟨_,_,_,_,_,rfl,rfl,rfl,rfl,rfl,⟨_,_,_,rfl,d.envAt 0 rfl⟩⟩,rfl⟩ rfl trivial rfl fun b580 a w s d=>?_
   obtain ⟨l582,h581,u⟩:=bt u
   refine N9 (α:=Channel) s d a6D 4 rfl rfl rfl 4 rfl 0 rfl 0 rfl h581 rfl trivial ?_
   intro p583 k584 c585 a w s d
   refine sv s (j6 (o':=0) runUnderlying29 rfl sizeOf27 rfl rfl rfl) rfl fun a s=>?_
   refine ws [sl p583 k584 l582] s d 3 rfl rfl rfl sizeOf27 fun a w s d=>?_
   refine nl (wp_seq ?_)
   obtain ⟨l590,h586,u⟩:=bt u
   obtain ⟨p588,k589,h587⟩:=Y6 (α:=Channel) d 4 rfl h586
   obtain ⟨l595,h591,u⟩:=bt u
   obtain ⟨p593,k594,h592⟩:=Y6 (α:=Channel) d 4 rfl h591
   obtain ⟨l596,h597,u⟩:=bt u
   refine A7 (fun a w=>∃ Sv600 c598,Sl 157 [(3,pt b10),(4,pt b11),(6,pt b34),(7,iv e521)] a∧Wd ⟨w0,S0,[]⟩ Sv600 [.box b10 (C43 c5 p6 k7) 43,.box b11 a3N 29,.box b34 [sl p583 k584 l596] 29,.row p583 l596.length k584 c598 73 5] [Sq p6 k7 c5.Epoch.Response.Stages,Sq none 0 ([]:List Channel),j5 c598 l596] w) ?_ ?_
   ·refine h_c [0,1,2,3] [] d rfl rfl (by kernel_rfl) rfl fun hC d=>?_
    refine gn 4 [0,1,2,3] [3] s hC rfl rfl rfl fun a s=>?_
    refine gv s 4 rfl rfl hC (fun w hC=>U8 runUnderlying27 sizeOf73 rfl ⟨_,rfl⟩ (by exact rfl) h587) fun a s=>?_
    refine gn 3 [5,6,7] [3] s hC rfl rfl rfl fun a s=>?_
    refine gv s 8 rfl rfl hC (fun w hC=>U8 runUnderlying27 sizeOf73 rfl ⟨_,rfl⟩ (by exact rfl) h592) fun a s=>?_
    refine ho 9 rfl ?_
    obtain ⟨ds_,h603⟩:=src_vw (d.ownAt 4 rfl) (d.envAt 0 rfl) h591 h592
    refine b1W (α:=Channel) s d 4 rfl 0 rfl runUnderlying27 runUnderlying27 sizeOf73 (by decide) h586 h587 rfl rfl rfl h603.1 h603.2.1 h603.2.2 rfl trivial ?_
    intro c598 a w s d
    rw [Option.some.inj h597] at d
    have h599:=(a5x h586 h597)
    try have s:=s.fl 101 rfl h599
    try have s:=s.fl 106 rfl h599
    refine h_n [0,1,2,3] [] d rfl rfl fun hC=>?_
    refine y8 (by kernel_rfl) ?_
    have d:=d.fixB 3 0 rfl rfl h599
    exact ⟨Sv522,c598,wj s d [1,2,3,4] [4,5,0]⟩
   rintro a w ⟨Sv600,c598,s,d⟩
   refine tn (wp_region_lit (rn 5 [2,0] s d rfl rfl fun a s=>?_))
   refine sv s (D5 (vs:=[(0,V32 c5.Source)]) b2a rfl rfl) rfl fun a s=>?_
   obtain ⟨x606,h604,u⟩:=bt u
   obtain ⟨b613,q610,c611,h614,h607,h608,h612,h605⟩:=d.elemRV (α:=Channel) 3 rfl 2 rfl h604
   have hsv615:=s
   have hwv616:=d
   subst h614
   have s:=hsv615
   have d:=hwv616
   obtain ⟨_,_,_,_,_,rfl,rfl,rfl,rfl,rfl,⟨p617,n618,k619,rfl,h620⟩⟩:=h605
   obtain rfl:=h620.1
   have d:=d.addE (e:=SlA p617 _ k619 x606.Epochs) h620
   refine sv s (u6 runUnderlying27 sizeOf73 rfl rfl h607.1 h607.2 h608) rfl fun a s=>?_
   obtain ⟨l622,h621,u⟩:=bt u
   have d:=d.addE (e:=SlA (α:=Epoch) none 0 0 []) Q9
   refine a5H (α:=Channel) s d 3 rfl 4 rfl h608 rfl rfl sizeOf73 rfl h621 ⟨_,_,_,_,_,rfl,rfl,rfl,rfl,rfl,⟨_,_,_,rfl,d.envAt 0 rfl⟩⟩ trivial ?_
   intro c623 a w s d
   have h624:=a0y h621
   try have s:=s.fl 111 rfl h624
   have d:=d.fixB 2 0 rfl rfl h624
   exact nl ⟨l622,e521,c623,(ad b613),k584,Sv600,u,wj s d [0,1,2,3] [3,4,0]⟩
  exact sk ⟨x106,rv36.1,c102,p103,k104,Sv105,u,wj s d [0,1,2,3] [0,1,2]⟩
 rintro a w ⟨x336,i337,c332,p333,k334,Sv335,u,s,d⟩
 refine tn (wp_seq (wp_seq ?_))
 obtain ⟨x340,h338,u⟩:=bt u
 obtain ⟨b347,q344,c345,h348,h341,h342,h346,h339⟩:=d.elemRV (α:=Channel) 3 rfl 2 rfl h338
 have hsv349:=s
 have hwv350:=d
 subst h348
 have s:=hsv349
 have d:=hwv350
 obtain ⟨_,_,_,_,_,rfl,rfl,rfl,rfl,rfl,⟨p351,n352,k353,rfl,h354⟩⟩:=h339
 obtain rfl:=h354.1
 have d:=d.addE (e:=SlA p351 _ k353 x340.Epochs) h354
 obtain ⟨rv356,h355,u⟩:=bt u
 refine A7 (fun a w=>∃ Sv357,Sl 157 [(3,pt b10),(4,pt b11),(6,pt b34),(7,iv i337),(125,.bool rv356)] a∧Wd ⟨w0,S0,[]⟩ Sv357 [.box b10 (C43 c5 p6 k7) 43,.box b11 a3N 29,.box b34 [sl (ad b347) k334 x336] 29,.row (ad b347) x336.length k334 c332 73 5] [Sq p6 k7 c5.Epoch.Response.Stages,Sq none 0 ([]:List Channel),j5 c332 x336] w) ?_ ?_
 ·refine h_c [0,1,2,3] [] d rfl rfl (by kernel_rfl) rfl fun hC d=>?_
  refine gn 3 [0,1,2] [2] s hC rfl rfl rfl fun a s=>?_
  refine gx s 3 rfl trivial rfl hC runUnderlying27 sizeOf73 rfl rfl h341 h342 fun a s=>?_
  refine gv s 4 rfl rfl hC (fun w hC=>j6 (o':=q344+4) runUnderlying73 rfl sizeOf71 rfl rfl rfl) fun a s=>?_
  refine gv s 5 rfl rfl hC (fun w hC=>Q7 (j:=4) (hC.ownAt 3 rfl) rfl isAgg71 h346 rfl) fun a s=>?_
  refine gn 2 [6,7] [0] s hC rfl rfl rfl fun a s=>?_
  refine ho 8 rfl ?_
  refine cV s d (a8A h355 d.bdom (d.bE 0 rfl) (d.bE 1 rfl)) (d9 call75 rfl) rfl fun a w s d=>?_
  refine h_n [0,1,2,3] [] d rfl rfl fun hC=>?_
  refine y8 (by kernel_rfl) ?_
  exact ⟨Sv335,wj s d [0,1,2,3] [1,2,3]⟩
 rintro a w ⟨Sv357,s,d⟩
 refine tn (cd s u rfl (fun u=>?_) fun u=>?_)
 ·refine sr (sv s (D5 (vs:=[]) a8f rfl rfl) rfl fun a s=>?_)
  refine ws a3N s d 1 rfl rfl rfl sizeOf29 fun a w s d=>?_
  refine rz0 1 s rfl fun a s=>?_
  obtain rfl:=oi u
  exact wp_ret (j3 (a4Q s rfl (M4 d 1 rfl rfl isAgg29 sizeOf29 rfl) (P8 rfl) (d.ret ⟨none,0,rfl,(d.envAt 1 rfl)⟩)))
 refine sk (wp_seq ?_)
 obtain ⟨x368,h366,u⟩:=bt u
 obtain ⟨q372,c373,h369,h370,h374,h367⟩:=d.elemRK (α:=Channel) 3 rfl 2 rfl h366
 obtain ⟨_,_,_,_,_,rfl,rfl,rfl,rfl,rfl,⟨p375,n376,k377,rfl,h378⟩⟩:=h367
 obtain rfl:=h378.1
 have d:=d.addE (e:=SlA p375 _ k377 x368.Epochs) h378
 obtain ⟨rv380,h379,u⟩:=bt u
 obtain ⟨x387,h385,u⟩:=bt u
 obtain ⟨q391,c392,h388,h389,h393,h386⟩:=d.elemRK (α:=Channel) 3 rfl 3 rfl h385
 obtain ⟨_,_,_,_,_,rfl,rfl,rfl,rfl,rfl,⟨p394,n395,k396,rfl,h397⟩⟩:=h386
 obtain rfl:=h397.1
 have d:=d.addE (e:=SlA p394 _ k396 x387.Epochs) h397
 obtain ⟨l399,h398,u⟩:=bt u
 refine A7 (fun a w=>∃ Sv402 c400,Sl 157 [(4,pt b11),(6,pt b34),(7,iv i337)] a∧Wd ⟨w0,S0,[]⟩ Sv402 [.box b11 a3N 29,.box b34 [sl (ad b347) k334 l399] 29,.row (ad b347) l399.length k334 c400 73 5] [Sq none 0 ([]:List Channel),j5 c400 l399] w) ?_ ?_
 ·refine h_c [0,1,2] [] d rfl rfl (by kernel_rfl) rfl fun hC d=>?_
  refine gn 6 [0,1,2,3,4,5] [2,2] s hC rfl rfl rfl fun a s=>?_
  refine gx s 6 rfl trivial rfl hC runUnderlying27 sizeOf73 rfl rfl h369 h370 fun a s=>?_
  refine gn 3 [7,9,10] [0] s hC rfl rfl rfl fun a s=>?_
  refine ho 8 rfl ?_
  refine sv s (Q7 (j:=4) (d.ownAt 3 rfl) rfl isAgg71 h374 rfl) rfl fun a s=>?_
  refine h_n [0,1,2] [] d rfl rfl fun hC=>?_
  refine ho 11 rfl ?_
  refine cR s (b1G h379 d.dom (d.envAt 1 rfl) (d.envAt 2 rfl)) (d9 call76 rfl) rfl ?_
  rintro v406 Sv403 w a h404 ⟨p381,k382,c384,rfl,h407,h383⟩ s
  have d:=(d.callN h404 h407).addE (e:=j5 c384 rv380) h383
  refine h_n [1,2,3] [] d rfl rfl fun hC=>?_
  refine gx s 12 rfl trivial rfl hC runUnderlying27 sizeOf73 rfl rfl h388 h389 fun a s=>?_
  refine gv s 13 rfl rfl hC (fun w hC=>j6 (o':=q391+4) runUnderlying73 rfl sizeOf71 rfl rfl rfl) fun a s=>?_
  refine ho 14 rfl ?_
  obtain ⟨Sv409,d⟩:=D9 (α:=Epoch) d 0 rfl 0 rfl
  refine a5I (α:=Channel) (f:=4) (m:=1) s d 3 rfl 6 rfl h389 rfl rfl sizeOf71 rfl rfl rfl h398 (fun es he=>by rw [h393] at he;subst he;exact ⟨_,_,_,_,_,rfl,rfl,rfl,rfl,rfl,⟨_,_,_,rfl,d.envAt 0 rfl⟩⟩) trivial ?_
  intro c400 a w s d
  have h401:=a0y h398
  try have s:=s.fl 128 rfl h401
  try have s:=s.fl 131 rfl h401
  refine h_n [0,1,2] [] d rfl rfl fun hC=>?_
  refine y8 (by kernel_rfl) ?_
  have d:=d.fixB 2 0 rfl rfl h401
  exact ⟨Sv409,c400,wj s d [1,2,3] [6,0]⟩
 rintro a w ⟨Sv402,c400,s,d⟩
 refine tn (wp_seq (sn 5 [1] s d rfl rfl fun a s=>?_))
 obtain ⟨c424,hc424,u⟩:=bt u
 refine o5 9 (fun a w=>∃ Sv425,Sl 157 [(4,pt b11),(6,pt b34),(154,.bool c424)] a∧Wd ⟨w0,S0,[]⟩ Sv425 [.box b11 a3N 29,.box b34 [sl (ad b347) k334 l399] 29,.row (ad b347) l399.length k334 c400 73 5] [Sq none 0 ([]:List Channel),j5 c400 l399] w) ?_ ?_
 ·rcases Bool.eq_false_or_eq_true (decide (128<(l399.length:Int))) with h423 | h423
  ·have s:=s.bT 145 rfl h423
   have u:=A9 hc424 h423
   refine rn0 9 s rfl fun a s=>?_
   refine wpList_nil ?_
   obtain rfl:=oi u
   exact tn ⟨Sv402,wj s d [0,1,2] [0,1]⟩
  have s:=s.bF 145 rfl h423
  have u:=C8 hc424 h423
  refine rn 3 [1] s d rfl rfl fun a s=>?_
  obtain ⟨x428,h426,u⟩:=bt u
  obtain ⟨q432,c433,h429,h430,h434,h427⟩:=d.elemRK (α:=Channel) 2 rfl 1 rfl h426
  obtain ⟨_,_,_,_,_,rfl,rfl,rfl,rfl,rfl,⟨p435,n436,k437,rfl,h438⟩⟩:=h427
  obtain rfl:=h438.1
  have d:=d.addE (e:=SlA p435 _ k437 x428.Epochs) h438
  refine w9 s (u6 runUnderlying27 sizeOf73 rfl rfl h429.1 h429.2 h430) ⟨_,rfl,rfl⟩ rfl rfl fun a s=>?_
  refine w9 s (j6 (o':=q432+4) runUnderlying73 rfl sizeOf71 rfl rfl rfl) ⟨_,rfl,rfl⟩ rfl rfl fun a s=>?_
  refine w9 s (Q7 (j:=4) (d.ownAt 2 rfl) rfl isAgg71 h434 rfl) ⟨_,rfl,rfl⟩ rfl rfl fun a s=>?_
  refine rn0 3 s rfl fun a s=>?_
  refine wpList_nil ?_
  obtain rfl:=oi u
  exact tn ⟨Sv402,wj s d [0,1,2] [1,2]⟩
 rintro a w ⟨Sv425,s,d⟩
 refine nl (cd s u rfl (fun u=>?_) fun u=>?_)
 ·refine sr (sv s (D5 (vs:=[]) a8f rfl rfl) rfl fun a s=>?_)
  refine ws a3N s d 0 rfl rfl rfl sizeOf29 fun a w s d=>?_
  refine rz0 1 s rfl fun a s=>?_
  obtain rfl:=oi u
  exact wp_ret (j3 (a4Q s rfl (M4 d 0 rfl rfl isAgg29 sizeOf29 rfl) (P8 rfl) (d.ret ⟨none,0,rfl,(d.envAt 0 rfl)⟩)))
 refine sk (sn 1 [1] s d rfl rfl fun a s=>?_)
 refine ws [sl (ad b347) k334 l399] s d 0 rfl rfl rfl sizeOf29 fun a w s d=>?_
 refine rz0 1 s rfl fun a s=>?_
 obtain rfl:=oi u
 obtain ⟨Sv441,d⟩:=D9 (α:=Channel) d 2 rfl 1 rfl
 exact wp_ret (a4Q s rfl (M4 d 0 rfl rfl isAgg29 sizeOf29 rfl) (P8 rfl) (d.ret ⟨(ad b347),k334,rfl,(d.envAt 0 rfl)⟩))
abbrev a5Y (w0:World) (X:List Nat) (b2:Nat) (r:(Inventory × Dice)):(Nat→Prop)→World→Value→Prop:=fun S w v=>∃ p0_0 k0_0 pq0_0 kq0_0,v=.agg #[sl p0_0 k0_0 r.1.Channels]∧Outs X w0 S w [.box b2 (C94 r.2 pq0_0 kq0_0) 94]∧(Sq p0_0 k0_0 r.1.Channels).p S w∧(Sq pq0_0 kq0_0 r.2.L).p S w
abbrev a8g:List Value:=[.slice none ([]:List Channel).length 0]
theorem a5X {w0 S0 b2 p3 k4 d1 n6 r} (u:Y0 d1 n6=some r) (hS:Dm S0 w0) (hin:Ins S0 w0 [.box b2 (C94 d1 p3 k4) 94]) (h5:(Sq p3 k4 d1.L).p S0 w0):Calls Tryz.prog 12 #[pt b2,iv n6] w0 (Ret (I1 [.box b2 (C94 d1 p3 k4) 94]) w0 S0 (a5Y w0 (I1 [.box b2 (C94 d1 p3 k4) 94]) b2 r)):=by
 refine enI 29 func12 rfl hS hin rfl rfl rfl fun a s d=>?_
 have d:=d.addE h5
 refine sr (wa a8g s d zeroValue29 fun b7 a w s d=>?_)
 refine nl (sr (wa a8g s d zeroValue29 fun b8 a w s d=>?_))
 refine nl (wp_seq (sn0 3 s rfl fun a s=>?_))
 obtain ⟨rv10,h9,u⟩:=bt u
 refine cR s (o6 h9 d.dom (d.ins [2] (by decide) rfl) (d.envAt 0 rfl)) (d9 call23 rfl) rfl ?_
 rintro v17 Sv14 w a h15 ⟨p11,k12,rfl,h18,h13⟩ s
 have d:=(d.callO [2] [0,1] (by decide) rfl h15 h18).addE (e:=Sq p11 k12 rv10.2.L) h13
 refine rz0 1 s rfl fun a s=>?_
 obtain ⟨e106,h232,u⟩:=bt u
 refine y7 (fun a w=>∃ p107 k108 p109 k110 Sv111,Sl 29 [(4,pt b7),(5,pt b8)] a∧Wd ⟨w0,S0,I1 [.box b2 (C94 d1 p3 k4) 94]⟩ Sv111 [.box b2 [sl p107 k108 e106.1,iv e106.2.1] 94,.box b7 a8g 29,.box b8 [sl p109 k110 e106.2.2] 29] [Sq p107 k108 e106.1,Sq none 0 ([]:List Channel),Sq p109 k110 e106.2.2] w) ?_ ?_
 ·refine wp_block ?_
  have d:=d.addE (e:=SlA (α:=Channel) none 0 0 []) Q9
  refine u7 (fun sv20 a w=>∃ p74 k75 p76 k77 Sv78,Sl 29 [(0,pt b2),(4,pt b7),(5,pt b8),(6,iv sv20.2.2.2)] a∧Wd ⟨w0,S0,I1 [.box b2 (C94 d1 p3 k4) 94]⟩ Sv78 [.box b2 [sl p74 k75 sv20.1,iv sv20.2.1] 94,.box b7 a8g 29,.box b8 [sl p76 k77 sv20.2.2.1] 29] [Sq p74 k75 sv20.1,Sq none 0 ([]:List Channel),Sq p76 k77 sv20.2.2.1] w) (rv10.2.L,rv10.2.At,([]:List Channel),rv10.1) h232 ⟨p11,k12,none,0,Sv14,wj s d [0,2,1] [1,0,0]⟩ ?_
  clear h232
  repeat clear u
  rintro sv20 a w tv104 ⟨p74,k75,p76,k77,Sv78,s,d⟩ u hd103
  refine wp_seq (sz0 2 s rfl fun a s=>?_)
  refine cd s u rfl (fun u=>?_) fun u=>?_
  ·refine sk (wp_seq (wp_block (wp_seq ?_)))
   obtain ⟨rv136,h135,u⟩:=bt u
   obtain ⟨rv145,h144,u⟩:=bt u
   refine A7 (fun a w=>∃ Sv150 b149 k142 k147 p141 p146,Sl 29 [(0,pt b2),(4,pt b7),(5,pt b8),(6,iv sv20.2.2.2),(7,pt b149),(8,iv rv145.2)] a∧Wd ⟨w0,S0,I1 [.box b2 (C94 d1 p3 k4) 94]⟩ Sv150 [.box b2 (C94 rv136.2 p141 k142) 94,.box b7 a8g 29,.box b8 [sl p76 k77 sv20.2.2.1] 29,.box b149 [sl p146 k147 rv145.1.Channels] 29] [Sq p141 k142 rv136.2.L,Sq none 0 ([]:List Channel),Sq p76 k77 sv20.2.2.1,Sq p146 k147 rv145.1.Channels] w) ?_ ?_
   ·refine h_c [1,2] [] d rfl rfl (by kernel_rfl) rfl fun hC d=>?_
    refine gn 3 [0,1,2] [1,1] s hC rfl rfl rfl fun a s=>?_
    refine a6J (rs:=[3,8]) (by kernel_rfl) rfl ?_
    refine a1u.cons rfl ?_ ?_
    ·refine cR s (a0P h135 d.dom (d.ins [0] (by decide) rfl) (d.envAt 0 rfl) (d.envAt 2 rfl)) (d9 call13 rfl) rfl ?_
     rintro v154 Sv151 w a h152 ⟨p137,k138,c140,p141,k142,rfl,h155,h139,h143⟩ s
     have d:=((d.callO [0] [1,2] (by decide) rfl h152 h155).addE (e:=j5 c140 rv136.1.Epoch.Response.Stages) h139).addE (e:=Sq p141 k142 rv136.2.L) h143
     refine h_n [2,3] [] d rfl rfl fun hC=>?_
     refine a6J (rs:=[4,8]) (by kernel_rfl) rfl ?_
     refine a1u.cons rfl ?_ ?_
     ·obtain ⟨Sv157,d⟩:=D9 (α:=Stage) d 0 rfl 1 rfl
      refine cR s (a4O h144 d.dom (d.envAt 5 rfl) (d.envAt 0 rfl)) (d9 call33 rfl) rfl ?_
      rintro v161 Sv158 w a h159 ⟨p146,k147,rfl,h148⟩ s
      have d:=(d.call h159).addE (e:=Sq p146 k147 rv145.1.Channels) h148
      refine h_n [1,2] [] d rfl rfl fun hC=>?_
      refine gn 3 [5,6,7] [] s hC rfl rfl rfl fun a s=>?_
      refine ho 8 rfl ?_
      refine wa a8g s d zeroValue29 fun b149 a w s d=>?_
      refine h_n [2,3] [] d rfl rfl fun hC=>?_
      refine ho 9 rfl ?_
      refine ws [sl p146 k147 rv145.1.Channels] s d 0 rfl rfl rfl sizeOf29 fun a w s d=>?_
      refine h_n [2,3] [] d rfl rfl fun hC=>?_
      refine gv s 10 rfl rfl hC (fun w hC=>Y2 rfl) fun a s=>?_
      refine y8 (by kernel_rfl) ?_
      exact ⟨Sv158,b149,k142,k147,p141,p146,wj s d [1,2,3,0] [2,5,6,0]⟩
     refine a1u.cons rfl ?_ ?_
     ·refine wa a8g s d zeroValue29 fun b149 a w s d=>?_
      refine h_n [3,4] [] d rfl rfl fun hC=>?_
      refine ho 4 rfl ?_
      obtain ⟨Sv164,d⟩:=D9 (α:=Stage) d 1 rfl 1 rfl
      refine cR s (a4O h144 d.dom (d.envAt 5 rfl) (d.envAt 0 rfl)) (d9 call33 rfl) rfl ?_
      rintro v168 Sv165 w a h166 ⟨p146,k147,rfl,h148⟩ s
      have d:=(d.call h166).addE (e:=Sq p146 k147 rv145.1.Channels) h148
      refine h_n [2,3] [] d rfl rfl fun hC=>?_
      refine gn 3 [5,6,7] [] s hC rfl rfl rfl fun a s=>?_
      refine ho 9 rfl ?_
      refine ws [sl p146 k147 rv145.1.Channels] s d 0 rfl rfl rfl sizeOf29 fun a w s d=>?_
      refine h_n [2,3] [] d rfl rfl fun hC=>?_
      refine gv s 10 rfl rfl hC (fun w hC=>Y2 rfl) fun a s=>?_
      refine y8 (by kernel_rfl) ?_
      exact ⟨Sv165,b149,k142,k147,p141,p146,wj s d [1,2,3,0] [2,5,6,0]⟩
     exact a1u.nil
    refine a1u.cons rfl ?_ ?_
    ·refine wa a8g s d zeroValue29 fun b149 a w s d=>?_
     refine h_n [2,3] [] d rfl rfl fun hC=>?_
     refine ho 3 rfl ?_
     refine cR s (a0P h135 d.dom (d.ins [1] (by decide) rfl) (d.envAt 0 rfl) (d.envAt 2 rfl)) (d9 call13 rfl) rfl ?_
     rintro v174 Sv171 w a h172 ⟨p137,k138,c140,p141,k142,rfl,h175,h139,h143⟩ s
     have d:=((d.callO [1] [0,2,3] (by decide) rfl h172 h175).addE (e:=j5 c140 rv136.1.Epoch.Response.Stages) h139).addE (e:=Sq p141 k142 rv136.2.L) h143
     refine h_n [3,4] [] d rfl rfl fun hC=>?_
     refine ho 4 rfl ?_
     obtain ⟨Sv177,d⟩:=D9 (α:=Stage) d 0 rfl 1 rfl
     refine cR s (a4O h144 d.dom (d.envAt 5 rfl) (d.envAt 0 rfl)) (d9 call33 rfl) rfl ?_
     rintro v181 Sv178 w a h179 ⟨p146,k147,rfl,h148⟩ s
     have d:=(d.call h179).addE (e:=Sq p146 k147 rv145.1.Channels) h148
     refine h_n [2,3] [] d rfl rfl fun hC=>?_
     refine gn 3 [5,6,7] [] s hC rfl rfl rfl fun a s=>?_
     refine ho 9 rfl ?_
     refine ws [sl p146 k147 rv145.1.Channels] s d 1 rfl rfl rfl sizeOf29 fun a w s d=>?_
     refine h_n [2,3] [] d rfl rfl fun hC=>?_
     refine gv s 10 rfl rfl hC (fun w hC=>Y2 rfl) fun a s=>?_
     refine y8 (by kernel_rfl) ?_
     exact ⟨Sv178,b149,k142,k147,p141,p146,wj s d [0,2,3,1] [2,5,6,0]⟩
    exact a1u.nil
   rintro a w ⟨Sv150,b149,k142,k147,p141,p146,s,d⟩
   refine tn (sz0 2 s rfl fun a s=>?_)
   refine y7 (fun a w=>∃ (x227:(List Channel)) (p224 k225 Sv226:_),Y5 sv20 rv136 x227=some tv104∧Sl 29 [(0,pt b2),(4,pt b7),(5,pt b8),(6,iv sv20.2.2.2)] a∧Wd ⟨w0,S0,I1 [.box b2 (C94 d1 p3 k4) 94]⟩ Sv226 [.box b2 (C94 rv136.2 p141 k142) 94,.box b7 a8g 29,.box b8 [sl p224 k225 x227] 29] [Sq p141 k142 rv136.2.L,Sq none 0 ([]:List Channel),Sq p224 k225 x227] w) ?_ ?_
   ·refine cd s u rfl (fun u=>?_) fun u=>?_
    ·refine wp_region_lit (sv s (a1a (d.ownAt 3 rfl) rfl isAgg29 sizeOf29 rfl rfl) rfl fun a s=>?_)
     refine ws [sl p146 k147 rv145.1.Channels] s d 2 rfl rfl rfl sizeOf29 fun a w s d=>?_
     exact nl ⟨rv145.1.Channels,p146,k147,Sv150,u,wj s d [0,1,2] [0,1,3]⟩
    exact sk ⟨sv20.2.2.1,p76,k77,Sv150,u,wj s d [0,1,2] [0,1,2]⟩
   rintro a w ⟨x227,p224,k225,Sv226,u,s,d⟩
   refine l7 (tn (wp_region_lit (rn0 2 s rfl fun a s=>?_)))
   obtain ⟨i229,h228,u⟩:=bt u
   refine sv s (r9 rfl h228) rfl fun a s=>?_
   exact nl ⟨_,io u,p141,k142,p224,k225,Sv226,wj s d [0,1,2] [0,1,2]⟩
  refine wp_exit (j4 (j4 (q9 ?_)))
  obtain rfl:=oi u
  have h231:=hd103 _ rfl
  subst h231
  exact tn ⟨p74,k75,p76,k77,Sv78,wj s d [0,1,2] [0,1,2]⟩
 rintro a w ⟨p107,k108,p109,k110,Sv111,s,d⟩
 refine tn (sn 1 [2] s d rfl rfl fun a s=>?_)
 refine ws [sl p109 k110 e106.2.2] s d 1 rfl rfl rfl sizeOf29 fun a w s d=>?_
 refine nl ?_
 obtain rfl:=oi u
 exact wp_ret (a6A s rfl (M4 d 1 rfl rfl isAgg29 sizeOf29 rfl) (d.ret ⟨p109,k110,p107,k108,rfl,(d.outs [0] (by decide) rfl),(d.envAt 2 rfl),(d.envAt 0 rfl)⟩))
theorem b0P {w0 S0 p2 k3 p6 k7 a1 b5 r} (u:a6e a1 b5=some r) (hS:Dm S0 w0) (h4:(Sq p2 k3 a1.Channels).p S0 w0) (h8:(Sq p6 k7 b5.Channels).p S0 w0):Ck Tryz.prog 19 #[.agg #[sl p2 k3 a1.Channels],.agg #[sl p6 k7 b5.Channels]] w0 S0 [] l5 r:=by
 refine en 66 func19 rfl hS rfl rfl rfl fun a s d=>?_
 have d:=(d.addE h4).addE h8
 refine sr (wb [sl p2 k3 a1.Channels] s d rfl fun b9 a w s d=>?_)
 refine wb [sl p6 k7 b5.Channels] s d rfl fun b10 a w s d=>?_
 refine rz0 1 s rfl fun a s=>?_
 refine wp_seq (sz 7 [1,0] s d rfl rfl fun a s=>?_)
 refine cd s u rfl (fun u=>?_) fun u=>?_
 ·refine sz0 1 s rfl fun a s=>?_
  obtain rfl:=oi u
  exact wp_ret (j3 (rt s rfl (d.ret rfl)))
 refine sk (wp_seq (sz0 1 s rfl fun a s=>?_))
 refine wp_block (u7 (fun sv528 a w=>∃ Sv870,Sl 66 [(2,pt b9),(3,pt b10),(5,iv sv528)] a∧Wd ⟨w0,S0,[]⟩ Sv870 [.box b9 [sl p2 k3 a1.Channels] 29,.box b10 [sl p6 k7 b5.Channels] 29] [Sq p2 k3 a1.Channels,Sq p6 k7 b5.Channels] w) 0 u ⟨S0,wj s d [1,0] [1,0]⟩ ?_)
 repeat clear u
 rintro sv528 a w tv1042 ⟨Sv870,s,d⟩ u hd1041
 refine wp_seq (sz 5 [0] s d rfl rfl fun a s=>?_)
 refine cd s u rfl (fun u=>?_) fun u=>?_
 ·refine sk (wp_seq (wp_block (wp_seq ?_)))
  obtain ⟨x1216,h1214,u⟩:=bt u
  obtain ⟨b1222,o1223,q1220,c1221,h1224,h1217,h1218,h1219,h1215⟩:=d.elemV 0 rfl h1214
  have hsv1225:=s
  have hwv1226:=d
  subst h1224
  have s:=hsv1225
  have d:=hwv1226
  obtain ⟨_,_,_,_,_,rfl,rfl,rfl,rfl,rfl,⟨p1227,n1228,k1229,rfl,h1230⟩⟩:=h1215
  obtain rfl:=h1230.1
  have d:=(d.addE (e:=SlA p1227 _ k1229 x1216.Epochs) h1230).addE h1219
  obtain ⟨x1233,h1231,u⟩:=bt u
  obtain ⟨b1239,o1240,q1237,c1238,h1241,h1234,h1235,h1236,h1232⟩:=d.elemV 3 rfl h1231
  have hsv1242:=s
  have hwv1243:=d
  subst h1241
  have s:=hsv1242
  have d:=hwv1243
  obtain ⟨_,_,_,_,_,rfl,rfl,rfl,rfl,rfl,⟨p1244,n1245,k1246,rfl,h1247⟩⟩:=h1232
  obtain rfl:=h1247.1
  have d:=(d.addE (e:=SlA p1244 _ k1246 x1233.Epochs) h1247).addE h1236
  refine A7 (fun a w=>∃ Sv1250 b1248 b1249,Sl 66 [(2,pt b9),(3,pt b10),(5,iv sv528),(6,pt b1248),(7,pt b1249)] a∧Wd ⟨w0,S0,[]⟩ Sv1250 [.box b9 [sl (some ⟨b1222,o1223,none⟩) k3 a1.Channels] 29,.box b10 [sl (some ⟨b1239,o1240,none⟩) k7 b5.Channels] 29,.box b1248 (C73 x1216 p1227 k1229) 73,.box b1249 (C73 x1233 p1244 k1246) 73] [Sq (some ⟨b1222,o1223,none⟩) k3 a1.Channels,Sq (some ⟨b1239,o1240,none⟩) k7 b5.Channels,Sq p1227 k1229 x1216.Epochs,Sq p1244 k1246 x1233.Epochs] w) ?_ ?_
  ·refine h_c [0,1] [0,2] d rfl rfl (by kernel_rfl) rfl fun hC d=>?_
   refine gn 3 [0,1,2] [0] s hC rfl rfl rfl fun a s=>?_
   refine gx s 3 rfl trivial rfl hC runUnderlying27 sizeOf73 rfl rfl h1217 h1218 fun a s=>?_
   refine gv s 4 rfl rfl hC (fun w hC=>F4 (j:=0) (hC.ceAt 1 rfl) rfl isAgg73 sizeOf73 rfl rfl) fun a s=>?_
   refine gn 3 [5,6,7] [1] s hC rfl rfl rfl fun a s=>?_
   refine gx s 8 rfl trivial rfl hC runUnderlying27 sizeOf73 rfl rfl h1234 h1235 fun a s=>?_
   refine gv s 9 rfl rfl hC (fun w hC=>F4 (j:=0) (hC.ceAt 0 rfl) rfl isAgg73 sizeOf73 rfl rfl) fun a s=>?_
   refine a6J (rs:=[10,11]) (by kernel_rfl) rfl ?_
   refine a1u.cons rfl ?_ ?_
   ·refine wa Z2 s d zeroValue73 fun b1248 a w s d=>?_
    refine h_n [1,2] [0,2] d rfl rfl fun hC=>?_
    refine ho 11 rfl ?_
    refine wa Z2 s d zeroValue73 fun b1249 a w s d=>?_
    refine h_n [2,3] [0,2] d rfl rfl fun hC=>?_
    refine ho 12 rfl ?_
    refine ws (C73 x1216 p1227 k1229) s d 1 rfl rfl rfl sizeOf73 fun a w s d=>?_
    refine h_n [2,3] [0,2] d rfl rfl fun hC=>?_
    refine ho 13 rfl ?_
    refine ws (C73 x1233 p1244 k1246) s d 0 rfl rfl rfl sizeOf73 fun a w s d=>?_
    refine h_n [2,3] [0,2] d rfl rfl fun hC=>?_
    refine y8 (by kernel_rfl) ?_
    exact ⟨Sv870,b1248,b1249,wj s d [2,3,1,0] [4,5,3,1]⟩
   refine a1u.cons rfl ?_ ?_
   ·refine wa Z2 s d zeroValue73 fun b1249 a w s d=>?_
    refine h_n [1,2] [0,2] d rfl rfl fun hC=>?_
    refine ho 10 rfl ?_
    refine wa Z2 s d zeroValue73 fun b1248 a w s d=>?_
    refine h_n [2,3] [0,2] d rfl rfl fun hC=>?_
    refine ho 12 rfl ?_
    refine ws (C73 x1216 p1227 k1229) s d 0 rfl rfl rfl sizeOf73 fun a w s d=>?_
    refine h_n [2,3] [0,2] d rfl rfl fun hC=>?_
    refine ho 13 rfl ?_
    refine ws (C73 x1233 p1244 k1246) s d 1 rfl rfl rfl sizeOf73 fun a w s d=>?_
    refine h_n [2,3] [0,2] d rfl rfl fun hC=>?_
    refine y8 (by kernel_rfl) ?_
    exact ⟨Sv870,b1248,b1249,wj s d [2,3,0,1] [4,5,3,1]⟩
   exact a1u.nil
  rintro a w ⟨Sv1250,b1248,b1249,s,d⟩
  refine tn (wp_seq (sn 4 [2,3] s d rfl rfl fun a s=>?_))
  refine sv s (a9n (by kernel_rfl) rfl rfl (O8 runUnderlying32 (by kernel_rfl) (EqF.cons1 rfl isAgg9 rfl rfl (I9 runUnderlying9) (EqF.cons1 rfl isAgg9 rfl rfl (I9 runUnderlying9) (EqF.cons1 rfl isAgg9 rfl rfl (I9 runUnderlying9) (EqF.cons1 rfl isAgg9 rfl rfl (I9 runUnderlying9) EqF.nil)))))) rfl fun a s=>?_
  refine mv s rfl rfl fun a s=>?_
  refine rO 8 38 [2,3] s d rfl rfl rfl rfl rfl fun a s=>?_
  refine nl (cd s u rfl (fun u=>?_) fun u=>?_)
  ·refine sz0 1 s rfl fun a s=>?_
   obtain rfl:=oi u
   have h1254:=hd1041 _ rfl
   subst h1254
   exact wp_ret (j3 (o9 (j3 (j3 (o9 (j3 (rt s rfl (d.ret rfl))))))))
  refine sk (sz0 1 s rfl fun a s=>?_)
  refine wp_block (u7 (fun sv1383 a w=>∃ Sv1467,Sl 66 [(2,pt b9),(3,pt b10),(5,iv sv528),(6,pt b1248),(7,pt b1249),(8,iv sv1383)] a∧Wd ⟨w0,S0,[]⟩ Sv1467 [.box b9 [sl (some ⟨b1222,o1223,none⟩) k3 a1.Channels] 29,.box b10 [sl (some ⟨b1239,o1240,none⟩) k7 b5.Channels] 29,.box b1248 (C73 x1216 p1227 k1229) 73,.box b1249 (C73 x1233 p1244 k1246) 73] [Sq (some ⟨b1222,o1223,none⟩) k3 a1.Channels,Sq (some ⟨b1239,o1240,none⟩) k7 b5.Channels,Sq p1227 k1229 x1216.Epochs,Sq p1244 k1246 x1233.Epochs] w) 0 u ⟨Sv1250,wj s d [0,1,2,3] [0,1,2,3]⟩ ?_)
  repeat clear u
  rintro sv1383 a w tv1510 ⟨Sv1467,s,d⟩ u hd1509
  refine wp_seq (sz 5 [2] s d rfl rfl fun a s=>?_)
  refine cd s u rfl (fun u=>?_) fun u=>?_
  ·refine sk (wp_seq (wp_block (wp_seq ?_)))
   obtain ⟨x1555,h1553,u⟩:=bt u
   obtain ⟨b1561,o1562,q1559,c1560,h1563,h1556,h1557,h1558,h1554⟩:=d.elemV 2 rfl h1553
   have hsv1564:=s
   have hwv1565:=d
   subst h1563
   have s:=hsv1564
   have d:=hwv1565
   obtain ⟨_,_,_,_,_,_,_,_,rfl,rfl,rfl,rfl,rfl,rfl,rfl,rfl,⟨p1566,n1567,k1568,rfl,h1569⟩⟩:=h1554
   obtain rfl:=h1569.1
   have d:=(d.addE (e:=SlA p1566 _ k1568 x1555.Response.Stages) h1569).addE h1558
   obtain ⟨x1572,h1570,u⟩:=bt u
   obtain ⟨b1578,o1579,q1576,c1577,h1580,h1573,h1574,h1575,h1571⟩:=d.elemV 5 rfl h1570
   have hsv1581:=s
   have hwv1582:=d
   subst h1580
   have s:=hsv1581
   have d:=hwv1582
   obtain ⟨_,_,_,_,_,_,_,_,rfl,rfl,rfl,rfl,rfl,rfl,rfl,rfl,⟨p1583,n1584,k1585,rfl,h1586⟩⟩:=h1571
   obtain rfl:=h1586.1
   have d:=(d.addE (e:=SlA p1583 _ k1585 x1572.Response.Stages) h1586).addE h1575
   obtain ⟨rv1588,h1587,u⟩:=bt u
   refine A7 (fun a w=>∃ Sv1589,Sl 66 [(2,pt b9),(3,pt b10),(5,iv sv528),(6,pt b1248),(7,pt b1249),(8,iv sv1383),(65,.bool (!rv1588))] a∧Wd ⟨w0,S0,[]⟩ Sv1589 [.box b9 [sl (some ⟨b1222,o1223,none⟩) k3 a1.Channels] 29,.box b10 [sl (some ⟨b1239,o1240,none⟩) k7 b5.Channels] 29,.box b1248 (C73 x1216 (some ⟨b1561,o1562,none⟩) k1229) 73,.box b1249 (C73 x1233 (some ⟨b1578,o1579,none⟩) k1246) 73] [Sq (some ⟨b1222,o1223,none⟩) k3 a1.Channels,Sq (some ⟨b1239,o1240,none⟩) k7 b5.Channels,Sq (some ⟨b1561,o1562,none⟩) k1229 x1216.Epochs,Sq (some ⟨b1578,o1579,none⟩) k1246 x1233.Epochs] w) ?_ ?_
   ·refine h_c [0,1,2,3] [0,2] d rfl rfl (by kernel_rfl) rfl fun hC d=>?_
    refine gn 3 [0,1,2] [2] s hC rfl rfl rfl fun a s=>?_
    refine gx s 3 rfl trivial rfl hC runUnderlying71 sizeOf41 rfl rfl h1556 h1557 fun a s=>?_
    refine gv s 4 rfl rfl hC (fun w hC=>F4 (j:=0) (hC.ceAt 1 rfl) rfl isAgg41 sizeOf41 rfl rfl) fun a s=>?_
    refine gn 3 [5,6,7] [3] s hC rfl rfl rfl fun a s=>?_
    refine gx s 8 rfl trivial rfl hC runUnderlying71 sizeOf41 rfl rfl h1573 h1574 fun a s=>?_
    refine gv s 9 rfl rfl hC (fun w hC=>F4 (j:=0) (hC.ceAt 0 rfl) rfl isAgg41 sizeOf41 rfl rfl) fun a s=>?_
    refine ho 10 rfl ?_
    refine cV s d (a4L h1587 d.bdom (d.bE 3 rfl) (d.bE 1 rfl)) (d9 call26 rfl) rfl fun a w s d=>?_
    refine h_n [0,1,2,3] [0,2] d rfl rfl fun hC=>?_
    refine gv s 11 rfl rfl hC (fun w hC=>a9w rfl) fun a s=>?_
    refine y8 (by kernel_rfl) ?_
    exact ⟨Sv1467,wj s d [0,1,2,3] [4,5,6,7]⟩
   rintro a w ⟨Sv1589,s,d⟩
   refine tn (cd s u rfl (fun u=>?_) fun u=>?_)
   ·refine sz0 1 s rfl fun a s=>?_
    obtain rfl:=oi u
    have h1598:=hd1509 _ rfl
    subst h1598
    have h1599:=hd1041 _ rfl
    subst h1599
    exact wp_ret (o9 (j3 (j3 (o9 (o9 (j3 (j3 (o9 (j3 (rt s rfl (d.ret rfl)))))))))))
   refine wp_skip (l7 (tn (wp_region_lit (rn0 2 s rfl fun a s=>?_))))
   obtain ⟨k1601,h1600,u⟩:=bt u
   refine sv s (r9 rfl h1600) rfl fun a s=>?_
   exact nl ⟨_,io u,Sv1589,wj s d [0,1,2,3] [0,1,2,3]⟩
  obtain ⟨rv1604,u,h1605⟩:=a0l u
  have h1605:=(hd1509 _ h1605.symm).symm
  subst h1605
  refine wp_exit (j4 (j4 (q9 (l7 (tn (wp_region_lit (rn0 2 s rfl fun a s=>?_)))))))
  obtain ⟨i1603,h1602,u⟩:=bt u
  refine sv s (r9 rfl h1602) rfl fun a s=>?_
  exact nl ⟨_,io u,Sv1467,wj s d [0,1] [0,1]⟩
 obtain ⟨rv1606,u,h1607⟩:=a0l u
 have h1607:=(hd1041 _ h1607.symm).symm
 subst h1607
 refine wp_exit (j4 (j4 (q9 (tn (sz0 1 s rfl fun a s=>?_)))))
 obtain rfl:=oi u
 exact q1 s rfl (d.ret rfl)
theorem a0D {w0 S0 p2 k3 g6 f7 cp8 s1} {f5:Affected→Option Bool} {r} (u:M3 s1 f5=some r) (hS:Dm S0 w0) (h4:(Sq p2 k3 s1).p S0 w0) (h9:(a4v Tryz.prog g6 f7 cp8 f5).p S0 w0):Ck Tryz.prog 114 #[sl p2 k3 s1,.func (.func g6) f7.toArray cp8.toArray] w0 S0 [] I5 r:=by
 refine en 19 func114 rfl hS rfl rfl rfl fun a s d=>?_
 have d:=(d.addE h4).addE h9
 refine sz0 1 s rfl fun a s=>?_
 refine wp_seq (sz0 3 s rfl fun a s=>?_)
 refine wp_block (u7 (fun sv90 a w=>∃ Sv142,Sl 19 [(0,sl p2 k3 s1),(1,.func (.func g6) f7.toArray cp8.toArray),(7,iv (s1.length:Int)),(8,iv sv90)] a∧Wd ⟨w0,S0,[]⟩ Sv142 [] [Sq p2 k3 s1,a4v Tryz.prog g6 f7 cp8 f5] w) 0 u ⟨S0,wj s d [] [1,0]⟩ ?_)
 repeat clear u
 rintro sv90 a w tv169 ⟨Sv142,s,d⟩ u hd168
 refine sz0 1 s rfl fun a s=>?_
 refine wp_seq (cd s u rfl (fun u=>?_) fun u=>?_)
 ·refine sk (wp_seq (wp_block (sz0 2 s rfl fun a s=>?_)))
  refine sn0 3 s rfl fun a s=>?_
  obtain ⟨x200,h198,u⟩:=bt u
  obtain ⟨b206,o207,q204,c205,h208,h201,h202,h203,h199⟩:=d.elemV 0 rfl h198
  have hsv209:=s
  have hwv210:=d
  subst h208
  have s:=hsv209
  have d:=hwv210
  obtain ⟨_,_,_,_,_,rfl,rfl,rfl,rfl,rfl,⟨p211,n212,k213,rfl,h214⟩⟩:=h199
  obtain rfl:=h214.1
  have d:=(d.addE (e:=SlA p211 _ k213 x200.Spans) h214).addE h203
  refine sv s (u6 runUnderlying48 sizeOf56 rfl rfl h201.1 h201.2 h202) rfl fun a s=>?_
  refine sv s (F4 (j:=0) (d.ceAt 0 rfl) rfl isAgg56 sizeOf56 rfl rfl) rfl fun a s=>?_
  obtain ⟨rv216,h215,u⟩:=bt u
  refine o7 s ((d.bE 3 rfl).2 a1S.rfl' d.bdom ⟨_,_,_,_,_,rfl,rfl,rfl,rfl,rfl,⟨_,_,_,rfl,d.bE 1 rfl⟩⟩ h215) (a3l (d.bE 3 rfl).1 rfl rfl) trivial rfl rfl ?_
  rintro v220 Sv217 w a h218 rfl s
  have d:=d.callB h218
  refine nl (cd s u rfl (fun u=>?_) fun u=>?_)
  ·refine sz0 2 s rfl fun a s=>?_
   obtain rfl:=oi u
   have h223:=hd168 _ rfl
   subst h223
   exact wp_ret (o9 (j3 (j3 (o9 (j3 (rt s rfl (d.ret rfl)))))))
  refine wp_skip (l7 (tn (wp_region_lit (rz0 2 s rfl fun a s=>?_))))
  exact ⟨_,io u,Sv142,wj s d [] [2,3]⟩
 obtain ⟨rv224,u,h225⟩:=a0l u
 have h225:=(hd168 _ h225.symm).symm
 subst h225
 refine wp_exit (j4 (j4 (q9 (tn (sz0 1 s rfl fun a s=>?_)))))
 obtain rfl:=oi u
 exact q1 s rfl (d.ret rfl)
theorem a0k {w0 S0 p2 k3 g6 f7 cp8 s1} {f5:Affected→Option Bool} {r} (u:K3 s1 f5=some r) (hS:Dm S0 w0) (h4:(Sq p2 k3 s1).p S0 w0) (h9:(a4v Tryz.prog g6 f7 cp8 f5).p S0 w0):Ck Tryz.prog 66 #[sl p2 k3 s1,.func (.func g6) f7.toArray cp8.toArray] w0 S0 [] l5 r:=by
 refine en 9 func66 rfl hS rfl rfl rfl fun a s d=>?_
 have d:=(d.addE h4).addE h9
 refine sz0 1 s rfl fun a s=>?_
 refine sn0 2 s rfl fun a s=>?_
 obtain ⟨rv11,h10,u⟩:=bt u
 refine cV s d (a0D h10 d.bdom (d.bE 1 rfl) (d.bE 0 rfl)) (d9 call114 rfl) rfl fun a w s d=>?_
 refine rz0 2 s rfl fun a s=>?_
 obtain rfl:=oi u
 exact q1 s rfl (d.ret rfl)
theorem b1R {w0 S0 p2 k3 p6 k7 a1 b5 r} (u:a9l a1 b5=some r) (hS:Dm S0 w0) (h4:(Sq p2 k3 a1).p S0 w0) (h8:(Sq p6 k7 b5).p S0 w0):Ck Tryz.prog 115 #[sl p2 k3 a1,sl p6 k7 b5] w0 S0 [] C9 r:=by
 refine en 68 func115 rfl hS rfl rfl rfl fun a s d=>?_
 have d:=(d.addE h4).addE h8
 refine sz0 1 s rfl fun a s=>?_
 refine sn0 1 s rfl fun a s=>?_
 obtain ⟨rv10,h9,u⟩:=bt u
 refine cR s (a3K h9 d.dom (d.envAt 1 rfl)) (d9 call137 rfl) rfl ?_
 rintro v18 Sv15 w a h16 ⟨p11,k12,c14,rfl,h19,h13⟩ s
 have d:=(d.callN h16 h19).addE (e:=j5 c14 rv10) h13
 refine mv s rfl rfl fun a s=>?_
 obtain ⟨rv22,h21,u⟩:=bt u
 refine cR s (a3K h21 d.dom (d.envAt 1 rfl)) (d9 call137 rfl) rfl ?_
 rintro v30 Sv27 w a h28 ⟨p23,k24,c26,rfl,h31,h25⟩ s
 have d:=(d.callN h28 h31).addE (e:=j5 c26 rv22) h25
 refine rz0 2 s rfl fun a s=>?_
 refine sz0 1 s rfl fun a s=>?_
 refine wp_seq (sz0 2 s rfl fun a s=>?_)
 obtain ⟨e333,h543,u⟩:=bt u
 refine y7 (fun a w=>∃ c334 p335 k336 Sv337,Sl 68 [(5,sl p335 k336 e333)] a∧Wd ⟨w0,S0,[]⟩ Sv337 [.row p335 e333.length k336 c334 52 2] [j5 c334 e333] w) ?_ ?_
 ·refine wp_block ?_
  have d:=d.nilRow Span 52
  refine u7 (fun sv33 a w=>∃ c230 p231 k232 Sv233,Sl 68 [(0,sl p11 k12 rv10),(1,sl p23 k24 rv22),(5,sl p231 k232 sv33.1),(6,iv sv33.2.1),(7,iv sv33.2.2)] a∧Wd ⟨w0,S0,[]⟩ Sv233 [.row p11 rv10.length k12 c14 52 2,.row p23 rv22.length k24 c26 52 2,.row p231 sv33.1.length k232 c230 52 2] [j5 c14 rv10,j5 c26 rv22,j5 c230 sv33.1] w) (([]:List Span),0,0) h543 ⟨[],none,0,Sv27,wj s d [2,1,0] [2,1,0]⟩ ?_
  clear h543
  repeat clear u
  rintro sv33 a w tv331 ⟨c230,p231,k232,Sv233,s,d⟩ u hd330
  refine wp_seq (sn0 5 s rfl fun a s=>?_)
  refine rA 5 17 [] s d rfl rfl rfl rfl rfl fun a s=>?_
  refine nl (cd s u rfl (fun u=>?_) fun u=>?_)
  ·refine sk (wp_block (wp_seq (wp_seq ?_)))
   obtain ⟨x437,h435,u⟩:=bt u
   obtain ⟨b444,q441,c442,h445,h438,h439,h443,h436⟩:=d.elemRV (α:=Span) 0 rfl 0 rfl h435
   have hsv446:=s
   have hwv447:=d
   subst h445
   have s:=hsv446
   have d:=hwv447
   obtain ⟨_,_,rfl,rfl,rfl⟩:=h436
   obtain ⟨x450,h448,u⟩:=bt u
   obtain ⟨b457,q454,c455,h458,h451,h452,h456,h449⟩:=d.elemRV (α:=Span) 1 rfl 1 rfl h448
   have hsv459:=s
   have hwv460:=d
   subst h458
   have s:=hsv459
   have d:=hwv460
   obtain ⟨_,_,rfl,rfl,rfl⟩:=h449
   obtain ⟨x463,h461,u⟩:=bt u
   obtain ⟨q467,c468,h464,h465,h469,h462⟩:=d.elemRK (α:=Span) 0 rfl 0 rfl h461
   obtain ⟨_,_,rfl,rfl,rfl⟩:=h462
   obtain ⟨x472,h470,u⟩:=bt u
   obtain ⟨q476,c477,h473,h474,h478,h471⟩:=d.elemRK (α:=Span) 1 rfl 1 rfl h470
   obtain ⟨_,_,rfl,rfl,rfl⟩:=h471
   refine A7 (fun a w=>∃ Sv480 b479,Sl 68 [(0,sl (ad b444) k12 rv10),(1,sl (ad b457) k24 rv22),(5,sl p231 k232 sv33.1),(6,iv sv33.2.1),(7,iv sv33.2.2),(8,pt b479)] a∧Wd ⟨w0,S0,[]⟩ Sv480 [.box b479 [iv (max x437.From x450.From),iv (min x463.To x472.To)] 52,.row (ad b444) rv10.length k12 c14 52 2,.row (ad b457) rv22.length k24 c26 52 2,.row p231 sv33.1.length k232 c230 52 2] [j5 c14 rv10,j5 c26 rv22,j5 c230 sv33.1] w) ?_ ?_
   ·refine h_c [0,1,2] [] d rfl rfl (by kernel_rfl) rfl fun hC d=>?_
    refine gn 2 [0,1] [] s hC rfl rfl rfl fun a s=>?_
    refine gx s 2 rfl trivial rfl hC runUnderlying50 sizeOf52 rfl rfl h438 h439 fun a s=>?_
    refine gv s 3 rfl rfl hC (fun w hC=>j6 (o':=q441+0) runUnderlying52 rfl sizeOf3 rfl rfl rfl) fun a s=>?_
    refine gv s 4 rfl rfl hC (fun w hC=>Q7 (j:=0) (hC.ownAt 0 rfl) rfl isAgg3 h443 rfl) fun a s=>?_
    refine gn 2 [5,6] [] s hC rfl rfl rfl fun a s=>?_
    refine gx s 7 rfl trivial rfl hC runUnderlying50 sizeOf52 rfl rfl h451 h452 fun a s=>?_
    refine gv s 8 rfl rfl hC (fun w hC=>j6 (o':=q454+0) runUnderlying52 rfl sizeOf3 rfl rfl rfl) fun a s=>?_
    refine gv s 9 rfl rfl hC (fun w hC=>Q7 (j:=0) (hC.ownAt 1 rfl) rfl isAgg3 h456 rfl) fun a s=>?_
    refine gn 3 [10,11,12] [] s hC rfl rfl rfl fun a s=>?_
    refine gx s 13 rfl trivial rfl hC runUnderlying50 sizeOf52 rfl rfl h464 h465 fun a s=>?_
    refine gv s 14 rfl rfl hC (fun w hC=>j6 (o':=q467+1) runUnderlying52 rfl sizeOf3 rfl rfl rfl) fun a s=>?_
    refine gv s 15 rfl rfl hC (fun w hC=>Q7 (j:=1) (hC.ownAt 0 rfl) rfl isAgg3 h469 rfl) fun a s=>?_
    refine gn 2 [16,17] [] s hC rfl rfl rfl fun a s=>?_
    refine gx s 18 rfl trivial rfl hC runUnderlying50 sizeOf52 rfl rfl h473 h474 fun a s=>?_
    refine gv s 19 rfl rfl hC (fun w hC=>j6 (o':=q476+1) runUnderlying52 rfl sizeOf3 rfl rfl rfl) fun a s=>?_
    refine gv s 20 rfl rfl hC (fun w hC=>Q7 (j:=1) (hC.ownAt 1 rfl) rfl isAgg3 h478 rfl) fun a s=>?_
    refine gv s 21 rfl rfl hC (fun w hC=>y_min rfl rfl) fun a s=>?_
    refine gv s 22 rfl rfl hC (fun w hC=>D5 (vs:=[(0,iv (max x437.From x450.From)),(1,iv (min x463.To x472.To))]) a9L rfl rfl) fun a s=>?_
    refine ho 23 rfl ?_
    refine wa [iv 0,iv 0] s d zeroValue52 fun b479 a w s d=>?_
    refine h_n [1,2,3] [] d rfl rfl fun hC=>?_
    refine ho 24 rfl ?_
    refine ws [iv (max x437.From x450.From),iv (min x463.To x472.To)] s d 0 rfl rfl rfl sizeOf52 fun a w s d=>?_
    refine h_n [1,2,3] [] d rfl rfl fun hC=>?_
    refine y8 (by kernel_rfl) ?_
    exact ⟨Sv233,b479,wj s d [0,1,2,3] [0,1,2]⟩
   rintro a w ⟨Sv480,b479,s,d⟩
   refine tn (sn 1 [0] s d rfl rfl fun a s=>?_)
   obtain ⟨rv482,h481,u⟩:=bt u
   refine cV s d (a8J h481 d.bdom) (d9 call140 rfl) rfl fun a w s d=>?_
   refine nl (y7 (fun a w=>∃ (out501:(List Span)) (c497 p498 k499 Sv500:_),a0z rv10 rv22 sv33 out501=some tv331∧Sl 68 [(0,sl (ad b444) k12 rv10),(1,sl (ad b457) k24 rv22),(5,sl p498 k499 out501),(6,iv sv33.2.1),(7,iv sv33.2.2)] a∧Wd ⟨w0,S0,[]⟩ Sv500 [.row (ad b444) rv10.length k12 c14 52 2,.row (ad b457) rv22.length k24 c26 52 2,.row p498 out501.length k499 c497 52 2] [j5 c14 rv10,j5 c26 rv22,j5 c497 out501] w) ?_ ?_)
   ·refine cd s u rfl (fun u=>?_) fun u=>?_
    ·refine wp_region_lit (rn 2 [0] s d rfl rfl fun a s=>?_)
     refine x9 (α:=Span) (vs:=[.agg #[iv (max x437.From x450.From),iv (min x463.To x472.To)]]) (cs:=[iv (max x437.From x450.From),iv (min x463.To x472.To)]) (xs:=([(⟨(max x437.From x450.From),(min x463.To x472.To)⟩:Span)]:List Span)) s d a6E rfl rfl rfl rfl rfl rfl ⟨⟨_,_,rfl,rfl,rfl⟩,rfl⟩ rfl trivial rfl fun b536 a w s d=>?_
     obtain ⟨l538,h537,u⟩:=bt u
     refine N9 (α:=Span) s d a6E 4 rfl rfl rfl 3 rfl 0 rfl 0 rfl h537 rfl trivial ?_
     intro p539 k540 c541 a w s d
     refine rz0 1 s rfl fun a s=>?_
     exact ⟨l538,c541,p539,k540,Sv480,u,wj s d [2,3,4] [2,3,0]⟩
    exact sk ⟨sv33.1,c230,p231,k232,Sv480,u,wj s d [1,2,3] [0,1,2]⟩
   rintro a w ⟨out501,c497,p498,k499,Sv500,u,s,d⟩
   refine tn (wp_seq ?_)
   obtain ⟨x504,h502,u⟩:=bt u
   obtain ⟨q508,c509,h505,h506,h510,h503⟩:=d.elemRK (α:=Span) 0 rfl 0 rfl h502
   obtain ⟨_,_,rfl,rfl,rfl⟩:=h503
   obtain ⟨x513,h511,u⟩:=bt u
   obtain ⟨q517,c518,h514,h515,h519,h512⟩:=d.elemRK (α:=Span) 1 rfl 1 rfl h511
   obtain ⟨_,_,rfl,rfl,rfl⟩:=h512
   refine A7 (fun a w=>∃ Sv520,Sl 68 [(0,sl (ad b444) k12 rv10),(1,sl (ad b457) k24 rv22),(5,sl p498 k499 out501),(6,iv sv33.2.1),(7,iv sv33.2.2),(62,.bool (decide (x504.To<x513.To)))] a∧Wd ⟨w0,S0,[]⟩ Sv520 [.row (ad b444) rv10.length k12 c14 52 2,.row (ad b457) rv22.length k24 c26 52 2,.row p498 out501.length k499 c497 52 2] [j5 c14 rv10,j5 c26 rv22,j5 c497 out501] w) ?_ ?_
   ·refine h_c [0,1,2] [] d rfl rfl (by kernel_rfl) rfl fun hC d=>?_
    refine gn 2 [0,1] [] s hC rfl rfl rfl fun a s=>?_
    refine gx s 2 rfl trivial rfl hC runUnderlying50 sizeOf52 rfl rfl h505 h506 fun a s=>?_
    refine gv s 3 rfl rfl hC (fun w hC=>j6 (o':=q508+1) runUnderlying52 rfl sizeOf3 rfl rfl rfl) fun a s=>?_
    refine gv s 4 rfl rfl hC (fun w hC=>Q7 (j:=1) (hC.ownAt 0 rfl) rfl isAgg3 h510 rfl) fun a s=>?_
    refine gn 2 [5,6] [] s hC rfl rfl rfl fun a s=>?_
    refine gx s 7 rfl trivial rfl hC runUnderlying50 sizeOf52 rfl rfl h514 h515 fun a s=>?_
    refine gv s 8 rfl rfl hC (fun w hC=>j6 (o':=q517+1) runUnderlying52 rfl sizeOf3 rfl rfl rfl) fun a s=>?_
    refine gv s 9 rfl rfl hC (fun w hC=>Q7 (j:=1) (hC.ownAt 1 rfl) rfl isAgg3 h519 rfl) fun a s=>?_
    refine gv s 10 rfl rfl hC (fun w hC=>b0C rfl rfl) fun a s=>?_
    refine y8 (by kernel_rfl) ?_
    exact ⟨Sv500,wj s d [0,1,2] [0,1,2]⟩
   rintro a w ⟨Sv520,s,d⟩
   refine tn (y7 (fun a w=>∃ (i527:Int) (k528:Int) (Sv526:_),a4t out501 i527 k528=some tv331∧Sl 68 [(0,sl (ad b444) k12 rv10),(1,sl (ad b457) k24 rv22),(5,sl p498 k499 out501),(6,iv i527),(7,iv k528)] a∧Wd ⟨w0,S0,[]⟩ Sv526 [.row (ad b444) rv10.length k12 c14 52 2,.row (ad b457) rv22.length k24 c26 52 2,.row p498 out501.length k499 c497 52 2] [j5 c14 rv10,j5 c26 rv22,j5 c497 out501] w) ?_ ?_)
   ·refine cd s u rfl (fun u=>?_) fun u=>?_
    ·refine wp_region_lit (rn0 2 s rfl fun a s=>?_)
     obtain ⟨i531,h530,u⟩:=bt u
     refine sv s (r9 rfl h530) rfl fun a s=>?_
     exact nl ⟨i531,sv33.2.2,Sv520,u,wj s d [0,1,2] [0,1,2]⟩
    refine wp_region_lit (rn0 2 s rfl fun a s=>?_)
    obtain ⟨k533,h532,u⟩:=bt u
    refine sv s (r9 rfl h532) rfl fun a s=>?_
    exact nl ⟨sv33.2.1,k533,Sv520,u,wj s d [0,1,2] [0,1,2]⟩
   rintro a w ⟨i527,k528,Sv526,u,s,d⟩
   exact l7 (tn ⟨_,io u,c497,p498,k499,Sv526,wj s d [0,1,2] [0,1,2]⟩)
  refine wp_exit (j4 (j4 (q9 ?_)))
  obtain rfl:=oi u
  have h542:=hd330 _ rfl
  subst h542
  exact tn ⟨c230,p231,k232,Sv233,wj s d [2] [2]⟩
 rintro a w ⟨c334,p335,k336,Sv337,s,d⟩
 refine tn (sz0 2 s rfl fun a s=>?_)
 obtain rfl:=oi u
 exact q1 s rfl (d.ret ⟨p335,k336,c334,rfl,(d.outs [0] (by decide) rfl),(d.envAt 0 rfl)⟩)
theorem b2K {w0 S0 p2 k3 l1 from5 to6 r} (u:a8I l1 from5 to6=some r) (hS:Dm S0 w0) (h4:(Sq p2 k3 l1).p S0 w0):Ck Tryz.prog 68 #[sl p2 k3 l1,iv from5,iv to6] w0 S0 [] C9 r:=by
 refine en 13 func68 rfl hS rfl rfl rfl fun a s d=>?_
 have d:=d.addE h4
 refine sz0 1 s rfl fun a s=>?_
 refine sn0 3 s rfl fun a s=>?_
 refine sv s (D5 (vs:=[(0,iv from5),(1,iv to6)]) a9L rfl rfl) rfl fun a s=>?_
 refine x9 (α:=Span) (vs:=[.agg #[iv from5,iv to6]]) (cs:=[iv from5,iv to6]) (xs:=([(⟨from5,to6⟩:Span)]:List Span)) s d a6E rfl rfl rfl rfl rfl rfl ⟨⟨_,_,rfl,rfl,rfl⟩,rfl⟩ rfl trivial rfl fun b8 a w s d=>?_
 obtain ⟨rv10,h9,u⟩:=bt u
 obtain ⟨Sv15,d⟩:=D9 (α:=Span) d 0 rfl 0 rfl
 refine cR s (b1R h9 d.dom (d.envAt 2 rfl) (d.envAt 0 rfl)) (d9 call115 rfl) rfl ?_
 rintro v19 Sv16 w a h17 ⟨p11,k12,c14,rfl,h20,h13⟩ s
 have d:=(d.callN h17 h20).addE (e:=j5 c14 rv10) h13
 refine rz0 1 s rfl fun a s=>?_
 obtain rfl:=oi u
 exact q1 s rfl (d.ret ⟨p11,k12,c14,rfl,(d.outs [0] (by decide) rfl),(d.envAt 0 rfl)⟩)
theorem a5B {w0 S0 p2 k3 b6 b9 b12 x1 x5 x8 x11 r} (u:Q6 x1 x5 x8 x11=some r) (hS:Dm S0 w0) (h4:(Sq p2 k3 x1.Spans).p S0 w0) (h7:(CeA b6 0 (C32 x5)).p S0 w0) (h10:(CeA b9 0 [iv x8]).p S0 w0) (h13:(CeA b12 0 [iv x11]).p S0 w0):Ck Tryz.prog 67 #[V56 x1 p2 k3,pt b6,pt b9,pt b12] w0 S0 [] l5 r:=by
 refine en 19 func67 rfl hS rfl rfl rfl fun a s d=>?_
 have d:=((d.addE h4).addE h7).addE h10
 have d:=d.addE h13
 refine sr (wb (C56 x1 p2 k3) s d rfl fun b14 a w s d=>?_)
 refine rz0 1 s rfl fun a s=>?_
 refine sn 2 [0] s d rfl rfl fun a s=>?_
 refine sv s (F4 (j:=0) (d.ceAt 2 rfl) rfl isAgg32 sizeOf32 rfl rfl) rfl fun a s=>?_
 refine sv s (a0Z (by kernel_rfl) rfl rfl (O8 runUnderlying32 (by kernel_rfl) (EqF.cons1 rfl isAgg9 rfl rfl (I9 runUnderlying9) (EqF.cons1 rfl isAgg9 rfl rfl (I9 runUnderlying9) (EqF.cons1 rfl isAgg9 rfl rfl (I9 runUnderlying9) (EqF.cons1 rfl isAgg9 rfl rfl (I9 runUnderlying9) EqF.nil)))))) rfl fun a s=>?_
 refine mv s rfl rfl fun a s=>?_
 obtain ⟨c28,hc28,u⟩:=bt u
 refine o5 8 (fun a w=>∃ Sv29,Sl 19 [(18,.bool c28)] a∧Wd ⟨w0,S0,[]⟩ Sv29 [] [] w) ?_ ?_
 ·rcases Bool.eq_false_or_eq_true ((x1.Source.Network == x5.Network) && ((x1.Source.Station == x5.Station) && ((x1.Source.Location == x5.Location) && ((x1.Source.Channel == x5.Channel) && true)))) with h27 | h27
  ·have s:=s.bT 10 rfl h27
   have u:=A9 hc28 h27
   refine rn 2 [0] s d rfl rfl fun a s=>?_
   refine w9 s (G6 (j:=0) (d.ceAt 1 rfl) rfl isAgg3 rfl) ⟨_,rfl,rfl⟩ rfl rfl fun a s=>?_
   refine w9 s (G6 (j:=0) (d.ceAt 0 rfl) rfl isAgg3 rfl) ⟨_,rfl,rfl⟩ rfl rfl fun a s=>?_
   obtain ⟨rv31,h30,u⟩:=bt u
   refine o7 s (b2K h30 d.dom (d.envAt 3 rfl)) (d9 call68 rfl) ⟨_,rfl,rfl⟩ rfl rfl ?_
   rintro v39 Sv36 w a h37 ⟨p32,k33,c35,rfl,h40,h34⟩ s
   have d:=(d.callN h37 h40).addE (e:=j5 c35 rv31) h34
   refine rn0 3 s rfl fun a s=>?_
   refine wpList_nil ?_
   obtain rfl:=oi u
   exact tn ⟨Sv36,wj s d [] []⟩
  have s:=s.bF 10 rfl h27
  have u:=C8 hc28 h27
  refine rn0 8 s rfl fun a s=>?_
  refine wpList_nil ?_
  obtain rfl:=oi u
  exact tn ⟨S0,wj s d [] []⟩
 rintro a w ⟨Sv29,s,d⟩
 refine rz0 1 s rfl fun a s=>?_
 obtain rfl:=oi u
 exact q1 s rfl (d.ret rfl)
theorem a5A {S0 w0 b6 b9 b12 x5 x8 x11} (h7:(CeA b6 0 (C32 x5)).p S0 w0) (h10:(CeA b9 0 [iv x8]).p S0 w0) (h13:(CeA b12 0 [iv x11]).p S0 w0):(a4v Tryz.prog 67 [] [pt b6,pt b9,pt b12] (fun y0=>Q6 y0 x5 x8 x11)).p S0 w0:=by
  refine ⟨call67,?_⟩
  rintro S1 w1 hk hS c0 x0 r1 ⟨_,_,_,_,_,rfl,rfl,rfl,rfl,rfl,⟨_,_,_,rfl,e0⟩⟩ hf
  obtain rfl:=e0.1
  exact a5B hf hS e0 (Asrt.mono _ hk h7) (Asrt.mono _ hk h10) (Asrt.mono _ hk h13)
theorem Y1 {w0 S0 p2 k3 l1 s5 from6 to7 r} (u:a0a l1 s5 from6 to7=some r) (hS:Dm S0 w0) (h4:(Sq p2 k3 l1).p S0 w0):Ck Tryz.prog 20 #[sl p2 k3 l1,V32 s5,iv from6,iv to7] w0 S0 [] l5 r:=by
 refine en 12 func20 rfl hS rfl rfl rfl fun a s d=>?_
 have d:=d.addE h4
 refine sr (wb (C32 s5) s d rfl fun b8 a w s d=>?_)
 refine wb [iv from6] s d rfl fun b9 a w s d=>?_
 refine wb [iv to7] s d rfl fun b10 a w s d=>?_
 refine rz0 1 s rfl fun a s=>?_
 refine sn0 1 s rfl fun a s=>?_
 refine sv s (a8e (vs:=#[]) (us:=#[pt b8,pt b9,pt b10]) rfl rfl) rfl fun a s=>?_
 obtain ⟨rv12,h11,u⟩:=bt u
 refine cV s d (a0k h11 d.bdom (d.bE 0 rfl) (a5A (d.bBox 2 rfl) (d.bBox 1 rfl) (d.bBox 0 rfl))) (d9 call66 rfl) rfl fun a w s d=>?_
 refine rz0 1 s rfl fun a s=>?_
 obtain rfl:=oi u
 exact q1 s rfl (d.ret rfl)
abbrev D4t1 (b33:Nat) (b57:Nat):A8:=[(3,pt b33),(4,pt b57)]
abbrev D4t2 (b33:Nat) (b76:Nat) (b77:Nat) (k46:Nat) (k61:Nat) (k70:Nat) (p45:Option Addr) (p60:Option Addr) (p69:Option Addr) (rv44:(Inventory × Dice)) (rv59:(Change × Dice)) (rv68:(Change × Dice)):Vs:=[(0,30,pt b33),(1,31,.agg #[sl p45 k46 rv44.1.Channels]),(2,32,V43 rv59.1 p60 k61),(3,33,pt b33),(4,34,.agg #[sl p45 k46 rv44.1.Channels]),(5,35,V43 rv68.1 p69 k70),(6,5,pt b76),(7,6,pt b77)]
abbrev E4_2:List Value:=[.slice none ([]:List Channel).length 0]
abbrev a5M (rv59:(Change × Dice)) (rv68:(Change × Dice)):List SourceID:=([rv59.1.Source,rv68.1.Source]:List SourceID)
abbrev E4_0 (rv59:(Change × Dice)) (rv68:(Change × Dice)):List Value:=[.string rv59.1.Source.Network,.string rv59.1.Source.Station,.string rv59.1.Source.Location,.string rv59.1.Source.Channel,.string rv68.1.Source.Network,.string rv68.1.Source.Station,.string rv68.1.Source.Location,.string rv68.1.Source.Channel]
theorem a5V {w0 S0 p2 k3 t1 r} (u:a2z t1=some r) (hS:Dm S0 w0) (h4:(Sq p2 k3 t1).p S0 w0):Ck Tryz.prog 4 #[sl p2 k3 t1] w0 S0 [] l5 r:=by
 refine en 144 func4 rfl hS rfl rfl rfl fun a s d=>?_
 have d:=d.addE h4
 refine sz0 1 s rfl fun a s=>?_
 refine wp_seq (sn0 1 s rfl fun a s=>?_)
 obtain ⟨rv6,h5,u⟩:=bt u
 refine cV s d (b0H h5 d.bdom (d.bE 0 rfl)) (d9 call9 rfl) rfl fun a w s d=>?_
 refine rz0 1 s rfl fun a s=>?_
 refine cd s u rfl (fun u=>?_) fun u=>?_
 ·refine sr ?_
  obtain ⟨rv24,h23,u⟩:=bt u
  refine cV s d (a3U h23 d.bdom) (d9 call10 rfl) rfl fun a w s d=>?_
  refine rz0 1 s rfl fun a s=>?_
  obtain rfl:=oi u
  exact wp_ret (j3 (rt s rfl (d.ret rfl)))
 refine sk (sn0 1 s rfl fun a s=>?_)
 obtain ⟨rv32,h31,u⟩:=bt u
 refine cR s (b1A h31 d.dom (d.envAt 0 rfl)) (d9 call11 rfl) rfl ?_
 rintro v40 Sv37 w a h38 ⟨b33,p34,k35,rfl,h41,h36⟩ s
 have d:=(d.callN h38 h41).addE (e:=Sq p34 k35 rv32.L) h36
 refine rz0 1 s rfl fun a s=>?_
 refine sn0 1 s rfl fun a s=>?_
 obtain ⟨rv44,h43,u⟩:=bt u
 refine cR s (a5X h43 d.dom (d.ins [0] (by decide) rfl) (d.envAt 0 rfl)) (d9 call12 rfl) rfl ?_
 rintro v54 Sv51 w a h52 ⟨p45,k46,p48,k49,rfl,h55,h47,h50⟩ s
 have d:=((d.callO [0] [] (by decide) rfl h52 h55).addE (e:=Sq p45 k46 rv44.1.Channels) h47).addE (e:=Sq p48 k49 rv44.2.L) h50
 refine wa E4_2 s d zeroValue29 fun b57 a w s d=>?_
 refine ws [sl p45 k46 rv44.1.Channels] s d 0 rfl rfl rfl sizeOf29 fun a w s d=>?_
 refine nl (wp_seq ?_)
 obtain ⟨rv59,h58,u⟩:=bt u
 obtain ⟨rv68,h67,u⟩:=bt u
 refine A7 (fun a w=>∃ Sv78 b76 b77 c63 c72 k61 k70 p60 p69,Sl 144 [(4,pt b57),(5,pt b76),(6,pt b77)] a∧Wd ⟨w0,S0,[]⟩ Sv78 [.box b57 [sl p45 k46 rv44.1.Channels] 29,.box b76 (C43 rv59.1 p60 k61) 43,.box b77 (C43 rv68.1 p69 k70) 43,.row p60 rv59.1.Epoch.Response.Stages.length k61 c63 138 10,.row p69 rv68.1.Epoch.Response.Stages.length k70 c72 138 10] [Sq p45 k46 rv44.1.Channels,j5 c63 rv59.1.Epoch.Response.Stages,j5 c72 rv68.1.Epoch.Response.Stages] w) ?_ ?_
 ·refine a5u (n:=10) (Φ:=fun l a w=>∃ b76 b77 c63 c72 k61 k65 k70 k74 p60 p64 p69 p73 S,SlF 144 (D4t1 b33 b57) (D4t2 b33 b76 b77 k46 k61 k70 p45 p60 p69 rv44 rv59 rv68) l a∧Wd ⟨w0,S0,[]⟩ S [.box b57 [sl p45 k46 rv44.1.Channels] 29,((bif l 5 then .box b33 (C94 rv68.2 p73 k74) 94 else (bif l 2 then .box b33 (C94 rv59.2 p64 k65) 94 else .box b33 (C94 rv44.2 p48 k49) 94)):Res),((bif l 2 then .row p60 rv59.1.Epoch.Response.Stages.length k61 c63 138 10 else emp):Res),((bif l 5 then .row p69 rv68.1.Epoch.Response.Stages.length k70 c72 138 10 else emp):Res),((bif l 8 then .box b76 (C43 rv59.1 p60 k61) 43 else (bif l 6 then .box b76 Z18 43 else emp)):Res),((bif l 9 then .box b77 (C43 rv68.1 p69 k70) 43 else (bif l 7 then .box b77 Z18 43 else emp)):Res)] [Sq p48 k49 rv44.2.L,Sq p45 k46 rv44.1.Channels,Sq p34 k35 rv32.L,Sq p2 k3 t1,a4k (l 2) (j5 c63 rv59.1.Epoch.Response.Stages),a4k (l 2) (Sq p64 k65 rv59.2.L),a4k (l 5) (j5 c72 rv68.1.Epoch.Response.Stages),a4k (l 5) (Sq p73 k74 rv68.2.L)] w) [1,1,2,1,1,3,1,1,4,5] (by kernel_rfl) rfl (by kernel_rfl) ?_ (R4.succ (R4.succ (R4.succ (R4.succ (R4.succ (R4.succ (R4.succ (R4.succ (R4.succ (R4.succ R4.zero ?_) ?_) ?_) ?_) ?_) ?_) ?_) ?_) ?_) ?_) ?_
  ·obtain ⟨b76,b77,c63,c72,k61,k65,k70,k74,p60,p64,p69,p73,_⟩:∃ (b76:Nat) (b77:Nat) (c63:List Value) (c72:List Value) (k61:Nat) (k65:Nat) (k70:Nat) (k74:Nat) (p60:Option Addr) (p64:Option Addr) (p69:Option Addr) (p73:Option Addr),True:=⟨0,0,[],[],0,0,0,0,none,none,none,none,trivial⟩
   have d:=((d.drew).emp).emp
   have d:=((d.emp).emp).noE (Sq p73 k74 rv68.2.L)
   have d:=((d.noE (j5 c72 rv68.1.Epoch.Response.Stages)).noE (Sq p64 k65 rv59.2.L)).noE (j5 c63 rv59.1.Epoch.Response.Stages)
   exact ⟨b76,b77,c63,c72,k61,k65,k70,k74,p60,p64,p69,p73,Sv51,SlF.init (s.wk rfl) (by kernel_rfl),d.gt [4,5,0,1,2,3] [4,5,6,7,0,1,2,3] rfl rfl⟩
  ·intro l hi hp hc a w ⟨b76,b77,c63,c72,k61,k65,k70,k74,p60,p64,p69,p73,S,hS,d⟩
   refine a0p hS (.b (t:=3) rfl .nil) rfl rfl trivial (U7 rfl) (rfl) 0 rfl fun a hS=>⟨b76,b77,c63,c72,k61,k65,k70,k74,p60,p64,p69,p73,S,hS,d⟩
  ·intro l hi hp hc a w ⟨b76,b77,c63,c72,k61,k65,k70,k74,p60,p64,p69,p73,S,hS,d⟩
   refine a0p hS (.b (t:=4) rfl .nil) rfl rfl trivial (a1a (d.ownAt 0 rfl) rfl isAgg29 sizeOf29 rfl rfl) (rfl) 1 rfl fun a hS=>⟨b76,b77,c63,c72,k61,k65,k70,k74,p60,p64,p69,p73,S,hS,d⟩
  ·intro l hi hp hc a w ⟨b76,b77,c63,c72,k61,k65,k70,k74,p60,p64,p69,p73,S,hS,d⟩
   have h_5:=a1M hc 5 hi rfl
   have d:=d.fixR 1 (r':=.box b33 (C94 rv44.2 p48 k49) 94) rfl ((bF h_5).trans ((bF hi)))
   have h_1:=hp 1 rfl
   have h_0:=hp 0 rfl
   refine a1X rfl ?_
   have s:=hS.open_ (.v (t:=30) 0 rfl h_0 (.v (t:=31) 1 rfl h_1 .nil))
   refine cR s (a0P h58 d.dom (d.ins [1] (by decide) rfl) (d.envAt 0 rfl) (d.envAt 1 rfl)) (d9 call13 rfl) rfl ?_
   rintro v196 Sv193 w a h194 ⟨p60,k61,c63,p64,k65,rfl,h197,h62,h66⟩ s
   have d:=((d.callO [1] [0,2,3,4,5] (by decide) rfl h194 h197).addE (e:=j5 c63 rv59.1.Epoch.Response.Stages) h62).addE (e:=Sq p64 k65 rv59.2.L) h66
   have d:=d.fixR 1 (r':=(bif l 5 then .box b33 (C94 rv68.2 p73 k74) 94 else .box b33 (C94 rv59.2 p64 k65) 94)) rfl ((bF h_5)).symm
   have h_8:=a1M hc 8 hi rfl
   have d:=((d.fixR 5 (r':=(bif l 6 then .box b76 Z18 43 else emp)) rfl ((bF h_8))).fixR 5 (r':=(bif l 8 then .box b76 (C43 rv59.1 p60 k61) 43 else (bif l 6 then .box b76 Z18 43 else emp))) rfl ((bF h_8)).symm).opt 1 rfl true
   have d:=d.opt 1 rfl true
   exact nl ⟨b76,b77,c63,c72,k61,k65,k70,k74,p60,p64,p69,p73,Sv193,hS.close (.v (t:=30) 0 rfl h_0 (.v (t:=31) 1 rfl h_1 .nil)) s rfl (.same (.same (.here (.same (.same (.same (.same (.same .nil)))))))) 2 rfl,d.gt [2,1,0,4,5,6] [4,5,6,7,1,0,10,11] rfl rfl⟩
  ·intro l hi hp hc a w ⟨b76,b77,c63,c72,k61,k65,k70,k74,p60,p64,p69,p73,S,hS,d⟩
   refine a0p hS (.b (t:=3) rfl .nil) rfl rfl trivial (U7 rfl) (rfl) 3 rfl fun a hS=>⟨b76,b77,c63,c72,k61,k65,k70,k74,p60,p64,p69,p73,S,hS,d⟩
  ·intro l hi hp hc a w ⟨b76,b77,c63,c72,k61,k65,k70,k74,p60,p64,p69,p73,S,hS,d⟩
   refine a0p hS (.b (t:=4) rfl .nil) rfl rfl trivial (a1a (d.ownAt 0 rfl) rfl isAgg29 sizeOf29 rfl rfl) (rfl) 4 rfl fun a hS=>⟨b76,b77,c63,c72,k61,k65,k70,k74,p60,p64,p69,p73,S,hS,d⟩
  ·intro l hi hp hc a w ⟨b76,b77,c63,c72,k61,k65,k70,k74,p60,p64,p69,p73,S,hS,d⟩
   have h_2:=hp 2 rfl
   have d:=(d.fixR 1 (r':=.box b33 (C94 rv59.2 p64 k65) 94) rfl ((bF hi).trans ((bT h_2)))).yes 5 rfl h_2
   have h_4:=hp 4 rfl
   have h_3:=hp 3 rfl
   refine a1X rfl ?_
   have s:=hS.open_ (.v (t:=33) 3 rfl h_3 (.v (t:=34) 4 rfl h_4 .nil))
   refine cR s (a0P h67 d.dom (d.ins [1] (by decide) rfl) (d.envAt 0 rfl) (d.envAt 2 rfl)) (d9 call13 rfl) rfl ?_
   rintro v208 Sv205 w a h206 ⟨p69,k70,c72,p73,k74,rfl,h209,h71,h75⟩ s
   have d:=((d.callO [1] [0,2,3,4,5] (by decide) rfl h206 h209).addE (e:=j5 c72 rv68.1.Epoch.Response.Stages) h71).addE (e:=Sq p73 k74 rv68.2.L) h75
   have h_9:=a1M hc 9 hi rfl
   have d:=((d.fixR 6 (r':=(bif l 7 then .box b77 Z18 43 else emp)) rfl ((bF h_9))).fixR 6 (r':=(bif l 9 then .box b77 (C43 rv68.1 p69 k70) 43 else (bif l 7 then .box b77 Z18 43 else emp))) rfl ((bF h_9)).symm).opt 1 rfl true
   have d:=d.opt 1 rfl true
   exact nl ⟨b76,b77,c63,c72,k61,k65,k70,k74,p60,p64,p69,p73,Sv205,hS.close (.v (t:=33) 3 rfl h_3 (.v (t:=34) 4 rfl h_4 .nil)) s rfl (.same (.same (.same (.same (.same (.here (.same (.same .nil)))))))) 5 rfl,d.gt [2,1,3,0,5,6] [5,6,7,8,9,10,1,0] rfl rfl⟩
  ·intro l hi hp hc a w ⟨b76,b77,c63,c72,k61,k65,k70,k74,p60,p64,p69,p73,S,hS,d⟩
   refine a1X rfl ?_
   have s:=hS.open_ .nil
   refine wa Z18 s d zeroValue43 fun b76 a w s d=>?_
   have h_8:=a1M hc 8 hi rfl
   have d:=d.fixR 0 (r':=(bif l 8 then .box b76 (C43 rv59.1 p60 k61) 43 else .box b76 Z18 43)) rfl ((bF h_8)).symm
   exact nl ⟨b76,b77,c63,c72,k61,k65,k70,k74,p60,p64,p69,p73,S,hS.close .nil s rfl (.same (.same (.same (.same (.same (.same (.here (.same .nil)))))))) 6 rfl,d.gt [1,2,3,4,0,6] [0,1,2,3,4,5,6,7] rfl rfl⟩
  ·intro l hi hp hc a w ⟨b76,b77,c63,c72,k61,k65,k70,k74,p60,p64,p69,p73,S,hS,d⟩
   refine a1X rfl ?_
   have s:=hS.open_ .nil
   refine wa Z18 s d zeroValue43 fun b77 a w s d=>?_
   have h_9:=a1M hc 9 hi rfl
   have d:=d.fixR 0 (r':=(bif l 9 then .box b77 (C43 rv68.1 p69 k70) 43 else .box b77 Z18 43)) rfl ((bF h_9)).symm
   exact nl ⟨b76,b77,c63,c72,k61,k65,k70,k74,p60,p64,p69,p73,S,hS.close .nil s rfl (.same (.same (.same (.same (.same (.same (.same (.here .nil)))))))) 7 rfl,d.gt [1,2,3,4,5,0] [0,1,2,3,4,5,6,7] rfl rfl⟩
  ·intro l hi hp hc a w ⟨b76,b77,c63,c72,k61,k65,k70,k74,p60,p64,p69,p73,S,hS,d⟩
   have h_6:=hp 6 rfl
   have d:=d.fixR 4 (r':=.box b76 Z18 43) rfl ((bF hi).trans ((bT h_6)))
   have h_2:=hp 2 rfl
   refine a1X rfl ?_
   have s:=hS.open_ (.v (t:=5) 6 rfl h_6 (.v (t:=32) 2 rfl h_2 .nil))
   refine ws (C43 rv59.1 p60 k61) s d 4 rfl rfl rfl sizeOf43 fun a w s d=>?_
   exact nl ⟨b76,b77,c63,c72,k61,k65,k70,k74,p60,p64,p69,p73,S,hS.close0 (.v (t:=5) 6 rfl h_6 (.v (t:=32) 2 rfl h_2 .nil)) s rfl,d.gt [0,1,2,3,4,5] [0,1,2,3,4,5,6,7] rfl rfl⟩
  ·intro l hi hp hc a w ⟨b76,b77,c63,c72,k61,k65,k70,k74,p60,p64,p69,p73,S,hS,d⟩
   have h_7:=hp 7 rfl
   have d:=d.fixR 5 (r':=.box b77 Z18 43) rfl ((bF hi).trans ((bT h_7)))
   have h_5:=hp 5 rfl
   refine a1X rfl ?_
   have s:=hS.open_ (.v (t:=6) 7 rfl h_7 (.v (t:=35) 5 rfl h_5 .nil))
   refine ws (C43 rv68.1 p69 k70) s d 5 rfl rfl rfl sizeOf43 fun a w s d=>?_
   exact nl ⟨b76,b77,c63,c72,k61,k65,k70,k74,p60,p64,p69,p73,S,hS.close0 (.v (t:=6) 7 rfl h_7 (.v (t:=35) 5 rfl h_5 .nil)) s rfl,d.gt [0,1,2,3,4,5] [0,1,2,3,4,5,6,7] rfl rfl⟩
  intro l a w hl ⟨b76,b77,c63,c72,k61,k65,k70,k74,p60,p64,p69,p73,S,hS,d⟩
  have d:=((d.yes 4 rfl (hl 2 (by decide))).yes 7 rfl (hl 5 (by decide))).fixR 4 (r':=.box b76 (C43 rv59.1 p60 k61) 43) rfl (bT (hl 8 (by decide)))
  have d:=((d.fixR 5 (r':=.box b77 (C43 rv68.1 p69 k70) 43) rfl (bT (hl 9 (by decide)))).fixR 2 (r':=.row p60 rv59.1.Epoch.Response.Stages.length k61 c63 138 10) rfl (bT (hl 2 (by decide)))).fixR 3 (r':=.row p69 rv68.1.Epoch.Response.Stages.length k70 c72 138 10) rfl (bT (hl 5 (by decide)))
  have s:=hS.on (.b (t:=4) rfl (.v (t:=5) 6 rfl (hl 6 (by decide)) (.v (t:=6) 7 rfl (hl 7 (by decide)) .nil)))
  exact ⟨S,b76,b77,c63,c72,k61,k70,p60,p69,wj s d [0,4,5,2,3] [3,1,0]⟩
 rintro a w ⟨Sv78,b76,b77,c63,c72,k61,k70,p60,p69,s,d⟩
 refine tn (wp_seq (sn 4 [1,2] s d rfl rfl fun a s=>?_))
 refine sv s (a0Z (by kernel_rfl) rfl rfl (O8 runUnderlying32 (by kernel_rfl) (EqF.cons1 rfl isAgg9 rfl rfl (I9 runUnderlying9) (EqF.cons1 rfl isAgg9 rfl rfl (I9 runUnderlying9) (EqF.cons1 rfl isAgg9 rfl rfl (I9 runUnderlying9) (EqF.cons1 rfl isAgg9 rfl rfl (I9 runUnderlying9) EqF.nil)))))) rfl fun a s=>?_
 refine nl (cd s u rfl (fun u=>?_) fun u=>?_)
 ·refine sr ?_
  obtain ⟨rv222,h221,u⟩:=bt u
  refine cV s d (a3U h221 d.bdom) (d9 call10 rfl) rfl fun a w s d=>?_
  refine rz0 1 s rfl fun a s=>?_
  obtain rfl:=oi u
  exact wp_ret (j3 (rt s rfl (d.ret rfl)))
 refine sk (sn 2 [0,1] s d rfl rfl fun a s=>?_)
 obtain ⟨rv230,h229,u⟩:=bt u
 obtain ⟨Sv235,d⟩:=D9 (α:=Stage) d 3 rfl 1 rfl
 refine cR s (V7 h229 d.dom (d.envAt 1 rfl) (d.envAt 0 rfl)) (d9 call14 rfl) rfl ?_
 rintro v239 Sv236 w a h237 ⟨p231,k232,c234,rfl,h240,h233⟩ s
 have d:=(d.callN h237 h240).addE (e:=j5 c234 rv230.1.Channels) h233
 refine rn0 3 s rfl fun a s=>?_
 refine wa E4_2 s d zeroValue29 fun b242 a w s d=>?_
 refine ws [sl p231 k232 rv230.1.Channels] s d 0 rfl rfl rfl sizeOf29 fun a w s d=>?_
 refine rz0 1 s rfl fun a s=>?_
 refine sn 2 [2,4] s d rfl rfl fun a s=>?_
 obtain ⟨rv244,h243,u⟩:=bt u
 obtain ⟨Sv249,d⟩:=D9 (α:=Stage) d 5 rfl 4 rfl
 refine cR s (V7 h243 d.dom (d.envAt 3 rfl) (d.envAt 0 rfl)) (d9 call14 rfl) rfl ?_
 rintro v253 Sv250 w a h251 ⟨p245,k246,c248,rfl,h254,h247⟩ s
 have d:=(d.callN h251 h254).addE (e:=j5 c248 rv244.1.Channels) h247
 refine rn0 3 s rfl fun a s=>?_
 refine wa E4_2 s d zeroValue29 fun b256 a w s d=>?_
 refine ws [sl p245 k246 rv244.1.Channels] s d 0 rfl rfl rfl sizeOf29 fun a w s d=>?_
 refine rz0 1 s rfl fun a s=>?_
 refine wp_seq (sn0 3 s rfl fun a s=>?_)
 refine rO 3 56 [] s d rfl rfl rfl rfl rfl fun a s=>?_
 refine nl (cd s u rfl (fun u=>?_) fun u=>?_)
 ·refine sr ?_
  obtain ⟨rv269,h268,u⟩:=bt u
  refine cV s d (a3U h268 d.bdom) (d9 call10 rfl) rfl fun a w s d=>?_
  refine rz0 1 s rfl fun a s=>?_
  obtain rfl:=oi u
  exact wp_ret (j3 (rt s rfl (d.ret rfl)))
 refine sk (sn 2 [2,6] s d rfl rfl fun a s=>?_)
 obtain ⟨rv277,h276,u⟩:=bt u
 obtain ⟨Sv282,d⟩:=D9 (α:=Channel) d 3 rfl 2 rfl
 refine cR s (V7 h276 d.dom (d.envAt 0 rfl) (d.envAt 2 rfl)) (d9 call14 rfl) rfl ?_
 rintro v286 Sv283 w a h284 ⟨p278,k279,c281,rfl,h287,h280⟩ s
 have d:=(d.callN h284 h287).addE (e:=j5 c281 rv277.1.Channels) h280
 refine rn0 3 s rfl fun a s=>?_
 refine wa E4_2 s d zeroValue29 fun b289 a w s d=>?_
 refine ws [sl p278 k279 rv277.1.Channels] s d 0 rfl rfl rfl sizeOf29 fun a w s d=>?_
 refine rz0 1 s rfl fun a s=>?_
 refine sn 2 [2,6] s d rfl rfl fun a s=>?_
 obtain ⟨rv291,h290,u⟩:=bt u
 obtain ⟨Sv296,d⟩:=D9 (α:=Channel) d 3 rfl 2 rfl
 refine cR s (V7 h290 d.dom (d.envAt 0 rfl) (d.envAt 6 rfl)) (d9 call14 rfl) rfl ?_
 rintro v300 Sv297 w a h298 ⟨p292,k293,c295,rfl,h301,h294⟩ s
 have d:=(d.callN h298 h301).addE (e:=j5 c295 rv291.1.Channels) h294
 refine rn0 3 s rfl fun a s=>?_
 refine wa E4_2 s d zeroValue29 fun b303 a w s d=>?_
 refine ws [sl p292 k293 rv291.1.Channels] s d 0 rfl rfl rfl sizeOf29 fun a w s d=>?_
 refine rz0 1 s rfl fun a s=>?_
 refine wp_seq (sn0 3 s rfl fun a s=>?_)
 refine rO 3 75 [] s d rfl rfl rfl rfl rfl fun a s=>?_
 refine mv s rfl rfl fun a s=>?_
 obtain ⟨c314,hc314,u⟩:=bt u
 refine o5 5 (fun a w=>∃ Sv315,Sl 144 [(4,pt b57),(5,pt b76),(6,pt b77),(7,pt b242),(9,pt b256),(11,pt b289),(84,.bool c314)] a∧Wd ⟨w0,S0,[]⟩ Sv315 [.box b57 [sl p45 k46 rv44.1.Channels] 29,.box b76 (C43 rv59.1 p60 k61) 43,.box b77 (C43 rv68.1 p69 k70) 43,.box b242 [sl p231 k232 rv230.1.Channels] 29,.box b256 [sl p245 k246 rv244.1.Channels] 29,.box b289 [sl p278 k279 rv277.1.Channels] 29,.row p278 rv277.1.Channels.length k279 c281 73 5] [Sq p45 k46 rv44.1.Channels,Sq p60 k61 rv59.1.Epoch.Response.Stages,Sq p69 k70 rv68.1.Epoch.Response.Stages,Sq p231 k232 rv230.1.Channels,Sq p245 k246 rv244.1.Channels,j5 c281 rv277.1.Channels] w) ?_ ?_
 ·rcases Bool.eq_false_or_eq_true ((rv277.2 != 0) || (rv291.2 != 0)) with h313 | h313
  ·have s:=s.bT 79 rfl h313
   have u:=A9 hc314 h313
   refine rn0 5 s rfl fun a s=>?_
   refine wpList_nil ?_
   obtain rfl:=oi u
   exact tn ⟨Sv297,wj s d [6,7,8,5,4,2,3] [8,7,5,3,1,2]⟩
  have s:=s.bF 79 rfl h313
  have u:=C8 hc314 h313
  refine rn 2 [2,0] s d rfl rfl fun a s=>?_
  obtain ⟨rv317,h316,u⟩:=bt u
  refine o7 s (b0P h316 d.bdom (d.bRow 3 rfl 2 rfl) (d.bRow 1 rfl 0 rfl)) (d9 call19 rfl) ⟨_,rfl,rfl⟩ rfl rfl ?_
  rintro v321 Sv318 w a h319 rfl s
  have d:=d.callB h319
  refine rn0 2 s rfl fun a s=>?_
  refine wpList_nil ?_
  obtain rfl:=oi u
  exact tn ⟨Sv297,wj s d [6,7,8,5,4,2,3] [8,7,5,3,1,2]⟩
 rintro a w ⟨Sv315,s,d⟩
 refine nl (cd s u rfl (fun u=>?_) fun u=>?_)
 ·refine sz0 1 s rfl fun a s=>?_
  obtain rfl:=oi u
  exact wp_ret (j3 (rt s rfl (d.ret rfl)))
 refine sk (wp_seq ?_)
 obtain ⟨rv327,h326,u⟩:=bt u
 obtain ⟨rv333,h332,u⟩:=bt u
 obtain ⟨rv339,h338,u⟩:=bt u
 refine A7 (fun a w=>∃ Sv344 c331 c337 c343 k329 k335 k341 p328 p334 p340,Sl 144 [(5,pt b76),(6,pt b77),(15,sl p328 k329 rv327),(16,sl p334 k335 rv333),(17,sl p340 k341 rv339)] a∧Wd ⟨w0,S0,[]⟩ Sv344 [.box b76 (C43 rv59.1 p60 k61) 43,.box b77 (C43 rv68.1 p69 k70) 43,.row p328 rv327.length k329 c331 56 5,.row p334 rv333.length k335 c337 56 5,.row p340 rv339.length k341 c343 56 5] [Sq p60 k61 rv59.1.Epoch.Response.Stages,Sq p69 k70 rv68.1.Epoch.Response.Stages,j5 c331 rv327,j5 c337 rv333,j5 c343 rv339] w) ?_ ?_
 ·refine h_c [0,1,2,3,4,5] [] d rfl rfl (by kernel_rfl) rfl fun hC d=>?_
  refine gn 6 [0,1,3,4,6,7] [0,5,0,3,0,4] s hC rfl rfl rfl fun a s=>?_
  refine ho 2 rfl ?_
  obtain ⟨Sv345,d⟩:=D9 (α:=Channel) d 6 rfl 5 rfl
  refine cR s (a0t h326 d.dom (d.envAt 1 rfl) (d.envAt 0 rfl)) (d9 call15 rfl) rfl ?_
  rintro v349 Sv346 w a h347 ⟨p328,k329,c331,rfl,h350,h330⟩ s
  have d:=(d.callN h347 h350).addE (e:=j5 c331 rv327) h330
  refine h_n [1,2,3,4,5,6] [] d rfl rfl fun hC=>?_
  refine h_d [1,2,3,4,5,6,0] [] [0,1,2,3,4,5] [] d rfl rfl rfl rfl fun hC=>?_
  refine ho 5 rfl ?_
  refine cR s (a0t h332 d.dom (d.envAt 2 rfl) (d.envAt 5 rfl)) (d9 call15 rfl) rfl ?_
  rintro v355 Sv352 w a h353 ⟨p334,k335,c337,rfl,h356,h336⟩ s
  have d:=(d.callN h353 h356).addE (e:=j5 c337 rv333) h336
  refine h_n [2,3,4,5,6,7,1] [] d rfl rfl fun hC=>?_
  refine h_d [2,3,4,5,6,7,1,0] [] [0,1,2,3,4,5,6] [] d rfl rfl rfl rfl fun hC=>?_
  refine ho 8 rfl ?_
  refine cR s (a0t h338 d.dom (d.envAt 3 rfl) (d.envAt 7 rfl)) (d9 call15 rfl) rfl ?_
  rintro v361 Sv358 w a h359 ⟨p340,k341,c343,rfl,h362,h342⟩ s
  have d:=(d.callN h359 h362).addE (e:=j5 c343 rv339) h342
  refine h_n [3,4,5,6,7,8,2,1] [] d rfl rfl fun hC=>?_
  refine h_d [3,4,5,6,7,8,2,1,0] [] [0,1,2,3,4,5,6,7] [] d rfl rfl rfl rfl fun hC=>?_
  refine gn 3 [9,10,11] [] s hC rfl rfl rfl fun a s=>?_
  refine y8 (by kernel_rfl) ?_
  exact ⟨Sv358,c331,c337,c343,k329,k335,k341,p328,p334,p340,wj s d [4,5,2,1,0] [5,6,2,1,0]⟩
 rintro a w ⟨Sv344,c331,c337,c343,k329,k335,k341,p328,p334,p340,s,d⟩
 refine tn (wp_seq (sn 4 [0,1] s d rfl rfl fun a s=>?_))
 refine x9 (α:=SourceID) (vs:=[V32 rv59.1.Source,V32 rv68.1.Source]) (cs:=(E4_0 rv59 rv68)) (xs:=(a5M rv59 rv68)) s d El60 rfl rfl rfl rfl rfl rfl ⟨⟨_,_,_,_,rfl,rfl,rfl,rfl,rfl⟩,⟨⟨_,_,_,_,rfl,rfl,rfl,rfl,rfl⟩,rfl⟩⟩ rfl trivial rfl fun b365 a w s d=>?_
 refine rz0 2 s rfl fun a s=>?_
 refine wp_block (u7 (fun sv545 a w=>∃ Sv663,Sl 144 [(15,sl p328 k329 rv327),(16,sl p334 k335 rv333),(17,sl p340 k341 rv339),(98,sl (ad b365) (a5M rv59 rv68).length (a5M rv59 rv68)),(99,iv ((a5M rv59 rv68).length:Int)),(100,iv sv545)] a∧Wd ⟨w0,S0,[]⟩ Sv663 [.row p328 rv327.length k329 c331 56 5,.row p334 rv333.length k335 c337 56 5,.row p340 rv339.length k341 c343 56 5,.row (ad b365) (a5M rv59 rv68).length (a5M rv59 rv68).length (E4_0 rv59 rv68) 32 4] [j5 c331 rv327,j5 c337 rv333,j5 c343 rv339,j5 (E4_0 rv59 rv68) (a5M rv59 rv68)] w) 0 u ⟨Sv344,wj s d [3,4,5,0] [3,4,5,0]⟩ ?_)
 repeat clear u
 rintro sv545 a w tv723 ⟨Sv663,s,d⟩ u hd722
 refine sz0 1 s rfl fun a s=>?_
 refine wp_seq (cd s u rfl (fun u=>?_) fun u=>?_)
 ·refine sk (wp_seq (wp_block (sr ?_)))
  obtain ⟨x787,h785,u⟩:=bt u
  obtain ⟨q791,c792,h788,h789,h793,h786⟩:=d.elemRK (α:=SourceID) 3 rfl 3 rfl h785
  obtain ⟨_,_,_,_,rfl,rfl,rfl,rfl,rfl⟩:=h786
  refine sv s (u6 runUnderlying60 sizeOf32 rfl rfl h788.1 h788.2 h789) rfl fun a s=>?_
  refine sv s (R9 (j:=0) (d.ownAt 3 rfl) rfl isAgg32 sizeOf32 h793 rfl rfl) rfl fun a s=>?_
  refine wa Z3 s d zeroValue32 fun b794 a w s d=>?_
  refine ws (C32 x787) s d 0 rfl rfl rfl sizeOf32 fun a w s d=>?_
  refine nl (sz0 1 s rfl fun a s=>?_)
  refine wp_block (u7 (fun sv842 a w=>∃ Sv872,Sl 144 [(15,sl p328 k329 rv327),(16,sl p334 k335 rv333),(17,sl p340 k341 rv339),(19,pt b794),(20,iv sv842),(98,sl (ad b365) (a5M rv59 rv68).length (a5M rv59 rv68)),(99,iv ((a5M rv59 rv68).length:Int)),(100,iv sv545)] a∧Wd ⟨w0,S0,[]⟩ Sv872 [.box b794 (C32 x787) 32,.row p328 rv327.length k329 c331 56 5,.row p334 rv333.length k335 c337 56 5,.row p340 rv339.length k341 c343 56 5,.row (ad b365) (a5M rv59 rv68).length (a5M rv59 rv68).length (E4_0 rv59 rv68) 32 4] [j5 c331 rv327,j5 c337 rv333,j5 c343 rv339,j5 (E4_0 rv59 rv68) (a5M rv59 rv68)] w) 0 u ⟨Sv663,wj s d [0,1,2,3,4] [0,1,2,3]⟩ ?_)
  repeat clear u
  rintro sv842 a w tv888 ⟨Sv872,s,d⟩ u hd887
  refine wp_seq (sz0 2 s rfl fun a s=>?_)
  refine cd s u rfl (fun u=>?_) fun u=>?_
  ·refine sk (wp_seq (wp_block (sn0 3 s rfl fun a s=>?_)))
   obtain ⟨atv905,h904,u⟩:=bt u
   refine sv s (r9 rfl h904) rfl fun a s=>?_
   refine nl (wp_seq ?_)
   obtain ⟨rv907,h906,u⟩:=bt u
   obtain ⟨rv909,h908,u⟩:=bt u
   obtain ⟨c912,hc912,u⟩:=bt u
   refine A7 (fun a w=>∃ Sv913,Sl 144 [(15,sl p328 k329 rv327),(16,sl p334 k335 rv333),(17,sl p340 k341 rv339),(19,pt b794),(20,iv sv842),(98,sl (ad b365) (a5M rv59 rv68).length (a5M rv59 rv68)),(99,iv ((a5M rv59 rv68).length:Int)),(100,iv sv545),(131,.bool (!(rv907 == c912)))] a∧Wd ⟨w0,S0,[]⟩ Sv913 [.box b794 (C32 x787) 32,.row p328 rv327.length k329 c331 56 5,.row p334 rv333.length k335 c337 56 5,.row p340 rv339.length k341 c343 56 5,.row (ad b365) (a5M rv59 rv68).length (a5M rv59 rv68).length (E4_0 rv59 rv68) 32 4] [j5 c331 rv327,j5 c337 rv333,j5 c343 rv339,j5 (E4_0 rv59 rv68) (a5M rv59 rv68)] w) ?_ ?_
   ·rcases Bool.eq_false_or_eq_true rv909 with h914 | h914
    ·have h915:=A9 hc912 h914
     refine h_c [0,1,2,3,4] [] d rfl rfl (by kernel_rfl) rfl fun hC d=>?_
     refine gn 10 [0,1,2,3,4,6,7,8,9,10] [0,0] s hC rfl rfl rfl fun a s=>?_
     refine ho 5 rfl ?_
     refine cV s d (Y1 h906 d.bdom (d.bRow 1 rfl 0 rfl)) (d9 call20 rfl) rfl fun a w s d=>?_
     refine h_n [0,1,2,3,4] [] d rfl rfl fun hC=>?_
     refine ho 11 rfl ?_
     refine cV s d (Y1 h908 d.bdom (d.bRow 2 rfl 1 rfl)) (d9 call20 rfl) rfl fun a w s d=>?_
     refine h_n [0,1,2,3,4] [] d rfl rfl fun hC=>?_
     refine gm s 12 rfl rfl rfl hC fun a s=>?_
     have s:=s.bT 123 rfl h914
     refine gn 6 [13,14,15,16,17,18] [] s hC rfl rfl rfl fun a s=>?_
     refine gT s 19 rfl rfl hC rfl rfl h915 fun a s=>?_
     refine gv s 20 rfl rfl hC (fun w hC=>y_neqB runUnderlying4 rfl rfl) fun a s=>?_
     refine y8 (by kernel_rfl) ?_
     exact ⟨Sv872,wj s d [0,1,2,3,4] [0,1,2,3]⟩
    have h928:=C8 hc912 h914
    obtain ⟨rv930,h929,h928⟩:=T9 h928
    refine h_c [0,1,2,3,4] [] d rfl rfl (by kernel_rfl) rfl fun hC d=>?_
    refine gn 10 [0,1,2,3,4,6,7,8,9,10] [0,0] s hC rfl rfl rfl fun a s=>?_
    refine ho 5 rfl ?_
    refine cV s d (Y1 h906 d.bdom (d.bRow 1 rfl 0 rfl)) (d9 call20 rfl) rfl fun a w s d=>?_
    refine h_n [0,1,2,3,4] [] d rfl rfl fun hC=>?_
    refine ho 11 rfl ?_
    refine cV s d (Y1 h908 d.bdom (d.bRow 2 rfl 1 rfl)) (d9 call20 rfl) rfl fun a w s d=>?_
    refine h_n [0,1,2,3,4] [] d rfl rfl fun hC=>?_
    refine gm s 12 rfl rfl rfl hC fun a s=>?_
    have s:=s.bF 123 rfl h914
    refine gn 5 [13,14,15,16,17] [0] s hC rfl rfl rfl fun a s=>?_
    refine ho 18 rfl ?_
    refine o7 s (Y1 h929 d.bdom (d.bRow 3 rfl 2 rfl)) (d9 call20 rfl) ⟨_,rfl,rfl⟩ rfl rfl ?_
    rintro v946 Sv943 w a h944 rfl s
    have d:=d.callB h944
    refine h_n [0,1,2,3,4] [] d rfl rfl fun hC=>?_
    refine gF s 19 rfl rfl hC rfl rfl h928 fun a s=>?_
    refine gv s 20 rfl rfl hC (fun w hC=>y_neqB runUnderlying4 rfl rfl) fun a s=>?_
    refine y8 (by kernel_rfl) ?_
    exact ⟨Sv872,wj s d [0,1,2,3,4] [0,1,2,3]⟩
   rintro a w ⟨Sv913,s,d⟩
   refine tn (cd s u rfl (fun u=>?_) fun u=>?_)
   ·refine sz0 1 s rfl fun a s=>?_
    obtain rfl:=oi u
    have h951:=hd887 _ rfl
    subst h951
    have h952:=hd722 _ rfl
    subst h952
    exact wp_ret (o9 (j3 (j3 (o9 (o9 (j3 (j3 (o9 (j3 (rt s rfl (d.ret rfl)))))))))))
   refine wp_skip (l7 (tn (wp_region_lit (rn0 2 s rfl fun a s=>?_))))
   obtain ⟨n954,h953,u⟩:=bt u
   refine sv s (r9 rfl h953) rfl fun a s=>?_
   exact nl ⟨_,io u,Sv913,wj s d [0,1,2,3,4] [0,1,2,3]⟩
  obtain ⟨rv955,u,h956⟩:=a0l u
  have h956:=(hd887 _ h956.symm).symm
  subst h956
  refine wp_exit (j4 (j4 (q9 (l7 (tn (wp_region_lit (rz0 2 s rfl fun a s=>?_)))))))
  exact ⟨_,io u,Sv872,wj s d [1,2,3,4] [0,1,2,3]⟩
 obtain ⟨rv976,u,h977⟩:=a0l u
 have h977:=(hd722 _ h977.symm).symm
 subst h977
 refine wp_exit (j4 (j4 (q9 (tn (sn0 9 s rfl fun a s=>?_)))))
 obtain ⟨c966,hc966,u⟩:=bt u
 refine o5 2 (fun a w=>∃ Sv967,Sl 144 [(143,.bool c966)] a∧Wd ⟨w0,S0,[]⟩ Sv967 [] [] w) ?_ ?_
 ·rcases Bool.eq_false_or_eq_true ((rv327.length:Int) == (w64 ((rv333.length:Int)+(rv339.length:Int)))) with h965 | h965
  ·have s:=s.bT 141 rfl h965
   have u:=A9 hc966 h965
   obtain ⟨rv969,h968,u⟩:=bt u
   refine o7 s (a3U h968 d.bdom) (d9 call10 rfl) ⟨_,rfl,rfl⟩ rfl rfl ?_
   rintro v973 Sv970 w a h971 rfl s
   have d:=d.callB h971
   refine sv s (G7 rfl rfl) rfl fun a s=>?_
   refine wpList_nil ?_
   obtain rfl:=oi u
   exact tn ⟨Sv663,wj s d [] []⟩
  have s:=s.bF 141 rfl h965
  have u:=C8 hc966 h965
  refine rn0 2 s rfl fun a s=>?_
  refine wpList_nil ?_
  obtain rfl:=oi u
  exact tn ⟨Sv663,wj s d [] []⟩
 rintro a w ⟨Sv967,s,d⟩
 refine rz0 1 s rfl fun a s=>?_
 obtain rfl:=oi u
 exact q1 s rfl (d.ret rfl)
end Go.Proofs.YteanekphncdhiaaGreat.Wk

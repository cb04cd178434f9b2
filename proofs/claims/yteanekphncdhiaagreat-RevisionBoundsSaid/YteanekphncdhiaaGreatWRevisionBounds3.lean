/- The walks of RevisionBounds, part 3: each Go function computes what its plain program computes. Printed by a program of ours. -/
import Derived.Test.YteanekphncdhiaaGreatProg
import Derived.Test.YteanekphncdhiaaGreatDat
import Derived.Test.YteanekphncdhiaaGreatSh
import Derived.Test.YteanekphncdhiaaGreatLa1
import Derived.Test.YteanekphncdhiaaGreatLa2
import Derived.Test.YteanekphncdhiaaGreatLibCh
import Derived.KernelRfl
import Derived.Test.YteanekphncdhiaaGreatLb1
import Derived.Shelf.SlLaysF0
import Derived.Test.YteanekphncdhiaaGreatWRevisionBounds2
namespace Go.Proofs.YteanekphncdhiaaGreat.Wk
open Go Go.RowKit Go.Proofs Go.Proofs.YteanekphncdhiaaGreat.Sh Go.Proofs.Tryz
set_option linter.unusedVariables false
set_option linter.unusedSimpArgs false
set_option maxHeartbeats 4000000
set_option maxRecDepth 100000
theorem a9F {w0 S0 p2 k3 r1 r} (u:a2U r1=some r) (hS:Dm S0 w0) (h4:(Sq p2 k3 r1.Stages).p S0 w0):Ck Tryz.prog 113 #[.agg #[sl p2 k3 r1.Stages]] w0 S0 [] l5 r:=by
 refine en 40 func113 rfl hS rfl rfl rfl fun a s d=>?_
 have d:=d.addE h4
 refine sr (wb [sl p2 k3 r1.Stages] s d rfl fun b5 a w s d=>?_)
 refine rz0 1 s rfl fun a s=>?_
 refine sz0 1 s rfl fun a s=>?_
 refine wp_seq (sz0 1 s rfl fun a s=>?_)
 refine wp_block (u6 (fun sv188 a w=>∃ Sv308,Sl 40 [(1,pt b5),(3,iv sv188.1),(4,iv sv188.2)] a∧Wd ⟨w0,S0,[]⟩ Sv308 [.box b5 [sl p2 k3 r1.Stages] 39] [Sq p2 k3 r1.Stages] w) (1,0) u ⟨S0,wj s d [0] [0]⟩ ?_)
 repeat clear u
 rintro sv188 a w tv369 ⟨Sv308,s,d⟩ u hd368
 refine wp_seq (sz 5 [0] s d rfl rfl fun a s=>?_)
 refine cd s u rfl (fun u=>?_) fun u=>?_
 ·refine sk (wp_seq (wp_block (wp_seq (sn 3 [0] s d rfl rfl fun a s=>?_))))
  obtain ⟨x432,h430,u⟩:=bt u
  obtain ⟨b438,o439,q436,c437,h440,h433,h434,h435,h431⟩:=d.elemV 0 rfl h430
  have hsv441:=s
  have hwv442:=d
  subst h440
  have s:=hsv441
  have d:=hwv442
  obtain ⟨_,_,_,_,_,_,_,_,_,_,rfl,rfl,rfl,rfl,rfl,rfl,rfl,rfl,⟨p443,n444,k445,rfl,h446⟩,rfl,rfl⟩:=h431
  obtain rfl:=h446.1
  have d:=(d.addE (e:=SlA p443 _ k445 x432.Taps) h446).addE h435
  refine sv s (o6 runUnderlying37 sizeOf138 rfl rfl h433.1 h433.2 h434) rfl fun a s=>?_
  refine sv s (F8 (j:=0) (d.ceAt 0 rfl) rfl isAgg138 sizeOf138 rfl rfl) rfl fun a s=>?_
  obtain ⟨rv448,h447,u⟩:=bt u
  refine cV s d (a7a h447 d.bdom (d.bE 1 rfl)) (d9 call139 rfl) rfl fun a w s d=>?_
  refine rz0 1 s rfl fun a s=>?_
  refine cd s u rfl (fun u=>?_) fun u=>?_
  ·refine sz0 1 s rfl fun a s=>?_
   obtain rfl:=oi u
   have h457:=hd368 _ rfl
   subst h457
   exact wp_ret (j3 (w9 (j3 (j3 (w9 (j3 (rt s rfl (d.ret rfl))))))))
  refine sk (sn 3 [0] s d rfl rfl fun a s=>?_)
  obtain ⟨x460,h458,u⟩:=bt u
  obtain ⟨q464,c465,h461,h462,h463,h459⟩:=d.elemK 2 rfl h458
  obtain ⟨_,_,_,_,_,_,_,_,_,_,rfl,rfl,rfl,rfl,rfl,rfl,rfl,rfl,⟨p466,n467,k468,rfl,h469⟩,rfl,rfl⟩:=h459
  obtain rfl:=h469.1
  have d:=(d.addE (e:=SlA p466 _ k468 x460.Taps) h469).addE h463
  refine sv s (o6 runUnderlying37 sizeOf138 rfl rfl h461.1 h461.2 h462) rfl fun a s=>?_
  refine sv s (j5 (o':=q464+0) runUnderlying138 rfl sizeOf3 rfl rfl rfl) rfl fun a s=>?_
  refine sv s (E9 (j:=0) (d.ceAt 0 rfl) rfl isAgg3 rfl) rfl fun a s=>?_
  refine rz0 1 s rfl fun a s=>?_
  refine u7 (fun a w=>∃ (n487:Int) (Sv486:_),a1O sv188 n487=some tv369∧Sl 40 [(1,pt b5),(3,iv n487),(4,iv sv188.2)] a∧Wd ⟨w0,S0,[]⟩ Sv486 [.box b5 [sl (some ⟨b438,o439,none⟩) k3 r1.Stages] 39] [Sq (some ⟨b438,o439,none⟩) k3 r1.Stages] w) ?_ ?_
  ·refine cd s u rfl (fun u=>?_) fun u=>?_
   ·refine sn 4 [0] s d rfl rfl fun a s=>?_
    obtain ⟨x493,h491,u⟩:=bt u
    obtain ⟨q497,c498,h494,h495,h496,h492⟩:=d.elemK 4 rfl h491
    obtain ⟨_,_,_,_,_,_,_,_,_,_,rfl,rfl,rfl,rfl,rfl,rfl,rfl,rfl,⟨p499,n500,k501,rfl,h502⟩,rfl,rfl⟩:=h492
    obtain rfl:=h502.1
    have d:=(d.addE (e:=SlA p499 _ k501 x493.Taps) h502).addE h496
    refine sv s (o6 runUnderlying37 sizeOf138 rfl rfl h494.1 h494.2 h495) rfl fun a s=>?_
    refine sv s (j5 (o':=q497+8) runUnderlying138 rfl sizeOf3 rfl rfl rfl) rfl fun a s=>?_
    refine sv s (E9 (j:=8) (d.ceAt 0 rfl) rfl isAgg3 rfl) rfl fun a s=>?_
    refine sv s (y_mul rfl rfl) rfl fun a s=>?_
    obtain ⟨n504,h503,u⟩:=bt u
    refine sv s (q8 rfl h503) rfl fun a s=>?_
    refine nl (sz0 2 s rfl fun a s=>?_)
    refine cd s u rfl (fun u=>?_) fun u=>?_
    ·refine sz0 1 s rfl fun a s=>?_
     obtain rfl:=oi u
     have h507:=hd368 _ rfl
     subst h507
     exact wp_ret (j3 (w9 (j3 (j3 (w9 (j3 (rt s rfl (d.ret rfl))))))))
    exact sk ⟨n504,Sv308,u,wj s d [0] [6]⟩
   exact sk ⟨sv188.1,Sv308,u,wj s d [0] [4]⟩
  rintro a w ⟨n487,Sv486,u,s,d⟩
  refine l7 (tn (wp_region_lit (rn0 2 s rfl fun a s=>?_)))
  obtain ⟨i489,h488,u⟩:=bt u
  refine sv s (q8 rfl h488) rfl fun a s=>?_
  exact nl ⟨_,io u,Sv486,wj s d [0] [0]⟩
 obtain ⟨rv508,u,h509⟩:=a0q u
 have h509:=(hd368 _ h509.symm).symm
 subst h509
 refine wp_exit (j4 (j4 (o9 (tn (sz 5 [0] s d rfl rfl fun a s=>?_)))))
 obtain rfl:=oi u
 exact q1 s rfl (d.ret rfl)
theorem a0B {w0 S0 p2 k3 e1 r} (u:a0E e1=some r) (hS:Dm S0 w0) (h4:(Sq p2 k3 e1.Response.Stages).p S0 w0):Ck Tryz.prog 65 #[V41 e1 p2 k3] w0 S0 [] l5 r:=by
 refine en 46 func65 rfl hS rfl rfl rfl fun a s d=>?_
 have d:=d.addE h4
 refine sr (wb (C41 e1 p2 k3) s d rfl fun b5 a w s d=>?_)
 refine rz0 1 s rfl fun a s=>?_
 refine sn 2 [0] s d rfl rfl fun a s=>?_
 refine wa [iv 0,iv 0,iv 0] s d zeroValue36 fun b6 a w s d=>?_
 refine ws (C36 e1.Position) s d 0 rfl rfl rfl sizeOf36 fun a w s d=>?_
 refine nl (sn 4 [1] s d rfl rfl fun a s=>?_)
 refine rA 6 9 [1,1] s d rfl rfl rfl rfl rfl fun a s=>?_
 refine mv s rfl rfl fun a s=>?_
 refine rA 4 16 [1] s d rfl rfl rfl rfl rfl fun a s=>?_
 refine mv s rfl rfl fun a s=>?_
 obtain ⟨c18,hc18,u⟩:=bt u
 refine l9 4 (fun a w=>∃ Sv19,Sl 46 [(1,pt b5),(3,pt b6),(25,.bool c18)] a∧Wd ⟨w0,S0,[]⟩ Sv19 [.box b5 (C41 e1 p2 k3) 41,.box b6 (C36 e1.Position) 36] [Sq p2 k3 e1.Response.Stages] w) ?_ ?_
 ·rcases Bool.eq_false_or_eq_true (((decide (0≤e1.From)) && (decide (e1.From<e1.To))) && (decide (e1.To≤9007199254740992))) with h17 | h17
  ·have s:=s.bT 21 rfl h17
   have u:=A9 hc18 h17
   refine rn 2 [1] s d rfl rfl fun a s=>?_
   obtain ⟨rv21,h20,u⟩:=bt u
   refine o8 s (a9D h20 d.bdom) (d9 call112 rfl) ⟨_,rfl,rfl⟩ rfl rfl ?_
   rintro v25 Sv22 w a h23 rfl s
   have d:=d.callB h23
   refine sv s (F9 rfl rfl) rfl fun a s=>?_
   refine wpList_nil ?_
   obtain rfl:=oi u
   exact tn ⟨S0,wj s d [1,0] [0]⟩
  have s:=s.bF 21 rfl h17
  have u:=C7 hc18 h17
  refine rn0 4 s rfl fun a s=>?_
  refine wpList_nil ?_
  obtain rfl:=oi u
  exact tn ⟨S0,wj s d [1,0] [0]⟩
 rintro a w ⟨Sv19,s,d⟩
 refine mv s rfl rfl fun a s=>?_
 obtain ⟨c37,hc37,u⟩:=bt u
 refine l9 4 (fun a w=>∃ Sv38,Sl 46 [(3,pt b6),(30,.bool c37)] a∧Wd ⟨w0,S0,[]⟩ Sv38 [.box b6 (C36 e1.Position) 36] [] w) ?_ ?_
 ·rcases Bool.eq_false_or_eq_true c18 with h36 | h36
  ·have s:=s.bT 26 rfl h36
   have u:=A9 hc37 h36
   refine rn 2 [0] s d rfl rfl fun a s=>?_
   obtain ⟨rv40,h39,u⟩:=bt u
   refine o8 s (a9F h39 d.bdom (d.bE 0 rfl)) (d9 call113 rfl) ⟨_,rfl,rfl⟩ rfl rfl ?_
   rintro v44 Sv41 w a h42 rfl s
   have d:=d.callB h42
   refine sv s (F9 rfl rfl) rfl fun a s=>?_
   refine wpList_nil ?_
   obtain rfl:=oi u
   exact tn ⟨Sv19,wj s d [1] []⟩
  have s:=s.bF 26 rfl h36
  have u:=C7 hc37 h36
  refine rn0 4 s rfl fun a s=>?_
  refine wpList_nil ?_
  obtain rfl:=oi u
  exact tn ⟨Sv19,wj s d [1] []⟩
 rintro a w ⟨Sv38,s,d⟩
 refine mv s rfl rfl fun a s=>?_
 obtain ⟨c56,hc56,u⟩:=bt u
 refine l9 4 (fun a w=>∃ Sv57,Sl 46 [(3,pt b6),(35,.bool c56)] a∧Wd ⟨w0,S0,[]⟩ Sv57 [.box b6 (C36 e1.Position) 36] [] w) ?_ ?_
 ·rcases Bool.eq_false_or_eq_true c37 with h55 | h55
  ·have s:=s.bT 31 rfl h55
   have u:=A9 hc56 h55
   refine rn 2 [0] s d rfl rfl fun a s=>?_
   obtain ⟨rv59,h58,u⟩:=bt u
   refine o8 s (N7 h58 d.bdom) (d9 call64 rfl) ⟨_,rfl,rfl⟩ rfl rfl ?_
   rintro v63 Sv60 w a h61 rfl s
   have d:=d.callB h61
   refine sv s (F9 rfl rfl) rfl fun a s=>?_
   refine wpList_nil ?_
   obtain rfl:=oi u
   exact tn ⟨Sv38,wj s d [0] []⟩
  have s:=s.bF 31 rfl h55
  have u:=C7 hc56 h55
  refine rn0 4 s rfl fun a s=>?_
  refine wpList_nil ?_
  obtain rfl:=oi u
  exact tn ⟨Sv38,wj s d [0] []⟩
 rintro a w ⟨Sv57,s,d⟩
 refine mv s rfl rfl fun a s=>?_
 obtain ⟨c75,hc75,u⟩:=bt u
 refine l9 4 (fun a w=>∃ Sv76,Sl 46 [(3,pt b6),(40,.bool c75)] a∧Wd ⟨w0,S0,[]⟩ Sv76 [.box b6 (C36 e1.Position) 36] [] w) ?_ ?_
 ·rcases Bool.eq_false_or_eq_true c56 with h74 | h74
  ·have s:=s.bT 36 rfl h74
   have u:=A9 hc75 h74
   refine rn 2 [0] s d rfl rfl fun a s=>?_
   obtain ⟨rv78,h77,u⟩:=bt u
   refine o8 s (N7 h77 d.bdom) (d9 call64 rfl) ⟨_,rfl,rfl⟩ rfl rfl ?_
   rintro v82 Sv79 w a h80 rfl s
   have d:=d.callB h80
   refine sv s (F9 rfl rfl) rfl fun a s=>?_
   refine wpList_nil ?_
   obtain rfl:=oi u
   exact tn ⟨Sv57,wj s d [0] []⟩
  have s:=s.bF 36 rfl h74
  have u:=C7 hc75 h74
  refine rn0 4 s rfl fun a s=>?_
  refine wpList_nil ?_
  obtain rfl:=oi u
  exact tn ⟨Sv57,wj s d [0] []⟩
 rintro a w ⟨Sv76,s,d⟩
 refine mv s rfl rfl fun a s=>?_
 obtain ⟨c94,hc94,u⟩:=bt u
 refine l9 4 (fun a w=>∃ Sv95,Sl 46 [(45,.bool c94)] a∧Wd ⟨w0,S0,[]⟩ Sv95 [] [] w) ?_ ?_
 ·rcases Bool.eq_false_or_eq_true c75 with h93 | h93
  ·have s:=s.bT 41 rfl h93
   have u:=A9 hc94 h93
   refine rn 2 [0] s d rfl rfl fun a s=>?_
   obtain ⟨rv97,h96,u⟩:=bt u
   refine o8 s (N7 h96 d.bdom) (d9 call64 rfl) ⟨_,rfl,rfl⟩ rfl rfl ?_
   rintro v101 Sv98 w a h99 rfl s
   have d:=d.callB h99
   refine sv s (F9 rfl rfl) rfl fun a s=>?_
   refine wpList_nil ?_
   obtain rfl:=oi u
   exact tn ⟨Sv76,wj s d [] []⟩
  have s:=s.bF 41 rfl h93
  have u:=C7 hc94 h93
  refine rn0 4 s rfl fun a s=>?_
  refine wpList_nil ?_
  obtain rfl:=oi u
  exact tn ⟨Sv76,wj s d [] []⟩
 rintro a w ⟨Sv95,s,d⟩
 refine rz0 1 s rfl fun a s=>?_
 obtain rfl:=oi u
 exact q1 s rfl (d.ret rfl)
theorem a4A {w0 S0 p2 k3 inv1 r} (u:a0N inv1=some r) (hS:Dm S0 w0) (h4:(Sq p2 k3 inv1.Channels).p S0 w0):Ck Tryz.prog 18 #[.agg #[sl p2 k3 inv1.Channels]] w0 S0 [] l5 r:=by
 refine en 84 func18 rfl hS rfl rfl rfl fun a s d=>?_
 have d:=d.addE h4
 refine sr (wb [sl p2 k3 inv1.Channels] s d rfl fun b5 a w s d=>?_)
 refine rz0 1 s rfl fun a s=>?_
 refine wp_seq (sz0 1 s rfl fun a s=>?_)
 refine wp_block (u6 (fun sv608 a w=>∃ Sv1008,Sl 84 [(1,pt b5),(3,iv sv608)] a∧Wd ⟨w0,S0,[]⟩ Sv1008 [.box b5 [sl p2 k3 inv1.Channels] 29] [Sq p2 k3 inv1.Channels] w) 0 u ⟨S0,wj s d [0] [0]⟩ ?_)
 repeat clear u
 rintro sv608 a w tv1209 ⟨Sv1008,s,d⟩ u hd1208
 refine wp_seq (sz 5 [0] s d rfl rfl fun a s=>?_)
 refine cd s u rfl (fun u=>?_) fun u=>?_
 ·refine sk (wp_seq (wp_block (sn 3 [0] s d rfl rfl fun a s=>?_)))
  obtain ⟨x1412,h1410,u⟩:=bt u
  obtain ⟨b1418,o1419,q1416,c1417,h1420,h1413,h1414,h1415,h1411⟩:=d.elemV 0 rfl h1410
  have hsv1421:=s
  have hwv1422:=d
  subst h1420
  have s:=hsv1421
  have d:=hwv1422
  obtain ⟨_,_,_,_,_,rfl,rfl,rfl,rfl,rfl,⟨p1423,n1424,k1425,rfl,h1426⟩⟩:=h1411
  obtain rfl:=h1426.1
  have d:=(d.addE (e:=SlA p1423 _ k1425 x1412.Epochs) h1426).addE h1415
  refine sv s (o6 runUnderlying27 sizeOf73 rfl rfl h1413.1 h1413.2 h1414) rfl fun a s=>?_
  refine sv s (F8 (j:=0) (d.ceAt 0 rfl) rfl isAgg73 sizeOf73 rfl rfl) rfl fun a s=>?_
  refine wa Z2 s d zeroValue73 fun b1427 a w s d=>?_
  refine ws (C73 x1412 p1423 k1425) s d 0 rfl rfl rfl sizeOf73 fun a w s d=>?_
  refine nl (wp_seq (wp_seq ?_))
  obtain ⟨rv1429,h1428,u⟩:=bt u
  obtain ⟨c1445,hc1445,u⟩:=bt u
  obtain ⟨c1448,hc1448,u⟩:=bt u
  refine z8 (fun a w=>∃ Sv1449,Sl 84 [(1,pt b5),(3,iv sv608),(4,pt b1427),(45,.bool c1448)] a∧Wd ⟨w0,S0,[]⟩ Sv1449 [.box b5 [sl (some ⟨b1418,o1419,none⟩) k3 inv1.Channels] 29,.box b1427 (C73 x1412 p1423 k1425) 73] [Sq (some ⟨b1418,o1419,none⟩) k3 inv1.Channels,Sq p1423 k1425 x1412.Epochs] w) ?_ ?_
  ·rcases Bool.eq_false_or_eq_true (!rv1429) with h1450 | h1450
   ·have h1451:=A9 hc1445 h1450
    have h1452:c1445=true:=(Option.some.inj h1451).symm
    have h1453:=A9 hc1448 h1452
    refine h_c [0,1] [0] d rfl rfl (by kernel_rfl) rfl fun hC d=>?_
    refine gn 2 [0,1] [0] s hC rfl rfl rfl fun a s=>?_
    refine ho 2 rfl ?_
    refine cV s d (a0D h1428 d.bdom) (d9 call62 rfl) rfl fun a w s d=>?_
    refine h_n [0,1] [0] d rfl rfl fun hC=>?_
    refine gn 2 [3,4] [] s hC rfl rfl rfl fun a s=>?_
    have s:=s.bT 22 rfl h1450
    refine gn 15 [5,6,7,8,9,10,11,12,13,14,15,16,17,18,19] [] s hC rfl rfl rfl fun a s=>?_
    refine gT s 20 rfl rfl hC rfl rfl h1451 fun a s=>?_
    refine gm s 21 rfl rfl rfl hC fun a s=>?_
    have s:=s.bT 39 rfl h1452
    refine gn 5 [22,23,24,25,26] [] s hC rfl rfl rfl fun a s=>?_
    refine gT s 27 rfl rfl hC rfl rfl h1453 fun a s=>?_
    refine y7 (by kernel_rfl) ?_
    exact ⟨Sv1008,wj s d [1,0] [2,1]⟩
   have h1460:=C7 hc1445 h1450
   obtain ⟨c1475,hc1475,h1460⟩:=O6 h1460
   rcases Bool.eq_false_or_eq_true (decide (0<sv608)) with h1476 | h1476
   ·have h1477:=A9 hc1475 h1476
    obtain ⟨x1480,h1478,h1477⟩:=O6 h1477
    obtain ⟨q1484,c1485,h1481,h1482,h1483,h1479⟩:=d.elemK 2 rfl h1478
    obtain ⟨_,_,_,_,_,rfl,rfl,rfl,rfl,rfl,⟨p1486,n1487,k1488,rfl,h1489⟩⟩:=h1479
    obtain rfl:=h1489.1
    have d:=(d.addE (e:=SlA p1486 _ k1488 x1480.Epochs) h1489).addE h1483
    obtain ⟨rv1491,h1490,h1477⟩:=O6 h1477
    rcases Bool.eq_false_or_eq_true c1445 with h1492 | h1492
    ·have h1493:=A9 hc1448 h1492
     refine h_c [0,1] [0,2] d rfl rfl (by kernel_rfl) rfl fun hC d=>?_
     refine gn 2 [0,1] [0] s hC rfl rfl rfl fun a s=>?_
     refine ho 2 rfl ?_
     refine cV s d (a0D h1428 d.bdom) (d9 call62 rfl) rfl fun a w s d=>?_
     refine h_n [0,1] [0,2] d rfl rfl fun hC=>?_
     refine gn 2 [3,4] [] s hC rfl rfl rfl fun a s=>?_
     have s:=s.bF 22 rfl h1450
     refine gn 3 [5,6,7] [] s hC rfl rfl rfl fun a s=>?_
     have s:=s.bT 25 rfl h1476
     refine gn 4 [8,9,10,11] [1] s hC rfl rfl rfl fun a s=>?_
     refine gx s 12 rfl ⟨_,rfl,rfl⟩ rfl hC runUnderlying27 sizeOf73 rfl rfl h1481 h1482 fun a s=>?_
     refine gt s 13 rfl ⟨_,rfl,rfl⟩ rfl hC (fun w hC=>j5 (o':=q1484+0) runUnderlying73 rfl sizeOf32 rfl rfl rfl) fun a s=>?_
     refine gt s 14 rfl ⟨_,rfl,rfl⟩ rfl hC (fun w hC=>F8 (j:=0) (hC.ceAt 0 rfl) rfl isAgg32 sizeOf32 rfl rfl) fun a s=>?_
     refine gn 2 [15,16] [0] s hC rfl rfl rfl fun a s=>?_
     refine ho 17 rfl ?_
     refine o8 s (a3L h1490 d.bdom) (d9 call63 rfl) ⟨_,rfl,rfl⟩ rfl rfl ?_
     rintro v1503 Sv1500 w a h1501 rfl s
     have d:=d.callB h1501
     refine h_n [0,1] [0,2] d rfl rfl fun hC=>?_
     refine gt s 18 rfl ⟨_,rfl,rfl⟩ rfl hC (fun w hC=>a7l rfl rfl) fun a s=>?_
     refine gt s 19 rfl ⟨_,rfl,rfl⟩ rfl hC (fun w hC=>a5s (v:=.bool c1475) rfl rfl (vbs h1477)) fun a s=>?_
     refine gF s 20 rfl rfl hC rfl rfl h1460 fun a s=>?_
     refine gm s 21 rfl rfl rfl hC fun a s=>?_
     have s:=s.bT 39 rfl h1492
     refine gn 5 [22,23,24,25,26] [] s hC rfl rfl rfl fun a s=>?_
     refine gT s 27 rfl rfl hC rfl rfl h1493 fun a s=>?_
     refine y7 (by kernel_rfl) ?_
     exact ⟨Sv1008,wj s d [1,0] [4,3]⟩
    have h1506:=C7 hc1448 h1492
    obtain ⟨rv1508,h1507,h1506⟩:=O6 h1506
    refine h_c [0,1] [0,2] d rfl rfl (by kernel_rfl) rfl fun hC d=>?_
    refine gn 2 [0,1] [0] s hC rfl rfl rfl fun a s=>?_
    refine ho 2 rfl ?_
    refine cV s d (a0D h1428 d.bdom) (d9 call62 rfl) rfl fun a w s d=>?_
    refine h_n [0,1] [0,2] d rfl rfl fun hC=>?_
    refine gn 2 [3,4] [] s hC rfl rfl rfl fun a s=>?_
    have s:=s.bF 22 rfl h1450
    refine gn 3 [5,6,7] [] s hC rfl rfl rfl fun a s=>?_
    have s:=s.bT 25 rfl h1476
    refine gn 4 [8,9,10,11] [1] s hC rfl rfl rfl fun a s=>?_
    refine gx s 12 rfl ⟨_,rfl,rfl⟩ rfl hC runUnderlying27 sizeOf73 rfl rfl h1481 h1482 fun a s=>?_
    refine gt s 13 rfl ⟨_,rfl,rfl⟩ rfl hC (fun w hC=>j5 (o':=q1484+0) runUnderlying73 rfl sizeOf32 rfl rfl rfl) fun a s=>?_
    refine gt s 14 rfl ⟨_,rfl,rfl⟩ rfl hC (fun w hC=>F8 (j:=0) (hC.ceAt 0 rfl) rfl isAgg32 sizeOf32 rfl rfl) fun a s=>?_
    refine gn 2 [15,16] [0] s hC rfl rfl rfl fun a s=>?_
    refine ho 17 rfl ?_
    refine o8 s (a3L h1490 d.bdom) (d9 call63 rfl) ⟨_,rfl,rfl⟩ rfl rfl ?_
    rintro v1518 Sv1515 w a h1516 rfl s
    have d:=d.callB h1516
    refine h_n [0,1] [0,2] d rfl rfl fun hC=>?_
    refine gt s 18 rfl ⟨_,rfl,rfl⟩ rfl hC (fun w hC=>a7l rfl rfl) fun a s=>?_
    refine gt s 19 rfl ⟨_,rfl,rfl⟩ rfl hC (fun w hC=>a5s (v:=.bool c1475) rfl rfl (vbs h1477)) fun a s=>?_
    refine gF s 20 rfl rfl hC rfl rfl h1460 fun a s=>?_
    refine gm s 21 rfl rfl rfl hC fun a s=>?_
    have s:=s.bF 39 rfl h1492
    refine gn 3 [22,23,24] [0] s hC rfl rfl rfl fun a s=>?_
    refine ho 25 rfl ?_
    refine o8 s (N7 h1507 d.bdom) (d9 call64 rfl) ⟨_,rfl,rfl⟩ rfl rfl ?_
    rintro v1524 Sv1521 w a h1522 rfl s
    have d:=d.callB h1522
    refine h_n [0,1] [0,2] d rfl rfl fun hC=>?_
    refine gt s 26 rfl ⟨_,rfl,rfl⟩ rfl hC (fun w hC=>b0h rfl) fun a s=>?_
    refine gF s 27 rfl rfl hC rfl rfl h1506 fun a s=>?_
    refine y7 (by kernel_rfl) ?_
    exact ⟨Sv1008,wj s d [1,0] [4,3]⟩
   have h1527:=C7 hc1475 h1476
   rcases Bool.eq_false_or_eq_true c1445 with h1528 | h1528
   ·have h1529:=A9 hc1448 h1528
    refine h_c [0,1] [0] d rfl rfl (by kernel_rfl) rfl fun hC d=>?_
    refine gn 2 [0,1] [0] s hC rfl rfl rfl fun a s=>?_
    refine ho 2 rfl ?_
    refine cV s d (a0D h1428 d.bdom) (d9 call62 rfl) rfl fun a w s d=>?_
    refine h_n [0,1] [0] d rfl rfl fun hC=>?_
    refine gn 2 [3,4] [] s hC rfl rfl rfl fun a s=>?_
    have s:=s.bF 22 rfl h1450
    refine gn 3 [5,6,7] [] s hC rfl rfl rfl fun a s=>?_
    have s:=s.bF 25 rfl h1476
    refine gn 11 [8,9,10,11,12,13,14,15,16,17,18] [] s hC rfl rfl rfl fun a s=>?_
    refine gt s 19 rfl ⟨_,rfl,rfl⟩ rfl hC (fun w hC=>a5r (v:=.bool c1475) rfl rfl (vbs h1527)) fun a s=>?_
    refine gF s 20 rfl rfl hC rfl rfl h1460 fun a s=>?_
    refine gm s 21 rfl rfl rfl hC fun a s=>?_
    have s:=s.bT 39 rfl h1528
    refine gn 5 [22,23,24,25,26] [] s hC rfl rfl rfl fun a s=>?_
    refine gT s 27 rfl rfl hC rfl rfl h1529 fun a s=>?_
    refine y7 (by kernel_rfl) ?_
    exact ⟨Sv1008,wj s d [1,0] [2,1]⟩
   have h1536:=C7 hc1448 h1528
   obtain ⟨rv1538,h1537,h1536⟩:=O6 h1536
   refine h_c [0,1] [0] d rfl rfl (by kernel_rfl) rfl fun hC d=>?_
   refine gn 2 [0,1] [0] s hC rfl rfl rfl fun a s=>?_
   refine ho 2 rfl ?_
   refine cV s d (a0D h1428 d.bdom) (d9 call62 rfl) rfl fun a w s d=>?_
   refine h_n [0,1] [0] d rfl rfl fun hC=>?_
   refine gn 2 [3,4] [] s hC rfl rfl rfl fun a s=>?_
   have s:=s.bF 22 rfl h1450
   refine gn 3 [5,6,7] [] s hC rfl rfl rfl fun a s=>?_
   have s:=s.bF 25 rfl h1476
   refine gn 11 [8,9,10,11,12,13,14,15,16,17,18] [] s hC rfl rfl rfl fun a s=>?_
   refine gt s 19 rfl ⟨_,rfl,rfl⟩ rfl hC (fun w hC=>a5r (v:=.bool c1475) rfl rfl (vbs h1527)) fun a s=>?_
   refine gF s 20 rfl rfl hC rfl rfl h1460 fun a s=>?_
   refine gm s 21 rfl rfl rfl hC fun a s=>?_
   have s:=s.bF 39 rfl h1528
   refine gn 3 [22,23,24] [0] s hC rfl rfl rfl fun a s=>?_
   refine ho 25 rfl ?_
   refine o8 s (N7 h1537 d.bdom) (d9 call64 rfl) ⟨_,rfl,rfl⟩ rfl rfl ?_
   rintro v1548 Sv1545 w a h1546 rfl s
   have d:=d.callB h1546
   refine h_n [0,1] [0] d rfl rfl fun hC=>?_
   refine gt s 26 rfl ⟨_,rfl,rfl⟩ rfl hC (fun w hC=>b0h rfl) fun a s=>?_
   refine gF s 27 rfl rfl hC rfl rfl h1536 fun a s=>?_
   refine y7 (by kernel_rfl) ?_
   exact ⟨Sv1008,wj s d [1,0] [2,1]⟩
  rintro a w ⟨Sv1449,s,d⟩
  refine tn (cd s u rfl (fun u=>?_) fun u=>?_)
  ·refine sz0 1 s rfl fun a s=>?_
   obtain rfl:=oi u
   have h1553:=hd1208 _ rfl
   subst h1553
   exact wp_ret (j3 (w9 (j3 (j3 (w9 (j3 (rt s rfl (d.ret rfl))))))))
  refine sk (sz0 1 s rfl fun a s=>?_)
  refine wp_block (u6 (fun sv1709 a w=>∃ Sv1811,Sl 84 [(1,pt b5),(3,iv sv608),(4,pt b1427),(5,iv sv1709)] a∧Wd ⟨w0,S0,[]⟩ Sv1811 [.box b5 [sl (some ⟨b1418,o1419,none⟩) k3 inv1.Channels] 29,.box b1427 (C73 x1412 p1423 k1425) 73] [Sq (some ⟨b1418,o1419,none⟩) k3 inv1.Channels,Sq p1423 k1425 x1412.Epochs] w) 0 u ⟨Sv1449,wj s d [0,1] [0,1]⟩ ?_)
  repeat clear u
  rintro sv1709 a w tv1863 ⟨Sv1811,s,d⟩ u hd1862
  refine wp_seq (sz 5 [1] s d rfl rfl fun a s=>?_)
  refine cd s u rfl (fun u=>?_) fun u=>?_
  ·refine sk (wp_seq (wp_block (wp_seq ?_)))
   obtain ⟨x1917,h1915,u⟩:=bt u
   obtain ⟨b1923,o1924,q1921,c1922,h1925,h1918,h1919,h1920,h1916⟩:=d.elemV 1 rfl h1915
   have hsv1926:=s
   have hwv1927:=d
   subst h1925
   have s:=hsv1926
   have d:=hwv1927
   obtain ⟨_,_,_,_,_,_,_,_,rfl,rfl,rfl,rfl,rfl,rfl,rfl,rfl,⟨p1928,n1929,k1930,rfl,h1931⟩⟩:=h1916
   obtain rfl:=h1931.1
   have d:=(d.addE (e:=SlA p1928 _ k1930 x1917.Response.Stages) h1931).addE h1920
   obtain ⟨rv1933,h1932,u⟩:=bt u
   obtain ⟨c1959,hc1959,u⟩:=bt u
   refine z8 (fun a w=>∃ Sv1960,Sl 84 [(1,pt b5),(3,iv sv608),(4,pt b1427),(5,iv sv1709),(79,.bool c1959)] a∧Wd ⟨w0,S0,[]⟩ Sv1960 [.box b5 [sl (some ⟨b1418,o1419,none⟩) k3 inv1.Channels] 29,.box b1427 (C73 x1412 (some ⟨b1923,o1924,none⟩) k1425) 73] [Sq (some ⟨b1418,o1419,none⟩) k3 inv1.Channels,Sq (some ⟨b1923,o1924,none⟩) k1425 x1412.Epochs] w) ?_ ?_
   ·rcases Bool.eq_false_or_eq_true (!rv1933) with h1961 | h1961
    ·have h1962:=A9 hc1959 h1961
     refine h_c [0,1] [0] d rfl rfl (by kernel_rfl) rfl fun hC d=>?_
     refine gn 3 [0,1,2] [1] s hC rfl rfl rfl fun a s=>?_
     refine gx s 3 rfl trivial rfl hC runUnderlying71 sizeOf41 rfl rfl h1918 h1919 fun a s=>?_
     refine gv s 4 rfl rfl hC (fun w hC=>F8 (j:=0) (hC.ceAt 0 rfl) rfl isAgg41 sizeOf41 rfl rfl) fun a s=>?_
     refine ho 5 rfl ?_
     refine cV s d (a0B h1932 d.bdom (d.bE 1 rfl)) (d9 call65 rfl) rfl fun a w s d=>?_
     refine h_n [0,1] [0] d rfl rfl fun hC=>?_
     refine gn 2 [6,7] [] s hC rfl rfl rfl fun a s=>?_
     have s:=s.bT 60 rfl h1961
     refine gn 18 [8,9,10,11,12,13,14,15,16,17,18,19,20,21,22,23,24,25] [] s hC rfl rfl rfl fun a s=>?_
     refine gT s 26 rfl rfl hC rfl rfl h1962 fun a s=>?_
     refine y7 (by kernel_rfl) ?_
     exact ⟨Sv1811,wj s d [0,1] [2,3]⟩
    have h1969:=C7 hc1959 h1961
    obtain ⟨c1994,hc1994,h1969⟩:=O6 h1969
    rcases Bool.eq_false_or_eq_true (decide (0<sv1709)) with h1995 | h1995
    ·have h1996:=A9 hc1994 h1995
     obtain ⟨x1999,h1997,h1996⟩:=O6 h1996
     obtain ⟨q2003,c2004,h2000,h2001,h2002,h1998⟩:=d.elemK 3 rfl h1997
     obtain ⟨_,_,_,_,_,_,_,_,rfl,rfl,rfl,rfl,rfl,rfl,rfl,rfl,⟨p2005,n2006,k2007,rfl,h2008⟩⟩:=h1998
     obtain rfl:=h2008.1
     have d:=(d.addE (e:=SlA p2005 _ k2007 x1999.Response.Stages) h2008).addE h2002
     obtain ⟨x2011,h2009,h1996⟩:=O6 h1996
     obtain ⟨q2015,c2016,h2012,h2013,h2014,h2010⟩:=d.elemK 5 rfl h2009
     obtain ⟨_,_,_,_,_,_,_,_,rfl,rfl,rfl,rfl,rfl,rfl,rfl,rfl,⟨p2017,n2018,k2019,rfl,h2020⟩⟩:=h2010
     obtain rfl:=h2020.1
     have d:=(d.addE (e:=SlA p2017 _ k2019 x2011.Response.Stages) h2020).addE h2014
     refine h_c [0,1] [0,2,4] d rfl rfl (by kernel_rfl) rfl fun hC d=>?_
     refine gn 3 [0,1,2] [1] s hC rfl rfl rfl fun a s=>?_
     refine gx s 3 rfl trivial rfl hC runUnderlying71 sizeOf41 rfl rfl h1918 h1919 fun a s=>?_
     refine gv s 4 rfl rfl hC (fun w hC=>F8 (j:=0) (hC.ceAt 2 rfl) rfl isAgg41 sizeOf41 rfl rfl) fun a s=>?_
     refine ho 5 rfl ?_
     refine cV s d (a0B h1932 d.bdom (d.bE 5 rfl)) (d9 call65 rfl) rfl fun a w s d=>?_
     refine h_n [0,1] [0,2,4] d rfl rfl fun hC=>?_
     refine gn 2 [6,7] [] s hC rfl rfl rfl fun a s=>?_
     have s:=s.bF 60 rfl h1961
     refine gn 3 [8,9,10] [] s hC rfl rfl rfl fun a s=>?_
     have s:=s.bT 63 rfl h1995
     refine gn 3 [11,12,13] [1] s hC rfl rfl rfl fun a s=>?_
     refine gx s 14 rfl ⟨_,rfl,rfl⟩ rfl hC runUnderlying71 sizeOf41 rfl rfl h2000 h2001 fun a s=>?_
     refine gt s 15 rfl ⟨_,rfl,rfl⟩ rfl hC (fun w hC=>j5 (o':=q2003+0) runUnderlying41 rfl sizeOf3 rfl rfl rfl) fun a s=>?_
     refine gt s 16 rfl ⟨_,rfl,rfl⟩ rfl hC (fun w hC=>E9 (j:=0) (hC.ceAt 1 rfl) rfl isAgg3 rfl) fun a s=>?_
     refine gn 4 [17,18,19,20] [1] s hC rfl rfl rfl fun a s=>?_
     refine gx s 21 rfl ⟨_,rfl,rfl⟩ rfl hC runUnderlying71 sizeOf41 rfl rfl h2012 h2013 fun a s=>?_
     refine gt s 22 rfl ⟨_,rfl,rfl⟩ rfl hC (fun w hC=>j5 (o':=q2015+1) runUnderlying41 rfl sizeOf3 rfl rfl rfl) fun a s=>?_
     refine gt s 23 rfl ⟨_,rfl,rfl⟩ rfl hC (fun w hC=>E9 (j:=1) (hC.ceAt 0 rfl) rfl isAgg3 rfl) fun a s=>?_
     refine gt s 24 rfl ⟨_,rfl,rfl⟩ rfl hC (fun w hC=>b0V rfl rfl) fun a s=>?_
     refine gt s 25 rfl ⟨_,rfl,rfl⟩ rfl hC (fun w hC=>a5s (v:=.bool c1994) rfl rfl (vbs h1996)) fun a s=>?_
     refine gF s 26 rfl rfl hC rfl rfl h1969 fun a s=>?_
     refine y7 (by kernel_rfl) ?_
     exact ⟨Sv1811,wj s d [0,1] [6,7]⟩
    have h2027:=C7 hc1994 h1995
    refine h_c [0,1] [0] d rfl rfl (by kernel_rfl) rfl fun hC d=>?_
    refine gn 3 [0,1,2] [1] s hC rfl rfl rfl fun a s=>?_
    refine gx s 3 rfl trivial rfl hC runUnderlying71 sizeOf41 rfl rfl h1918 h1919 fun a s=>?_
    refine gv s 4 rfl rfl hC (fun w hC=>F8 (j:=0) (hC.ceAt 0 rfl) rfl isAgg41 sizeOf41 rfl rfl) fun a s=>?_
    refine ho 5 rfl ?_
    refine cV s d (a0B h1932 d.bdom (d.bE 1 rfl)) (d9 call65 rfl) rfl fun a w s d=>?_
    refine h_n [0,1] [0] d rfl rfl fun hC=>?_
    refine gn 2 [6,7] [] s hC rfl rfl rfl fun a s=>?_
    have s:=s.bF 60 rfl h1961
    refine gn 3 [8,9,10] [] s hC rfl rfl rfl fun a s=>?_
    have s:=s.bF 63 rfl h1995
    refine gn 14 [11,12,13,14,15,16,17,18,19,20,21,22,23,24] [] s hC rfl rfl rfl fun a s=>?_
    refine gt s 25 rfl ⟨_,rfl,rfl⟩ rfl hC (fun w hC=>a5r (v:=.bool c1994) rfl rfl (vbs h2027)) fun a s=>?_
    refine gF s 26 rfl rfl hC rfl rfl h1969 fun a s=>?_
    refine y7 (by kernel_rfl) ?_
    exact ⟨Sv1811,wj s d [0,1] [2,3]⟩
   rintro a w ⟨Sv1960,s,d⟩
   refine tn (cd s u rfl (fun u=>?_) fun u=>?_)
   ·refine sz0 1 s rfl fun a s=>?_
    obtain rfl:=oi u
    have h2036:=hd1862 _ rfl
    subst h2036
    have h2037:=hd1208 _ rfl
    subst h2037
    exact wp_ret (w9 (j3 (j3 (w9 (w9 (j3 (j3 (w9 (j3 (rt s rfl (d.ret rfl)))))))))))
   refine wp_skip (l7 (tn (wp_region_lit (rn0 2 s rfl fun a s=>?_))))
   obtain ⟨k2039,h2038,u⟩:=bt u
   refine sv s (q8 rfl h2038) rfl fun a s=>?_
   exact nl ⟨_,io u,Sv1960,wj s d [0,1] [0,1]⟩
  obtain ⟨rv2042,u,h2043⟩:=a0q u
  have h2043:=(hd1862 _ h2043.symm).symm
  subst h2043
  refine wp_exit (j4 (j4 (o9 (l7 (tn (wp_region_lit (rn0 2 s rfl fun a s=>?_)))))))
  obtain ⟨i2041,h2040,u⟩:=bt u
  refine sv s (q8 rfl h2040) rfl fun a s=>?_
  exact nl ⟨_,io u,Sv1811,wj s d [0] [0]⟩
 obtain ⟨rv2044,u,h2045⟩:=a0q u
 have h2045:=(hd1208 _ h2045.symm).symm
 subst h2045
 refine wp_exit (j4 (j4 (o9 (tn (sz 5 [0] s d rfl rfl fun a s=>?_)))))
 obtain rfl:=oi u
 exact q1 s rfl (d.ret rfl)
theorem a7E {w0 S0 p2 k3 p6 k7 a1 b5 r} (u:a2D a1 b5=some r) (hS:Dm S0 w0) (h4:(Sq p2 k3 a1.Taps).p S0 w0) (h8:(Sq p6 k7 b5.Taps).p S0 w0):Ck Tryz.prog 116 #[V138 a1 p2 k3,V138 b5 p6 k7] w0 S0 [] l5 r:=by
 refine en 66 func116 rfl hS rfl rfl rfl fun a s d=>?_
 have d:=(d.addE h4).addE h8
 refine sr (wb (a1g a1 p2 k3) s d rfl fun b9 a w s d=>?_)
 refine wb (a1g b5 p6 k7) s d rfl fun b10 a w s d=>?_
 refine rz0 1 s rfl fun a s=>?_
 refine wp_seq (sn 6 [1,0] s d rfl rfl fun a s=>?_)
 refine l9 6 (fun a w1=>w=w1∧Sl 66 [(2,pt b9),(3,pt b10),(17,.bool ((a1.Kind != b5.Kind) || (!((a1.Num.e0 == b5.Num.e0) && ((a1.Num.e1 == b5.Num.e1) && ((a1.Num.e2 == b5.Num.e2) && true))))))] a) ?_ ?_
 ·rcases Bool.eq_false_or_eq_true (a1.Kind != b5.Kind) with h11 | h11
  ·have s:=s.bT 11 rfl h11
   refine rz0 6 s rfl fun a s=>?_
   exact ⟨rfl,(s.fix 17 (.bool ((a1.Kind != b5.Kind) || (!((a1.Num.e0 == b5.Num.e0) && ((a1.Num.e1 == b5.Num.e1) && ((a1.Num.e2 == b5.Num.e2) && true)))))) rfl (or_t h11)).weaken _ ⟨rfl,rfl,rfl,trivial⟩⟩
  have s:=s.bF 11 rfl h11
  refine rn 4 [1,0] s d rfl rfl fun a s=>?_
  refine x9 s (a8S (by kernel_rfl) rfl rfl (a1s runUnderlying136 sizeOf3 (EqA.cons1 isAgg3 rfl rfl (E8 runUnderlying3) (EqA.cons1 isAgg3 rfl rfl (E8 runUnderlying3) (EqA.cons1 isAgg3 rfl rfl (E8 runUnderlying3) EqA.nil))))) ⟨_,rfl,rfl⟩ rfl rfl fun a s=>?_
  refine rz0 1 s rfl fun a s=>?_
  exact ⟨rfl,(s.fix 17 (.bool ((a1.Kind != b5.Kind) || (!((a1.Num.e0 == b5.Num.e0) && ((a1.Num.e1 == b5.Num.e1) && ((a1.Num.e2 == b5.Num.e2) && true)))))) rfl (or_f h11)).weaken _ ⟨rfl,rfl,rfl,trivial⟩⟩
 rintro a w1 ⟨h281,s⟩
 subst h281
 refine mv s rfl rfl fun a s=>?_
 refine l9 6 (fun a w1=>w=w1∧Sl 66 [(2,pt b9),(3,pt b10),(24,.bool (((a1.Kind != b5.Kind) || (!((a1.Num.e0 == b5.Num.e0) && ((a1.Num.e1 == b5.Num.e1) && ((a1.Num.e2 == b5.Num.e2) && true))))) || (!((a1.Den.e0 == b5.Den.e0) && ((a1.Den.e1 == b5.Den.e1) && ((a1.Den.e2 == b5.Den.e2) && true))))))] a) ?_ ?_
 ·rcases Bool.eq_false_or_eq_true ((a1.Kind != b5.Kind) || (!((a1.Num.e0 == b5.Num.e0) && ((a1.Num.e1 == b5.Num.e1) && ((a1.Num.e2 == b5.Num.e2) && true))))) with h12 | h12
  ·have s:=s.bT 18 rfl h12
   refine rz0 6 s rfl fun a s=>?_
   exact ⟨rfl,(s.fix 24 (.bool (((a1.Kind != b5.Kind) || (!((a1.Num.e0 == b5.Num.e0) && ((a1.Num.e1 == b5.Num.e1) && ((a1.Num.e2 == b5.Num.e2) && true))))) || (!((a1.Den.e0 == b5.Den.e0) && ((a1.Den.e1 == b5.Den.e1) && ((a1.Den.e2 == b5.Den.e2) && true)))))) rfl (or_t h12)).weaken _ ⟨rfl,rfl,rfl,trivial⟩⟩
  have s:=s.bF 18 rfl h12
  refine rn 4 [1,0] s d rfl rfl fun a s=>?_
  refine x9 s (a8S (by kernel_rfl) rfl rfl (a1s runUnderlying136 sizeOf3 (EqA.cons1 isAgg3 rfl rfl (E8 runUnderlying3) (EqA.cons1 isAgg3 rfl rfl (E8 runUnderlying3) (EqA.cons1 isAgg3 rfl rfl (E8 runUnderlying3) EqA.nil))))) ⟨_,rfl,rfl⟩ rfl rfl fun a s=>?_
  refine rz0 1 s rfl fun a s=>?_
  exact ⟨rfl,(s.fix 24 (.bool (((a1.Kind != b5.Kind) || (!((a1.Num.e0 == b5.Num.e0) && ((a1.Num.e1 == b5.Num.e1) && ((a1.Num.e2 == b5.Num.e2) && true))))) || (!((a1.Den.e0 == b5.Den.e0) && ((a1.Den.e1 == b5.Den.e1) && ((a1.Den.e2 == b5.Den.e2) && true)))))) rfl (or_f h12)).weaken _ ⟨rfl,rfl,rfl,trivial⟩⟩
 rintro a w1 ⟨h280,s⟩
 subst h280
 refine mv s rfl rfl fun a s=>?_
 refine rO 6 25 [1,0] s d rfl rfl rfl rfl rfl fun a s=>?_
 refine mv s rfl rfl fun a s=>?_
 refine rO 6 32 [1,0] s d rfl rfl rfl rfl rfl fun a s=>?_
 refine mv s rfl rfl fun a s=>?_
 refine rO 8 39 [1,0] s d rfl rfl rfl rfl rfl fun a s=>?_
 refine nl (cd s u rfl (fun u=>?_) fun u=>?_)
 ·refine sz0 1 s rfl fun a s=>?_
  obtain rfl:=oi u
  exact wp_ret (j3 (rt s rfl (d.ret rfl)))
 refine sk (wp_seq (sz0 1 s rfl fun a s=>?_))
 refine wp_block (u6 (fun sv116 a w=>∃ Sv180,Sl 66 [(2,pt b9),(3,pt b10),(5,iv sv116)] a∧Wd ⟨w0,S0,[]⟩ Sv180 [.box b9 (a1g a1 p2 k3) 138,.box b10 (a1g b5 p6 k7) 138] [Sq p2 k3 a1.Taps,Sq p6 k7 b5.Taps] w) 0 u ⟨S0,wj s d [1,0] [1,0]⟩ ?_)
 repeat clear u
 rintro sv116 a w tv213 ⟨Sv180,s,d⟩ u hd212
 refine wp_seq (sz 5 [0] s d rfl rfl fun a s=>?_)
 refine cd s u rfl (fun u=>?_) fun u=>?_
 ·refine sk (wp_seq (wp_block (wp_seq ?_)))
  obtain ⟨x248,h246,u⟩:=bt u
  obtain ⟨b254,o255,q252,c253,h256,h249,h250,h251,h247⟩:=d.elemV 0 rfl h246
  have hsv257:=s
  have hwv258:=d
  subst h256
  have s:=hsv257
  have d:=hwv258
  obtain ⟨_,rfl,rfl⟩:=h247
  have d:=d.addE h251
  obtain ⟨x261,h259,u⟩:=bt u
  obtain ⟨b267,o268,q265,c266,h269,h262,h263,h264,h260⟩:=d.elemV 2 rfl h259
  have hsv270:=s
  have hwv271:=d
  subst h269
  have s:=hsv270
  have d:=hwv271
  obtain ⟨_,rfl,rfl⟩:=h260
  have d:=d.addE h264
  refine z8 (fun a w=>∃ Sv272,Sl 66 [(2,pt b9),(3,pt b10),(5,iv sv116),(65,.bool (x248 != x261))] a∧Wd ⟨w0,S0,[]⟩ Sv272 [.box b9 (a1g a1 (some ⟨b254,o255,none⟩) k3) 138,.box b10 (a1g b5 (some ⟨b267,o268,none⟩) k7) 138] [Sq (some ⟨b254,o255,none⟩) k3 a1.Taps,Sq (some ⟨b267,o268,none⟩) k7 b5.Taps] w) ?_ ?_
  ·refine h_c [0,1] [0,1] d rfl rfl (by kernel_rfl) rfl fun hC d=>?_
   refine gn 3 [0,1,2] [0] s hC rfl rfl rfl fun a s=>?_
   refine gx s 3 rfl trivial rfl hC runUnderlying22 sizeOf3 rfl rfl h249 h250 fun a s=>?_
   refine gv s 4 rfl rfl hC (fun w hC=>E9 (j:=0) (hC.ceAt 1 rfl) rfl isAgg3 rfl) fun a s=>?_
   refine gn 3 [5,6,7] [1] s hC rfl rfl rfl fun a s=>?_
   refine gx s 8 rfl trivial rfl hC runUnderlying22 sizeOf3 rfl rfl h262 h263 fun a s=>?_
   refine gv s 9 rfl rfl hC (fun w hC=>E9 (j:=0) (hC.ceAt 0 rfl) rfl isAgg3 rfl) fun a s=>?_
   refine gv s 10 rfl rfl hC (fun w hC=>y_neq rfl rfl) fun a s=>?_
   refine y7 (by kernel_rfl) ?_
   exact ⟨Sv180,wj s d [0,1] [2,3]⟩
  rintro a w ⟨Sv272,s,d⟩
  refine tn (cd s u rfl (fun u=>?_) fun u=>?_)
  ·refine sz0 1 s rfl fun a s=>?_
   obtain rfl:=oi u
   have h275:=hd212 _ rfl
   subst h275
   exact wp_ret (w9 (j3 (j3 (w9 (j3 (rt s rfl (d.ret rfl)))))))
  refine wp_skip (l7 (tn (wp_region_lit (rn0 2 s rfl fun a s=>?_))))
  obtain ⟨i277,h276,u⟩:=bt u
  refine sv s (q8 rfl h276) rfl fun a s=>?_
  exact nl ⟨_,io u,Sv272,wj s d [0,1] [0,1]⟩
 obtain ⟨rv278,u,h279⟩:=a0q u
 have h279:=(hd212 _ h279.symm).symm
 subst h279
 refine wp_exit (j4 (j4 (o9 (tn (sz0 1 s rfl fun a s=>?_)))))
 obtain rfl:=oi u
 exact q1 s rfl (d.ret rfl)
theorem b0s {w0 S0 p2 k3 p6 k7 a1 b5 r} (u:a5H a1 b5=some r) (hS:Dm S0 w0) (h4:(Sq p2 k3 a1.Stages).p S0 w0) (h8:(Sq p6 k7 b5.Stages).p S0 w0):Ck Tryz.prog 70 #[.agg #[sl p2 k3 a1.Stages],.agg #[sl p6 k7 b5.Stages]] w0 S0 [] l5 r:=by
 refine en 32 func70 rfl hS rfl rfl rfl fun a s d=>?_
 have d:=(d.addE h4).addE h8
 refine sr (wb [sl p2 k3 a1.Stages] s d rfl fun b9 a w s d=>?_)
 refine wb [sl p6 k7 b5.Stages] s d rfl fun b10 a w s d=>?_
 refine rz0 1 s rfl fun a s=>?_
 refine wp_seq (sz 7 [1,0] s d rfl rfl fun a s=>?_)
 refine cd s u rfl (fun u=>?_) fun u=>?_
 ·refine sz0 1 s rfl fun a s=>?_
  obtain rfl:=oi u
  exact wp_ret (j3 (rt s rfl (d.ret rfl)))
 refine sk (wp_seq (sz0 1 s rfl fun a s=>?_))
 refine wp_block (u6 (fun sv141 a w=>∃ Sv225,Sl 32 [(2,pt b9),(3,pt b10),(5,iv sv141)] a∧Wd ⟨w0,S0,[]⟩ Sv225 [.box b9 [sl p2 k3 a1.Stages] 39,.box b10 [sl p6 k7 b5.Stages] 39] [Sq p2 k3 a1.Stages,Sq p6 k7 b5.Stages] w) 0 u ⟨S0,wj s d [1,0] [1,0]⟩ ?_)
 repeat clear u
 rintro sv141 a w tv268 ⟨Sv225,s,d⟩ u hd267
 refine wp_seq (sz 5 [0] s d rfl rfl fun a s=>?_)
 refine cd s u rfl (fun u=>?_) fun u=>?_
 ·refine sk (wp_seq (wp_block (wp_seq ?_)))
  obtain ⟨x313,h311,u⟩:=bt u
  obtain ⟨b319,o320,q317,c318,h321,h314,h315,h316,h312⟩:=d.elemV 0 rfl h311
  have hsv322:=s
  have hwv323:=d
  subst h321
  have s:=hsv322
  have d:=hwv323
  obtain ⟨_,_,_,_,_,_,_,_,_,_,rfl,rfl,rfl,rfl,rfl,rfl,rfl,rfl,⟨p324,n325,k326,rfl,h327⟩,rfl,rfl⟩:=h312
  obtain rfl:=h327.1
  have d:=(d.addE (e:=SlA p324 _ k326 x313.Taps) h327).addE h316
  obtain ⟨x330,h328,u⟩:=bt u
  obtain ⟨b336,o337,q334,c335,h338,h331,h332,h333,h329⟩:=d.elemV 3 rfl h328
  have hsv339:=s
  have hwv340:=d
  subst h338
  have s:=hsv339
  have d:=hwv340
  obtain ⟨_,_,_,_,_,_,_,_,_,_,rfl,rfl,rfl,rfl,rfl,rfl,rfl,rfl,⟨p341,n342,k343,rfl,h344⟩,rfl,rfl⟩:=h329
  obtain rfl:=h344.1
  have d:=(d.addE (e:=SlA p341 _ k343 x330.Taps) h344).addE h333
  obtain ⟨rv346,h345,u⟩:=bt u
  refine z8 (fun a w=>∃ Sv347,Sl 32 [(2,pt b9),(3,pt b10),(5,iv sv141),(31,.bool (!rv346))] a∧Wd ⟨w0,S0,[]⟩ Sv347 [.box b9 [sl (some ⟨b319,o320,none⟩) k3 a1.Stages] 39,.box b10 [sl (some ⟨b336,o337,none⟩) k7 b5.Stages] 39] [Sq (some ⟨b319,o320,none⟩) k3 a1.Stages,Sq (some ⟨b336,o337,none⟩) k7 b5.Stages] w) ?_ ?_
  ·refine h_c [0,1] [0,2] d rfl rfl (by kernel_rfl) rfl fun hC d=>?_
   refine gn 3 [0,1,2] [0] s hC rfl rfl rfl fun a s=>?_
   refine gx s 3 rfl trivial rfl hC runUnderlying37 sizeOf138 rfl rfl h314 h315 fun a s=>?_
   refine gv s 4 rfl rfl hC (fun w hC=>F8 (j:=0) (hC.ceAt 1 rfl) rfl isAgg138 sizeOf138 rfl rfl) fun a s=>?_
   refine gn 3 [5,6,7] [1] s hC rfl rfl rfl fun a s=>?_
   refine gx s 8 rfl trivial rfl hC runUnderlying37 sizeOf138 rfl rfl h331 h332 fun a s=>?_
   refine gv s 9 rfl rfl hC (fun w hC=>F8 (j:=0) (hC.ceAt 0 rfl) rfl isAgg138 sizeOf138 rfl rfl) fun a s=>?_
   refine ho 10 rfl ?_
   refine cV s d (a7E h345 d.bdom (d.bE 3 rfl) (d.bE 1 rfl)) (d9 call116 rfl) rfl fun a w s d=>?_
   refine h_n [0,1] [0,2] d rfl rfl fun hC=>?_
   refine gv s 11 rfl rfl hC (fun w hC=>b0h rfl) fun a s=>?_
   refine y7 (by kernel_rfl) ?_
   exact ⟨Sv225,wj s d [0,1] [4,5]⟩
  rintro a w ⟨Sv347,s,d⟩
  refine tn (cd s u rfl (fun u=>?_) fun u=>?_)
  ·refine sz0 1 s rfl fun a s=>?_
   obtain rfl:=oi u
   have h356:=hd267 _ rfl
   subst h356
   exact wp_ret (w9 (j3 (j3 (w9 (j3 (rt s rfl (d.ret rfl)))))))
  refine wp_skip (l7 (tn (wp_region_lit (rn0 2 s rfl fun a s=>?_))))
  obtain ⟨i358,h357,u⟩:=bt u
  refine sv s (q8 rfl h357) rfl fun a s=>?_
  exact nl ⟨_,io u,Sv347,wj s d [0,1] [0,1]⟩
 obtain ⟨rv359,u,h360⟩:=a0q u
 have h360:=(hd267 _ h360.symm).symm
 subst h360
 refine wp_exit (j4 (j4 (o9 (tn (sz0 1 s rfl fun a s=>?_)))))
 obtain rfl:=oi u
 exact q1 s rfl (d.ret rfl)
theorem a7F {w0 S0 p2 k3 p6 k7 a1 b5 r} (u:a0c a1 b5=some r) (hS:Dm S0 w0) (h4:(Sq p2 k3 a1.Response.Stages).p S0 w0) (h8:(Sq p6 k7 b5.Response.Stages).p S0 w0):Ck Tryz.prog 26 #[V41 a1 p2 k3,V41 b5 p6 k7] w0 S0 [] l5 r:=by
 refine en 38 func26 rfl hS rfl rfl rfl fun a s d=>?_
 have d:=(d.addE h4).addE h8
 refine sr (wb (C41 a1 p2 k3) s d rfl fun b9 a w s d=>?_)
 refine wb (C41 b5 p6 k7) s d rfl fun b10 a w s d=>?_
 refine rz0 1 s rfl fun a s=>?_
 refine sn 6 [1,0] s d rfl rfl fun a s=>?_
 refine rA 6 10 [1,0] s d rfl rfl rfl rfl rfl fun a s=>?_
 refine mv s rfl rfl fun a s=>?_
 refine l9 6 (fun a w1=>w=w1∧Sl 38 [(2,pt b9),(3,pt b10),(23,.bool (((a1.From == b5.From) && (a1.To == b5.To)) && ((a1.Rate.Num == b5.Rate.Num) && ((a1.Rate.Den == b5.Rate.Den) && true))))] a) ?_ ?_
 ·rcases Bool.eq_false_or_eq_true ((a1.From == b5.From) && (a1.To == b5.To)) with h12 | h12
  ·have s:=s.bT 17 rfl h12
   refine rn 4 [1,0] s d rfl rfl fun a s=>?_
   refine x9 s (a1f (by kernel_rfl) rfl rfl (P8 runUnderlying34 (by kernel_rfl) (EqF.cons1 rfl isAgg3 rfl rfl (E8 runUnderlying3) (EqF.cons1 rfl isAgg3 rfl rfl (E8 runUnderlying3) EqF.nil)))) ⟨_,rfl,rfl⟩ rfl rfl fun a s=>?_
   refine rz0 1 s rfl fun a s=>?_
   exact ⟨rfl,(s.fix 23 (.bool (((a1.From == b5.From) && (a1.To == b5.To)) && ((a1.Rate.Num == b5.Rate.Num) && ((a1.Rate.Den == b5.Rate.Den) && true)))) rfl (a2P h12)).weaken _ ⟨rfl,rfl,rfl,trivial⟩⟩
  have s:=s.bF 17 rfl h12
  refine rz0 6 s rfl fun a s=>?_
  exact ⟨rfl,(s.fix 23 (.bool (((a1.From == b5.From) && (a1.To == b5.To)) && ((a1.Rate.Num == b5.Rate.Num) && ((a1.Rate.Den == b5.Rate.Den) && true)))) rfl (a2O h12)).weaken _ ⟨rfl,rfl,rfl,trivial⟩⟩
 rintro a w1 ⟨h34,s⟩
 subst h34
 refine mv s rfl rfl fun a s=>?_
 refine l9 6 (fun a w1=>w=w1∧Sl 38 [(2,pt b9),(3,pt b10),(30,.bool ((((a1.From == b5.From) && (a1.To == b5.To)) && ((a1.Rate.Num == b5.Rate.Num) && ((a1.Rate.Den == b5.Rate.Den) && true))) && ((a1.Position.X == b5.Position.X) && ((a1.Position.Y == b5.Position.Y) && ((a1.Position.Z == b5.Position.Z) && true)))))] a) ?_ ?_
 ·rcases Bool.eq_false_or_eq_true (((a1.From == b5.From) && (a1.To == b5.To)) && ((a1.Rate.Num == b5.Rate.Num) && ((a1.Rate.Den == b5.Rate.Den) && true))) with h13 | h13
  ·have s:=s.bT 24 rfl h13
   refine rn 4 [1,0] s d rfl rfl fun a s=>?_
   refine x9 s (a1f (by kernel_rfl) rfl rfl (P8 runUnderlying36 (by kernel_rfl) (EqF.cons1 rfl isAgg3 rfl rfl (E8 runUnderlying3) (EqF.cons1 rfl isAgg3 rfl rfl (E8 runUnderlying3) (EqF.cons1 rfl isAgg3 rfl rfl (E8 runUnderlying3) EqF.nil))))) ⟨_,rfl,rfl⟩ rfl rfl fun a s=>?_
   refine rz0 1 s rfl fun a s=>?_
   exact ⟨rfl,(s.fix 30 (.bool ((((a1.From == b5.From) && (a1.To == b5.To)) && ((a1.Rate.Num == b5.Rate.Num) && ((a1.Rate.Den == b5.Rate.Den) && true))) && ((a1.Position.X == b5.Position.X) && ((a1.Position.Y == b5.Position.Y) && ((a1.Position.Z == b5.Position.Z) && true))))) rfl (a2P h13)).weaken _ ⟨rfl,rfl,rfl,trivial⟩⟩
  have s:=s.bF 24 rfl h13
  refine rz0 6 s rfl fun a s=>?_
  exact ⟨rfl,(s.fix 30 (.bool ((((a1.From == b5.From) && (a1.To == b5.To)) && ((a1.Rate.Num == b5.Rate.Num) && ((a1.Rate.Den == b5.Rate.Den) && true))) && ((a1.Position.X == b5.Position.X) && ((a1.Position.Y == b5.Position.Y) && ((a1.Position.Z == b5.Position.Z) && true))))) rfl (a2O h13)).weaken _ ⟨rfl,rfl,rfl,trivial⟩⟩
 rintro a w1 ⟨h33,s⟩
 subst h33
 refine mv s rfl rfl fun a s=>?_
 obtain ⟨c23,hc23,u⟩:=bt u
 refine l9 6 (fun a w=>∃ Sv24,Sl 38 [(37,.bool c23)] a∧Wd ⟨w0,S0,[]⟩ Sv24 [] [] w) ?_ ?_
 ·rcases Bool.eq_false_or_eq_true ((((a1.From == b5.From) && (a1.To == b5.To)) && ((a1.Rate.Num == b5.Rate.Num) && ((a1.Rate.Den == b5.Rate.Den) && true))) && ((a1.Position.X == b5.Position.X) && ((a1.Position.Y == b5.Position.Y) && ((a1.Position.Z == b5.Position.Z) && true)))) with h22 | h22
  ·have s:=s.bT 31 rfl h22
   have u:=A9 hc23 h22
   refine rn 4 [1,0] s d rfl rfl fun a s=>?_
   obtain ⟨rv26,h25,u⟩:=bt u
   refine o8 s (b0s h25 d.bdom (d.bE 1 rfl) (d.bE 0 rfl)) (d9 call70 rfl) ⟨_,rfl,rfl⟩ rfl rfl ?_
   rintro v30 Sv27 w a h28 rfl s
   have d:=d.callB h28
   refine sv s (F9 rfl rfl) rfl fun a s=>?_
   refine wpList_nil ?_
   obtain rfl:=oi u
   exact tn ⟨S0,wj s d [] []⟩
  have s:=s.bF 31 rfl h22
  have u:=C7 hc23 h22
  refine rn0 6 s rfl fun a s=>?_
  refine wpList_nil ?_
  obtain rfl:=oi u
  exact tn ⟨S0,wj s d [] []⟩
 rintro a w ⟨Sv24,s,d⟩
 refine rz0 1 s rfl fun a s=>?_
 obtain rfl:=oi u
 exact q1 s rfl (d.ret rfl)
theorem b0w {w0 S0 p2 k3 e1 r} (u:a5K e1=some r) (hS:Dm S0 w0) (h4:(Sq p2 k3 e1.Response.Stages).p S0 w0):Ck Tryz.prog 117 #[V41 e1 p2 k3] w0 S0 [] l5 r:=by
 refine en 6 func117 rfl hS rfl rfl rfl fun a s d=>?_
 have d:=d.addE h4
 refine sr (wb (C41 e1 p2 k3) s d rfl fun b5 a w s d=>?_)
 refine rz0 1 s rfl fun a s=>?_
 refine sn 1 [0] s d rfl rfl fun a s=>?_
 refine sv s (A7 (vs:=[]) b0y rfl rfl) rfl fun a s=>?_
 obtain ⟨rv7,h6,u⟩:=bt u
 have d:=d.addE (e:=SlA (α:=Stage) none 0 0 []) O7
 refine cV s d (a7F h6 d.bdom (d.bE 1 rfl) (d.bE 0 rfl)) (d9 call26 rfl) rfl fun a w s d=>?_
 refine rz0 1 s rfl fun a s=>?_
 obtain rfl:=oi u
 exact q1 s rfl (d.ret rfl)
theorem b0v {w0 S0 p2 k3 p6 k7 inv1 c5 r} (u:a5J inv1 c5=some r) (hS:Dm S0 w0) (h4:(Sq p2 k3 inv1.Channels).p S0 w0) (h8:(Sq p6 k7 c5.Epoch.Response.Stages).p S0 w0):Ck Tryz.prog 72 #[.agg #[sl p2 k3 inv1.Channels],V43 c5 p6 k7] w0 S0 [] l5 r:=by
 refine en 42 func72 rfl hS rfl rfl rfl fun a s d=>?_
 have d:=(d.addE h4).addE h8
 refine sr (wb [sl p2 k3 inv1.Channels] s d rfl fun b9 a w s d=>?_)
 refine wb (C43 c5 p6 k7) s d rfl fun b10 a w s d=>?_
 refine rz0 1 s rfl fun a s=>?_
 refine wp_seq (sn 1 [1] s d rfl rfl fun a s=>?_)
 obtain ⟨rv12,h11,u⟩:=bt u
 refine cV s d (a4A h11 d.bdom (d.bE 1 rfl)) (d9 call18 rfl) rfl fun a w s d=>?_
 refine rn0 2 s rfl fun a s=>?_
 obtain ⟨c28,hc28,u⟩:=bt u
 refine l9 5 (fun a w=>∃ Sv29,Sl 42 [(3,pt b10),(13,.bool c28)] a∧Wd ⟨w0,S0,[]⟩ Sv29 [.box b10 (C43 c5 p6 k7) 43] [Sq p6 k7 c5.Epoch.Response.Stages] w) ?_ ?_
 ·rcases Bool.eq_false_or_eq_true (!rv12) with h27 | h27
  ·have s:=s.bT 8 rfl h27
   have u:=A9 hc28 h27
   refine rn0 5 s rfl fun a s=>?_
   refine wpList_nil ?_
   obtain rfl:=oi u
   exact tn ⟨S0,wj s d [0] [0]⟩
  have s:=s.bF 8 rfl h27
  have u:=C7 hc28 h27
  refine rn 2 [0] s d rfl rfl fun a s=>?_
  obtain ⟨rv31,h30,u⟩:=bt u
  refine o8 s (N7 h30 d.bdom) (d9 call64 rfl) ⟨_,rfl,rfl⟩ rfl rfl ?_
  rintro v35 Sv32 w a h33 rfl s
  have d:=d.callB h33
  refine rn0 2 s rfl fun a s=>?_
  refine wpList_nil ?_
  obtain rfl:=oi u
  exact tn ⟨S0,wj s d [0] [0]⟩
 rintro a w ⟨Sv29,s,d⟩
 refine mv s rfl rfl fun a s=>?_
 obtain ⟨c47,hc47,u⟩:=bt u
 refine l9 5 (fun a w=>∃ Sv48,Sl 42 [(3,pt b10),(19,.bool c47)] a∧Wd ⟨w0,S0,[]⟩ Sv48 [.box b10 (C43 c5 p6 k7) 43] [Sq p6 k7 c5.Epoch.Response.Stages] w) ?_ ?_
 ·rcases Bool.eq_false_or_eq_true c28 with h46 | h46
  ·have s:=s.bT 14 rfl h46
   have u:=A9 hc47 h46
   refine rn0 5 s rfl fun a s=>?_
   refine wpList_nil ?_
   obtain rfl:=oi u
   exact tn ⟨Sv29,wj s d [0] [0]⟩
  have s:=s.bF 14 rfl h46
  have u:=C7 hc47 h46
  refine rn 2 [0] s d rfl rfl fun a s=>?_
  obtain ⟨rv50,h49,u⟩:=bt u
  refine o8 s (a0D h49 d.bdom) (d9 call62 rfl) ⟨_,rfl,rfl⟩ rfl rfl ?_
  rintro v54 Sv51 w a h52 rfl s
  have d:=d.callB h52
  refine rn0 2 s rfl fun a s=>?_
  refine wpList_nil ?_
  obtain rfl:=oi u
  exact tn ⟨Sv29,wj s d [0] [0]⟩
 rintro a w ⟨Sv48,s,d⟩
 refine nl (cd s u rfl (fun u=>?_) fun u=>?_)
 ·refine sz0 1 s rfl fun a s=>?_
  obtain rfl:=oi u
  exact wp_ret (j3 (rt s rfl (d.ret rfl)))
 refine sk (wp_seq (sz 3 [0] s d rfl rfl fun a s=>?_))
 refine cd s u rfl (fun u=>?_) fun u=>?_
 ·refine sn 2 [0] s d rfl rfl fun a s=>?_
  obtain ⟨rv70,h69,u⟩:=bt u
  refine cV s d (b0w h69 d.bdom (d.bE 0 rfl)) (d9 call117 rfl) rfl fun a w s d=>?_
  refine rz0 1 s rfl fun a s=>?_
  obtain rfl:=oi u
  exact wp_ret (j3 (rt s rfl (d.ret rfl)))
 refine sk (sn 2 [0] s d rfl rfl fun a s=>?_)
 obtain ⟨rv78,h77,u⟩:=bt u
 refine cV s d (a0B h77 d.bdom (d.bE 0 rfl)) (d9 call65 rfl) rfl fun a w s d=>?_
 refine mv s rfl rfl fun a s=>?_
 refine l9 12 (fun a w1=>w=w1∧Sl 42 [(41,.bool (rv78 && ((c5.Kind == 2) || (c5.From == c5.Epoch.From))))] a) ?_ ?_
 ·rcases Bool.eq_false_or_eq_true rv78 with h86 | h86
  ·have s:=s.bT 29 rfl h86
   refine rn 4 [0] s d rfl rfl fun a s=>?_
   refine rO 7 33 [0,0] s d rfl rfl rfl rfl rfl fun a s=>?_
   refine rz0 1 s rfl fun a s=>?_
   exact ⟨rfl,(s.fix 41 (.bool (rv78 && ((c5.Kind == 2) || (c5.From == c5.Epoch.From)))) rfl (a2P h86)).weaken _ ⟨rfl,trivial⟩⟩
  have s:=s.bF 29 rfl h86
  refine rz0 12 s rfl fun a s=>?_
  exact ⟨rfl,(s.fix 41 (.bool (rv78 && ((c5.Kind == 2) || (c5.From == c5.Epoch.From)))) rfl (a2O h86)).weaken _ ⟨rfl,trivial⟩⟩
 rintro a w1 ⟨h89,s⟩
 subst h89
 refine rz0 1 s rfl fun a s=>?_
 obtain rfl:=oi u
 exact q1 s rfl (d.ret rfl)
abbrev a9o:List Value:=[.slice none ([]:List Channel).length 0]
theorem a7i {w0 S0 p2 k3 inv1 r} (u:a4z inv1=some r) (hS:Dm S0 w0) (h4:(Sq p2 k3 inv1.Channels).p S0 w0):Ck Tryz.prog 73 #[.agg #[sl p2 k3 inv1.Channels]] w0 S0 [] a4J r:=by
 refine en 54 func73 rfl hS rfl rfl rfl fun a s d=>?_
 have d:=d.addE h4
 refine sr (wb [sl p2 k3 inv1.Channels] s d rfl fun b5 a w s d=>?_)
 refine wa a9o s d zeroValue29 fun b6 a w s d=>?_
 refine nl (sr (wa a9o s d zeroValue29 fun b7 a w s d=>?_))
 refine nl (wp_seq (sz0 1 s rfl fun a s=>?_))
 obtain ⟨e680,h1264,u⟩:=bt u
 refine u7 (fun a w=>∃ c681 p682 k683 Sv684,Sl 54 [(2,pt b6),(3,pt b7)] a∧Wd ⟨w0,S0,[]⟩ Sv684 [.box b6 a9o 29,.box b7 [sl p682 k683 e680] 29,.row p682 e680.length k683 c681 73 5] [Sq none 0 ([]:List Channel),j6 c681 e680] w) ?_ ?_
 ·refine wp_block ?_
  have d:=(d.nilRow Channel 73).addE (e:=SlA (α:=Channel) none 0 0 []) O7
  refine u6 (fun sv8 a w=>∃ c453 p454 k455 Sv456,Sl 54 [(1,pt b5),(2,pt b6),(3,pt b7),(4,iv sv8.2)] a∧Wd ⟨w0,S0,[]⟩ Sv456 [.box b5 [sl p2 k3 inv1.Channels] 29,.box b6 a9o 29,.box b7 [sl p454 k455 sv8.1] 29,.row p454 sv8.1.length k455 c453 73 5] [Sq p2 k3 inv1.Channels,Sq none 0 ([]:List Channel),j6 c453 sv8.1] w) (([]:List Channel),0) h1264 ⟨[],none,0,S0,wj s d [3,2,1,0] [2,0,1]⟩ ?_
  clear h1264
  repeat clear u
  rintro sv8 a w tv678 ⟨c453,p454,k455,Sv456,s,d⟩ u hd677
  refine wp_seq (sz 5 [0] s d rfl rfl fun a s=>?_)
  refine cd s u rfl (fun u=>?_) fun u=>?_
  ·refine sk (wp_seq (wp_block (sn 3 [0] s d rfl rfl fun a s=>?_)))
   obtain ⟨x906,h904,u⟩:=bt u
   obtain ⟨b912,o913,q910,c911,h914,h907,h908,h909,h905⟩:=d.elemV 0 rfl h904
   have hsv915:=s
   have hwv916:=d
   subst h914
   have s:=hsv915
   have d:=hwv916
   obtain ⟨_,_,_,_,_,rfl,rfl,rfl,rfl,rfl,⟨p917,n918,k919,rfl,h920⟩⟩:=h905
   obtain rfl:=h920.1
   have d:=(d.addE (e:=SlA p917 _ k919 x906.Epochs) h920).addE h909
   refine sv s (o6 runUnderlying27 sizeOf73 rfl rfl h907.1 h907.2 h908) rfl fun a s=>?_
   refine sv s (j5 (o':=q910+0) runUnderlying73 rfl sizeOf32 rfl rfl rfl) rfl fun a s=>?_
   refine sv s (F8 (j:=0) (d.ceAt 0 rfl) rfl isAgg32 sizeOf32 rfl rfl) rfl fun a s=>?_
   refine sv s (A7 (vs:=[(0,V32 x906.Source)]) b0z rfl rfl) rfl fun a s=>?_
   refine wa Z2 s d zeroValue73 fun b921 a w s d=>?_
   refine ws (C73 ⟨x906.Source,([]:List Epoch)⟩ none 0) s d 0 rfl rfl rfl sizeOf73 fun a w s d=>?_
   refine nl (wp_seq (sz0 1 s rfl fun a s=>?_))
   obtain ⟨e1108,h1262,u⟩:=bt u
   refine u7 (fun a w=>∃ c1109 p1110 k1111 Sv1112,Sl 54 [(1,pt b5),(2,pt b6),(3,pt b7),(4,iv sv8.2),(5,pt b921)] a∧Wd ⟨w0,S0,[]⟩ Sv1112 [.box b5 [sl (some ⟨b912,o913,none⟩) k3 inv1.Channels] 29,.box b6 a9o 29,.box b7 [sl p454 k455 sv8.1] 29,.box b921 (C73 ⟨x906.Source,e1108⟩ p1110 k1111) 73,.row p454 sv8.1.length k455 c453 73 5,.row p1110 e1108.length k1111 c1109 41 8] [Sq (some ⟨b912,o913,none⟩) k3 inv1.Channels,Sq none 0 ([]:List Channel),j6 c453 sv8.1,j6 c1109 e1108] w) ?_ ?_
   ·refine wp_block ?_
    have d:=d.nilRow Epoch 41
    refine u6 (fun sv922 a w=>∃ c1043 p1044 k1045 Sv1046,Sl 54 [(1,pt b5),(2,pt b6),(3,pt b7),(4,iv sv8.2),(5,pt b921),(6,iv sv922.2)] a∧Wd ⟨w0,S0,[]⟩ Sv1046 [.box b5 [sl (some ⟨b912,o913,none⟩) k3 inv1.Channels] 29,.box b6 a9o 29,.box b7 [sl p454 k455 sv8.1] 29,.box b921 (C73 ⟨x906.Source,sv922.1⟩ p1044 k1045) 73,.row p454 sv8.1.length k455 c453 73 5,.row p1044 sv922.1.length k1045 c1043 41 8] [Sq (some ⟨b912,o913,none⟩) k3 inv1.Channels,Sq none 0 ([]:List Channel),j6 c453 sv8.1,j6 c1043 sv922.1] w) (([]:List Epoch),0) h1262 ⟨[],none,0,Sv456,wj s d [2,3,4,1,5,0] [3,4,5,0]⟩ ?_
    clear h1262
    repeat clear u
    rintro sv922 a w tv1106 ⟨c1043,p1044,k1045,Sv1046,s,d⟩ u hd1105
    refine wp_seq (sn 4 [0] s d rfl rfl fun a s=>?_)
    obtain ⟨x1115,h1113,u⟩:=bt u
    obtain ⟨q1119,c1120,h1116,h1117,h1118,h1114⟩:=d.elemK 0 rfl h1113
    obtain ⟨_,_,_,_,_,rfl,rfl,rfl,rfl,rfl,⟨p1121,n1122,k1123,rfl,h1124⟩⟩:=h1114
    obtain rfl:=h1124.1
    have d:=(d.addE (e:=SlA p1121 _ k1123 x1115.Epochs) h1124).addE h1118
    refine sv s (o6 runUnderlying27 sizeOf73 rfl rfl h1116.1 h1116.2 h1117) rfl fun a s=>?_
    refine sv s (j5 (o':=q1119+4) runUnderlying73 rfl sizeOf71 rfl rfl rfl) rfl fun a s=>?_
    refine sv s (E9 (j:=4) (d.ceAt 0 rfl) rfl isAgg71 rfl) rfl fun a s=>?_
    refine rz0 2 s rfl fun a s=>?_
    refine cd s u rfl (fun u=>?_) fun u=>?_
    ·refine sk (wp_seq (wp_block ?_))
     obtain ⟨x1172,h1170,u⟩:=bt u
     obtain ⟨q1176,c1177,h1173,h1174,h1175,h1171⟩:=d.elemK 2 rfl h1170
     obtain ⟨_,_,_,_,_,rfl,rfl,rfl,rfl,rfl,⟨p1178,n1179,k1180,rfl,h1181⟩⟩:=h1171
     obtain rfl:=h1181.1
     have d:=(d.addE (e:=SlA p1178 _ k1180 x1172.Epochs) h1181).addE h1175
     obtain ⟨x1184,h1182,u⟩:=bt u
     obtain ⟨b1190,o1191,q1188,c1189,h1192,h1185,h1186,h1187,h1183⟩:=d.elemV 1 rfl h1182
     have hsv1193:=s
     have hwv1194:=d
     subst h1192
     have s:=hsv1193
     have d:=hwv1194
     obtain ⟨_,_,_,_,_,_,_,_,rfl,rfl,rfl,rfl,rfl,rfl,rfl,rfl,⟨p1195,n1196,k1197,rfl,h1198⟩⟩:=h1183
     obtain rfl:=h1198.1
     have d:=(d.addE (e:=SlA p1195 _ k1197 x1184.Response.Stages) h1198).addE h1187
     obtain ⟨rv1200,h1199,u⟩:=bt u
     obtain ⟨l1208,h1207,u⟩:=bt u
     refine z8 (fun a w=>∃ Sv1212 c1211 k1210 p1209,Sl 54 [(1,pt b5),(2,pt b6),(3,pt b7),(4,iv sv8.2),(5,pt b921),(6,iv sv922.2)] a∧Wd ⟨w0,S0,[]⟩ Sv1212 [.box b5 [sl (some ⟨b912,o913,none⟩) k3 inv1.Channels] 29,.box b6 a9o 29,.box b7 [sl p454 k455 sv8.1] 29,.box b921 (C73 ⟨x906.Source,l1208⟩ p1209 k1210) 73,.row p454 sv8.1.length k455 c453 73 5,.row p1209 l1208.length k1210 c1211 41 8] [Sq (some ⟨b912,o913,none⟩) k3 inv1.Channels,Sq none 0 ([]:List Channel),j6 c453 sv8.1,j6 c1211 l1208] w) ?_ ?_
     ·refine h_c [0,1,2,4] [0,2,4] d rfl rfl (by kernel_rfl) rfl fun hC d=>?_
      refine gn 4 [0,2,3,4] [0] s hC rfl rfl rfl fun a s=>?_
      refine gx s 5 rfl trivial rfl hC runUnderlying27 sizeOf73 rfl rfl h1173 h1174 fun a s=>?_
      refine gv s 6 rfl rfl hC (fun w hC=>j5 (o':=q1176+4) runUnderlying73 rfl sizeOf71 rfl rfl rfl) fun a s=>?_
      refine gv s 7 rfl rfl hC (fun w hC=>E9 (j:=4) (hC.ceAt 1 rfl) rfl isAgg71 rfl) fun a s=>?_
      refine gm s 8 rfl rfl rfl hC fun a s=>?_
      refine gx s 9 rfl trivial rfl hC runUnderlying71 sizeOf41 rfl rfl h1185 h1186 fun a s=>?_
      refine gv s 10 rfl rfl hC (fun w hC=>F8 (j:=0) (hC.ceAt 0 rfl) rfl isAgg41 sizeOf41 rfl rfl) fun a s=>?_
      refine a7h (rs:=[1,11]) (by kernel_rfl) rfl ?_
      refine a1I.cons rfl ?_ ?_
      ·refine sv s (U5 (d.ownAt 3 rfl) rfl isAgg71 rfl) rfl fun a s=>?_
       refine h_n [0,1,2,4] [0,2,4] d rfl rfl fun hC=>?_
       refine ho 11 rfl ?_
       refine cR s (a0U h1199 d.dom (d.envAt 1 rfl)) (d9 call45 rfl) rfl ?_
       rintro v1216 Sv1213 w a h1214 ⟨p1201,k1202,c1204,rfl,h1217,h1203⟩ s
       have d:=(d.callN h1214 h1217).addE (e:=j6 c1204 rv1200.Response.Stages) h1203
       refine h_n [1,2,3,5] [1,3,5] d rfl rfl fun hC=>?_
       refine ho 12 rfl ?_
       obtain ⟨Sv1219,d⟩:=F4 (α:=Stage) d 0 rfl 0 rfl
       refine x8 (α:=Epoch) (vs:=[V41 rv1200 p1201 k1202]) (cs:=(C41 rv1200 p1201 k1202)) (xs:=([rv1200]:List Epoch)) s d a5h rfl rfl rfl rfl rfl rfl ⟨⟨_,_,_,_,_,_,_,_,rfl,rfl,rfl,rfl,rfl,rfl,rfl,rfl,⟨_,_,_,rfl,d.envAt 0 rfl⟩⟩,rfl⟩ rfl trivial rfl fun b1206 a w s d=>?_
       refine h_n [1,2,3,5] [3,5,7] d rfl rfl fun hC=>?_
       refine h_d [1,2,3,5,0] [3,5,7] [0,1,2,3] [0,1,2] d rfl rfl rfl rfl fun hC=>?_
       refine ho 13 rfl ?_
       refine I1 (α:=Epoch) s d a5h 6 rfl rfl rfl 12 rfl 0 rfl 0 rfl h1207 rfl trivial ?_
       intro p1209 k1210 c1211 a w s d
       refine h_n [1,2,3,5,0] [4,6,8] d rfl rfl fun hC=>?_
       refine gv s 14 rfl rfl hC (fun w hC=>j5 (o':=4) runUnderlying73 rfl sizeOf71 rfl rfl rfl) fun a s=>?_
       refine ho 15 rfl ?_
       refine ws (C73 ⟨x906.Source,l1208⟩ p1209 k1210) s d 4 rfl rfl rfl sizeOf71 fun a w s d=>?_
       refine h_n [1,2,3,5,0] [4,6,8] d rfl rfl fun hC=>?_
       refine y7 (by kernel_rfl) ?_
       exact ⟨Sv1219,c1211,k1210,p1209,wj s d [1,2,3,4,5,6] [10,11,12,0]⟩
      refine a1I.cons rfl ?_ ?_
      ·refine cR s (a0U h1199 d.dom (d.envAt 1 rfl)) (d9 call45 rfl) rfl ?_
       rintro v1223 Sv1220 w a h1221 ⟨p1201,k1202,c1204,rfl,h1224,h1203⟩ s
       have d:=(d.callN h1221 h1224).addE (e:=j6 c1204 rv1200.Response.Stages) h1203
       refine h_n [1,2,3,5] [1,3,5] d rfl rfl fun hC=>?_
       refine a7h (rs:=[1,12]) (by kernel_rfl) rfl ?_
       refine a1I.cons rfl ?_ ?_
       ·refine sv s (U5 (d.ownAt 4 rfl) rfl isAgg71 rfl) rfl fun a s=>?_
        refine h_n [1,2,3,5] [1,3,5] d rfl rfl fun hC=>?_
        refine ho 12 rfl ?_
        obtain ⟨Sv1226,d⟩:=F4 (α:=Stage) d 0 rfl 0 rfl
        refine x8 (α:=Epoch) (vs:=[V41 rv1200 p1201 k1202]) (cs:=(C41 rv1200 p1201 k1202)) (xs:=([rv1200]:List Epoch)) s d a5h rfl rfl rfl rfl rfl rfl ⟨⟨_,_,_,_,_,_,_,_,rfl,rfl,rfl,rfl,rfl,rfl,rfl,rfl,⟨_,_,_,rfl,d.envAt 0 rfl⟩⟩,rfl⟩ rfl trivial rfl fun b1206 a w s d=>?_
        refine h_n [1,2,3,5] [3,5,7] d rfl rfl fun hC=>?_
        refine h_d [1,2,3,5,0] [3,5,7] [0,1,2,3] [0,1,2] d rfl rfl rfl rfl fun hC=>?_
        refine ho 13 rfl ?_
        refine I1 (α:=Epoch) s d a5h 6 rfl rfl rfl 12 rfl 0 rfl 0 rfl h1207 rfl trivial ?_
        intro p1209 k1210 c1211 a w s d
        refine h_n [1,2,3,5,0] [4,6,8] d rfl rfl fun hC=>?_
        refine gv s 14 rfl rfl hC (fun w hC=>j5 (o':=4) runUnderlying73 rfl sizeOf71 rfl rfl rfl) fun a s=>?_
        refine ho 15 rfl ?_
        refine ws (C73 ⟨x906.Source,l1208⟩ p1209 k1210) s d 4 rfl rfl rfl sizeOf71 fun a w s d=>?_
        refine h_n [1,2,3,5,0] [4,6,8] d rfl rfl fun hC=>?_
        refine y7 (by kernel_rfl) ?_
        exact ⟨Sv1226,c1211,k1210,p1209,wj s d [1,2,3,4,5,6] [10,11,12,0]⟩
       refine a1I.cons rfl ?_ ?_
       ·obtain ⟨Sv1227,d⟩:=F4 (α:=Stage) d 0 rfl 0 rfl
        refine x8 (α:=Epoch) (vs:=[V41 rv1200 p1201 k1202]) (cs:=(C41 rv1200 p1201 k1202)) (xs:=([rv1200]:List Epoch)) s d a5h rfl rfl rfl rfl rfl rfl ⟨⟨_,_,_,_,_,_,_,_,rfl,rfl,rfl,rfl,rfl,rfl,rfl,rfl,⟨_,_,_,rfl,d.envAt 0 rfl⟩⟩,rfl⟩ rfl trivial rfl fun b1206 a w s d=>?_
        refine h_n [1,2,3,5] [3,5,7] d rfl rfl fun hC=>?_
        refine h_d [1,2,3,5,0] [3,5,7] [0,1,2,3] [0,1,2] d rfl rfl rfl rfl fun hC=>?_
        refine ho 1 rfl ?_
        refine sv s (U5 (d.ownAt 4 rfl) rfl isAgg71 rfl) rfl fun a s=>?_
        refine h_n [1,2,3,5,0] [3,5,7] d rfl rfl fun hC=>?_
        refine ho 13 rfl ?_
        refine I1 (α:=Epoch) s d a5h 6 rfl rfl rfl 12 rfl 0 rfl 0 rfl h1207 rfl trivial ?_
        intro p1209 k1210 c1211 a w s d
        refine h_n [1,2,3,5,0] [4,6,8] d rfl rfl fun hC=>?_
        refine gv s 14 rfl rfl hC (fun w hC=>j5 (o':=4) runUnderlying73 rfl sizeOf71 rfl rfl rfl) fun a s=>?_
        refine ho 15 rfl ?_
        refine ws (C73 ⟨x906.Source,l1208⟩ p1209 k1210) s d 4 rfl rfl rfl sizeOf71 fun a w s d=>?_
        refine h_n [1,2,3,5,0] [4,6,8] d rfl rfl fun hC=>?_
        refine y7 (by kernel_rfl) ?_
        exact ⟨Sv1227,c1211,k1210,p1209,wj s d [1,2,3,4,5,6] [10,11,12,0]⟩
       exact a1I.nil
      exact a1I.nil
     rintro a w ⟨Sv1212,c1211,k1210,p1209,s,d⟩
     refine l7 (tn (wp_region_lit (rn0 2 s rfl fun a s=>?_)))
     obtain ⟨k1250,h1249,u⟩:=bt u
     refine sv s (q8 rfl h1249) rfl fun a s=>?_
     exact nl ⟨_,io u,c1211,p1209,k1210,Sv1212,wj s d [0,1,2,3,4,5] [0,1,2,3]⟩
    refine wp_exit (j4 (j4 (o9 ?_)))
    obtain rfl:=oi u
    have h1251:=hd1105 _ rfl
    subst h1251
    exact tn ⟨c1043,p1044,k1045,Sv1046,wj s d [0,1,2,3,4,5] [2,3,4,5]⟩
   rintro a w ⟨c1109,p1110,k1111,Sv1112,s,d⟩
   refine tn (wp_region_lit (rn 3 [2,3] s d rfl rfl fun a s=>?_))
   obtain ⟨Sv1254,d⟩:=F4 (α:=Epoch) d 5 rfl 3 rfl
   refine x8 (α:=Channel) (vs:=[V73 ⟨x906.Source,e1108⟩ p1110 k1111]) (cs:=(C73 ⟨x906.Source,e1108⟩ p1110 k1111)) (xs:=([(⟨x906.Source,e1108⟩:Channel)]:List Channel)) s d a6g rfl rfl rfl rfl rfl rfl ⟨⟨_,_,_,_,_,rfl,rfl,rfl,rfl,rfl,⟨_,_,_,rfl,d.envAt 0 rfl⟩⟩,rfl⟩ rfl trivial rfl fun b1253 a w s d=>?_
   obtain ⟨l1256,h1255,u⟩:=bt u
   refine I1 (α:=Channel) s d a6g 5 rfl rfl rfl 4 rfl 0 rfl 0 rfl h1255 rfl trivial ?_
   intro p1257 k1258 c1259 a w s d
   refine sv s (j5 (o':=0) runUnderlying29 rfl sizeOf27 rfl rfl rfl) rfl fun a s=>?_
   refine ws [sl p1257 k1258 l1256] s d 3 rfl rfl rfl sizeOf27 fun a w s d=>?_
   refine wpList_nil ?_
   refine l7 (tn (wp_region_lit (rn0 2 s rfl fun a s=>?_)))
   obtain ⟨i1261,h1260,u⟩:=bt u
   refine sv s (q8 rfl h1260) rfl fun a s=>?_
   exact nl ⟨_,io u,c1259,p1257,k1258,Sv1254,wj s d [1,2,3,5] [3,4,0]⟩
  refine wp_exit (j4 (j4 (o9 ?_)))
  obtain rfl:=oi u
  have h1263:=hd677 _ rfl
  subst h1263
  exact tn ⟨c453,p454,k455,Sv456,wj s d [1,2,3] [1,2]⟩
 rintro a w ⟨c681,p682,k683,Sv684,s,d⟩
 refine tn (sn 1 [1] s d rfl rfl fun a s=>?_)
 refine ws [sl p682 k683 e680] s d 0 rfl rfl rfl sizeOf29 fun a w s d=>?_
 refine nl ?_
 obtain rfl:=oi u
 exact wp_ret (a6d s rfl (I7 d 0 rfl rfl isAgg29 sizeOf29 rfl) (d.ret ⟨p682,k683,c681,rfl,(d.outs [2] (by decide) rfl),(d.envAt 1 rfl)⟩))
abbrev a9K (w0:World) (X:List Nat) (r:(Int × Int)):Rd:=fun S w v=>v=.tuple #[iv r.1,iv r.2]
theorem a9J {w0 S0 p2 k3 p6 k7 inv1 c5 r} (u:a4P inv1 c5=some r) (hS:Dm S0 w0) (h4:(Sq p2 k3 inv1.Channels).p S0 w0) (h8:(Sq p6 k7 c5.Epoch.Response.Stages).p S0 w0):Ck Tryz.prog 74 #[.agg #[sl p2 k3 inv1.Channels],V43 c5 p6 k7] w0 S0 [] a9K r:=by
 refine en 51 func74 rfl hS rfl rfl rfl fun a s d=>?_
 have d:=(d.addE h4).addE h8
 refine sr (wb [sl p2 k3 inv1.Channels] s d rfl fun b9 a w s d=>?_)
 refine wb (C43 c5 p6 k7) s d rfl fun b10 a w s d=>?_
 refine rz0 2 s rfl fun a s=>?_
 refine wp_seq (sz0 1 s rfl fun a s=>?_)
 refine wp_block (u6 (fun sv511 a w=>∃ Sv843,Sl 51 [(2,pt b9),(3,pt b10),(6,iv sv511)] a∧Wd ⟨w0,S0,[]⟩ Sv843 [.box b9 [sl p2 k3 inv1.Channels] 29,.box b10 (C43 c5 p6 k7) 43] [Sq p2 k3 inv1.Channels,Sq p6 k7 c5.Epoch.Response.Stages] w) 0 u ⟨S0,wj s d [1,0] [1,0]⟩ ?_)
 repeat clear u
 rintro sv511 a w tv1010 ⟨Sv843,s,d⟩ u hd1009
 refine wp_seq (sz 5 [0] s d rfl rfl fun a s=>?_)
 refine cd s u rfl (fun u=>?_) fun u=>?_
 ·refine sk (wp_seq (wp_block (wp_seq (wp_seq ?_))))
  obtain ⟨x1179,h1177,u⟩:=bt u
  obtain ⟨b1185,o1186,q1183,c1184,h1187,h1180,h1181,h1182,h1178⟩:=d.elemV 0 rfl h1177
  have hsv1188:=s
  have hwv1189:=d
  subst h1187
  have s:=hsv1188
  have d:=hwv1189
  obtain ⟨_,_,_,_,_,rfl,rfl,rfl,rfl,rfl,⟨p1190,n1191,k1192,rfl,h1193⟩⟩:=h1178
  obtain rfl:=h1193.1
  have d:=(d.addE (e:=SlA p1190 _ k1192 x1179.Epochs) h1193).addE h1182
  refine z8 (fun a w=>∃ Sv1194,Sl 51 [(2,pt b9),(3,pt b10),(6,iv sv511),(23,.bool (!((x1179.Source.Network == c5.Source.Network) && ((x1179.Source.Station == c5.Source.Station) && ((x1179.Source.Location == c5.Source.Location) && ((x1179.Source.Channel == c5.Source.Channel) && true))))))] a∧Wd ⟨w0,S0,[]⟩ Sv1194 [.box b9 [sl (some ⟨b1185,o1186,none⟩) k3 inv1.Channels] 29,.box b10 (C43 c5 p6 k7) 43] [Sq (some ⟨b1185,o1186,none⟩) k3 inv1.Channels,Sq p6 k7 c5.Epoch.Response.Stages] w) ?_ ?_
  ·refine h_c [0,1] [0] d rfl rfl (by kernel_rfl) rfl fun hC d=>?_
   refine gn 3 [0,1,2] [0] s hC rfl rfl rfl fun a s=>?_
   refine gx s 3 rfl trivial rfl hC runUnderlying27 sizeOf73 rfl rfl h1180 h1181 fun a s=>?_
   refine gv s 4 rfl rfl hC (fun w hC=>j5 (o':=q1183+0) runUnderlying73 rfl sizeOf32 rfl rfl rfl) fun a s=>?_
   refine gv s 5 rfl rfl hC (fun w hC=>F8 (j:=0) (hC.ceAt 0 rfl) rfl isAgg32 sizeOf32 rfl rfl) fun a s=>?_
   refine gn 2 [6,7] [1] s hC rfl rfl rfl fun a s=>?_
   refine gv s 8 rfl rfl hC (fun w hC=>a8S (by kernel_rfl) rfl rfl (P8 runUnderlying32 (by kernel_rfl) (EqF.cons1 rfl isAgg9 rfl rfl (L9 runUnderlying9) (EqF.cons1 rfl isAgg9 rfl rfl (L9 runUnderlying9) (EqF.cons1 rfl isAgg9 rfl rfl (L9 runUnderlying9) (EqF.cons1 rfl isAgg9 rfl rfl (L9 runUnderlying9) EqF.nil)))))) fun a s=>?_
   refine y7 (by kernel_rfl) ?_
   exact ⟨Sv843,wj s d [0,1] [2,3]⟩
  rintro a w ⟨Sv1194,s,d⟩
  refine tn (cd s u rfl (fun u=>?_) fun u=>?_)
  ·refine wp_exit (j4 (o9 (tn (wp_region_lit (rn0 2 s rfl fun a s=>?_)))))
   obtain ⟨i1198,h1197,u⟩:=bt u
   refine sv s (q8 rfl h1197) rfl fun a s=>?_
   exact nl ⟨_,io u,Sv1194,wj s d [0,1] [0,1]⟩
  refine sk (wp_seq (sz0 1 s rfl fun a s=>?_))
  refine wp_block (u6 (fun sv1342 a w=>∃ Sv1436,Sl 51 [(2,pt b9),(3,pt b10),(6,iv sv511),(7,iv sv1342)] a∧Wd ⟨w0,S0,[]⟩ Sv1436 [.box b9 [sl (some ⟨b1185,o1186,none⟩) k3 inv1.Channels] 29,.box b10 (C43 c5 p6 k7) 43] [Sq (some ⟨b1185,o1186,none⟩) k3 inv1.Channels,Sq p6 k7 c5.Epoch.Response.Stages] w) 0 u ⟨Sv1194,wj s d [0,1] [0,1]⟩ ?_)
  repeat clear u
  rintro sv1342 a w tv1484 ⟨Sv1436,s,d⟩ u hd1483
  refine wp_seq (sn 4 [0] s d rfl rfl fun a s=>?_)
  obtain ⟨x1487,h1485,u⟩:=bt u
  obtain ⟨q1491,c1492,h1488,h1489,h1490,h1486⟩:=d.elemK 0 rfl h1485
  obtain ⟨_,_,_,_,_,rfl,rfl,rfl,rfl,rfl,⟨p1493,n1494,k1495,rfl,h1496⟩⟩:=h1486
  obtain rfl:=h1496.1
  have d:=(d.addE (e:=SlA p1493 _ k1495 x1487.Epochs) h1496).addE h1490
  refine sv s (o6 runUnderlying27 sizeOf73 rfl rfl h1488.1 h1488.2 h1489) rfl fun a s=>?_
  refine sv s (j5 (o':=q1491+4) runUnderlying73 rfl sizeOf71 rfl rfl rfl) rfl fun a s=>?_
  refine sv s (E9 (j:=4) (d.ceAt 0 rfl) rfl isAgg71 rfl) rfl fun a s=>?_
  refine rz0 2 s rfl fun a s=>?_
  refine cd s u rfl (fun u=>?_) fun u=>?_
  ·refine sk (wp_seq (wp_block (wp_seq ?_)))
   obtain ⟨x1534,h1532,u⟩:=bt u
   obtain ⟨q1538,c1539,h1535,h1536,h1537,h1533⟩:=d.elemK 2 rfl h1532
   obtain ⟨_,_,_,_,_,rfl,rfl,rfl,rfl,rfl,⟨p1540,n1541,k1542,rfl,h1543⟩⟩:=h1533
   obtain rfl:=h1543.1
   have d:=(d.addE (e:=SlA p1540 _ k1542 x1534.Epochs) h1543).addE h1537
   obtain ⟨x1546,h1544,u⟩:=bt u
   obtain ⟨b1552,o1553,q1550,c1551,h1554,h1547,h1548,h1549,h1545⟩:=d.elemV 1 rfl h1544
   have hsv1555:=s
   have hwv1556:=d
   subst h1554
   have s:=hsv1555
   have d:=hwv1556
   obtain ⟨_,_,_,_,_,_,_,_,rfl,rfl,rfl,rfl,rfl,rfl,rfl,rfl,⟨p1557,n1558,k1559,rfl,h1560⟩⟩:=h1545
   obtain rfl:=h1560.1
   have d:=(d.addE (e:=SlA p1557 _ k1559 x1546.Response.Stages) h1560).addE h1549
   refine z8 (fun a w=>∃ Sv1561,Sl 51 [(2,pt b9),(3,pt b10),(6,iv sv511),(7,iv sv1342),(47,.bool (x1546.From == c5.From))] a∧Wd ⟨w0,S0,[]⟩ Sv1561 [.box b9 [sl (some ⟨b1185,o1186,none⟩) k3 inv1.Channels] 29,.box b10 (C43 c5 p6 k7) 43] [Sq (some ⟨b1185,o1186,none⟩) k3 inv1.Channels,Sq p6 k7 c5.Epoch.Response.Stages] w) ?_ ?_
   ·refine h_c [0,1] [0,2,4] d rfl rfl (by kernel_rfl) rfl fun hC d=>?_
    refine gn 3 [0,1,2] [0] s hC rfl rfl rfl fun a s=>?_
    refine gx s 3 rfl trivial rfl hC runUnderlying27 sizeOf73 rfl rfl h1535 h1536 fun a s=>?_
    refine gv s 4 rfl rfl hC (fun w hC=>j5 (o':=q1538+4) runUnderlying73 rfl sizeOf71 rfl rfl rfl) fun a s=>?_
    refine gv s 5 rfl rfl hC (fun w hC=>E9 (j:=4) (hC.ceAt 1 rfl) rfl isAgg71 rfl) fun a s=>?_
    refine gm s 6 rfl rfl rfl hC fun a s=>?_
    refine gx s 7 rfl trivial rfl hC runUnderlying71 sizeOf41 rfl rfl h1547 h1548 fun a s=>?_
    refine gv s 8 rfl rfl hC (fun w hC=>j5 (o':=q1550+0) runUnderlying41 rfl sizeOf3 rfl rfl rfl) fun a s=>?_
    refine gv s 9 rfl rfl hC (fun w hC=>E9 (j:=0) (hC.ceAt 0 rfl) rfl isAgg3 rfl) fun a s=>?_
    refine gn 3 [10,11,12] [1] s hC rfl rfl rfl fun a s=>?_
    refine y7 (by kernel_rfl) ?_
    exact ⟨Sv1436,wj s d [0,1] [6,7]⟩
   rintro a w ⟨Sv1561,s,d⟩
   refine tn (cd s u rfl (fun u=>?_) fun u=>?_)
   ·refine sz0 4 s rfl fun a s=>?_
    obtain rfl:=oi u
    have h1564:=hd1483 _ rfl
    subst h1564
    have h1565:=hd1009 _ rfl
    subst h1565
    exact wp_ret (w9 (j3 (j3 (w9 (j3 (w9 (j3 (j3 (w9 (j3 (a3N s rfl (O0 rfl) (O0 rfl) (d.ret rfl))))))))))))
   refine wp_skip (l7 (tn (wp_region_lit (rn0 2 s rfl fun a s=>?_))))
   obtain ⟨k1567,h1566,u⟩:=bt u
   refine sv s (q8 rfl h1566) rfl fun a s=>?_
   exact nl ⟨_,io u,Sv1561,wj s d [0,1] [0,1]⟩
  obtain ⟨rv1569,u,h1570⟩:=a0q u
  have h1570:=(hd1483 _ h1570.symm).symm
  subst h1570
  refine wp_exit (j4 (j4 (o9 (tn (sz0 3 s rfl fun a s=>?_)))))
  obtain rfl:=oi u
  have h1568:=hd1009 _ rfl
  subst h1568
  exact wp_ret (w9 (j3 (j3 (w9 (j3 (a3N s rfl (O0 rfl) (O0 rfl) (d.ret rfl)))))))
 obtain ⟨rv1571,u,h1572⟩:=a0q u
 have h1572:=(hd1009 _ h1572.symm).symm
 subst h1572
 refine wp_exit (j4 (j4 (o9 (tn (sz0 2 s rfl fun a s=>?_)))))
 obtain rfl:=oi u
 exact wp_ret (a3N s rfl (O0 rfl) (O0 rfl) (d.ret rfl))
theorem a8j {w0 S0 p2 k3 p6 k7 l1 e5 r} (u:a3o l1 e5=some r) (hS:Dm S0 w0) (h4:(Sq p2 k3 l1).p S0 w0) (h8:(Sq p6 k7 e5.Response.Stages).p S0 w0):Ck Tryz.prog 75 #[sl p2 k3 l1,V41 e5 p6 k7] w0 S0 [] l5 r:=by
 refine en 30 func75 rfl hS rfl rfl rfl fun a s d=>?_
 have d:=(d.addE h4).addE h8
 refine sr (wb (C41 e5 p6 k7) s d rfl fun b9 a w s d=>?_)
 refine rz0 1 s rfl fun a s=>?_
 refine wp_seq (sz0 1 s rfl fun a s=>?_)
 refine wp_block (u6 (fun sv120 a w=>∃ Sv192,Sl 30 [(0,sl p2 k3 l1),(3,pt b9),(5,iv sv120)] a∧Wd ⟨w0,S0,[]⟩ Sv192 [.box b9 (C41 e5 p6 k7) 41] [Sq p2 k3 l1,Sq p6 k7 e5.Response.Stages] w) 0 u ⟨S0,wj s d [0] [1,0]⟩ ?_)
 repeat clear u
 rintro sv120 a w tv229 ⟨Sv192,s,d⟩ u hd228
 refine wp_seq (sz0 4 s rfl fun a s=>?_)
 refine cd s u rfl (fun u=>?_) fun u=>?_
 ·refine sk (wp_seq (wp_block (wp_seq ?_)))
  obtain ⟨x268,h266,u⟩:=bt u
  obtain ⟨b274,o275,q272,c273,h276,h269,h270,h271,h267⟩:=d.elemV 0 rfl h266
  have hsv277:=s
  have hwv278:=d
  subst h276
  have s:=hsv277
  have d:=hwv278
  obtain ⟨_,_,_,_,_,_,_,_,rfl,rfl,rfl,rfl,rfl,rfl,rfl,rfl,⟨p279,n280,k281,rfl,h282⟩⟩:=h267
  obtain rfl:=h282.1
  have d:=(d.addE (e:=SlA p279 _ k281 x268.Response.Stages) h282).addE h271
  obtain ⟨c295,hc295,u⟩:=bt u
  refine z8 (fun a w=>∃ Sv296,Sl 30 [(0,sl (some ⟨b274,o275,none⟩) k3 l1),(3,pt b9),(5,iv sv120),(29,.bool c295)] a∧Wd ⟨w0,S0,[]⟩ Sv296 [.box b9 (C41 e5 p6 k7) 41] [Sq (some ⟨b274,o275,none⟩) k3 l1,Sq p6 k7 e5.Response.Stages] w) ?_ ?_
  ·rcases Bool.eq_false_or_eq_true (decide (x268.From<e5.To)) with h297 | h297
   ·have h298:=A9 hc295 h297
    obtain ⟨x301,h299,h298⟩:=O6 h298
    obtain ⟨q305,c306,h302,h303,h304,h300⟩:=d.elemK 2 rfl h299
    obtain ⟨_,_,_,_,_,_,_,_,rfl,rfl,rfl,rfl,rfl,rfl,rfl,rfl,⟨p307,n308,k309,rfl,h310⟩⟩:=h300
    obtain rfl:=h310.1
    have d:=(d.addE (e:=SlA p307 _ k309 x301.Response.Stages) h310).addE h304
    refine h_c [0] [0,2] d rfl rfl (by kernel_rfl) rfl fun hC d=>?_
    refine gn 2 [0,1] [] s hC rfl rfl rfl fun a s=>?_
    refine gx s 2 rfl trivial rfl hC runUnderlying71 sizeOf41 rfl rfl h269 h270 fun a s=>?_
    refine gv s 3 rfl rfl hC (fun w hC=>j5 (o':=q272+0) runUnderlying41 rfl sizeOf3 rfl rfl rfl) fun a s=>?_
    refine gv s 4 rfl rfl hC (fun w hC=>E9 (j:=0) (hC.ceAt 1 rfl) rfl isAgg3 rfl) fun a s=>?_
    refine gn 4 [5,6,7,8] [0] s hC rfl rfl rfl fun a s=>?_
    have s:=s.bT 20 rfl h297
    refine gn 4 [9,10,11,12] [0] s hC rfl rfl rfl fun a s=>?_
    refine gx s 13 rfl ⟨_,rfl,rfl⟩ rfl hC runUnderlying71 sizeOf41 rfl rfl h302 h303 fun a s=>?_
    refine gt s 14 rfl ⟨_,rfl,rfl⟩ rfl hC (fun w hC=>j5 (o':=q305+1) runUnderlying41 rfl sizeOf3 rfl rfl rfl) fun a s=>?_
    refine gt s 15 rfl ⟨_,rfl,rfl⟩ rfl hC (fun w hC=>E9 (j:=1) (hC.ceAt 0 rfl) rfl isAgg3 rfl) fun a s=>?_
    refine gt s 16 rfl ⟨_,rfl,rfl⟩ rfl hC (fun w hC=>b0V rfl rfl) fun a s=>?_
    refine gT s 17 rfl rfl hC rfl rfl h298 fun a s=>?_
    refine y7 (by kernel_rfl) ?_
    exact ⟨Sv192,wj s d [0] [4,5]⟩
   have h311:=C7 hc295 h297
   refine h_c [0] [0] d rfl rfl (by kernel_rfl) rfl fun hC d=>?_
   refine gn 2 [0,1] [] s hC rfl rfl rfl fun a s=>?_
   refine gx s 2 rfl trivial rfl hC runUnderlying71 sizeOf41 rfl rfl h269 h270 fun a s=>?_
   refine gv s 3 rfl rfl hC (fun w hC=>j5 (o':=q272+0) runUnderlying41 rfl sizeOf3 rfl rfl rfl) fun a s=>?_
   refine gv s 4 rfl rfl hC (fun w hC=>E9 (j:=0) (hC.ceAt 0 rfl) rfl isAgg3 rfl) fun a s=>?_
   refine gn 4 [5,6,7,8] [0] s hC rfl rfl rfl fun a s=>?_
   have s:=s.bF 20 rfl h297
   refine gn 8 [9,10,11,12,13,14,15,16] [] s hC rfl rfl rfl fun a s=>?_
   refine gF s 17 rfl rfl hC rfl rfl h311 fun a s=>?_
   refine y7 (by kernel_rfl) ?_
   exact ⟨Sv192,wj s d [0] [2,3]⟩
  rintro a w ⟨Sv296,s,d⟩
  refine tn (cd s u rfl (fun u=>?_) fun u=>?_)
  ·refine sz0 1 s rfl fun a s=>?_
   obtain rfl:=oi u
   have h314:=hd228 _ rfl
   subst h314
   exact wp_ret (w9 (j3 (j3 (w9 (j3 (rt s rfl (d.ret rfl)))))))
  refine wp_skip (l7 (tn (wp_region_lit (rn0 2 s rfl fun a s=>?_))))
  obtain ⟨i316,h315,u⟩:=bt u
  refine sv s (q8 rfl h315) rfl fun a s=>?_
  exact nl ⟨_,io u,Sv296,wj s d [0] [0,1]⟩
 obtain ⟨rv317,u,h318⟩:=a0q u
 have h318:=(hd228 _ h318.symm).symm
 subst h318
 refine wp_exit (j4 (j4 (o9 (tn (sz0 1 s rfl fun a s=>?_)))))
 obtain rfl:=oi u
 exact q1 s rfl (d.ret rfl)
theorem b1p {w0 S0 p2 k3 p6 k7 l1 e5 r} (u:a6O l1 e5=some r) (hS:Dm S0 w0) (h4:(Sq p2 k3 l1).p S0 w0) (h8:(Sq p6 k7 e5.Response.Stages).p S0 w0):Ck Tryz.prog 76 #[sl p2 k3 l1,V41 e5 p6 k7] w0 S0 [] H5 r:=by
 refine en 36 func76 rfl hS rfl rfl rfl fun a s d=>?_
 have d:=(d.addE h4).addE h8
 refine sr (wb (C41 e5 p6 k7) s d rfl fun b9 a w s d=>?_)
 refine rz0 1 s rfl fun a s=>?_
 refine sz0 1 s rfl fun a s=>?_
 refine wp_seq ?_
 obtain ⟨e82,h173,u⟩:=bt u
 refine u7 (fun a w=>∃ Sv83,Sl 36 [(0,sl p2 k3 l1),(3,pt b9),(5,iv e82)] a∧Wd ⟨w0,S0,[]⟩ Sv83 [.box b9 (C41 e5 p6 k7) 41] [Sq p2 k3 l1,Sq p6 k7 e5.Response.Stages] w) ?_ ?_
 ·refine wp_block (u6 (fun sv10 a w=>∃ Sv56,Sl 36 [(0,sl p2 k3 l1),(3,pt b9),(5,iv sv10)] a∧Wd ⟨w0,S0,[]⟩ Sv56 [.box b9 (C41 e5 p6 k7) 41] [Sq p2 k3 l1,Sq p6 k7 e5.Response.Stages] w) 0 h173 ⟨S0,wj s d [0] [1,0]⟩ ?_)
  clear h173
  repeat clear u
  rintro sv10 a w tv80 ⟨Sv56,s,d⟩ u hd79
  refine wp_seq (wp_seq ?_)
  obtain ⟨c101,hc101,u⟩:=bt u
  refine z8 (fun a w=>∃ Sv102,Sl 36 [(0,sl p2 k3 l1),(3,pt b9),(5,iv sv10),(20,.bool c101)] a∧Wd ⟨w0,S0,[]⟩ Sv102 [.box b9 (C41 e5 p6 k7) 41] [Sq p2 k3 l1,Sq p6 k7 e5.Response.Stages] w) ?_ ?_
  ·rcases Bool.eq_false_or_eq_true (decide (sv10<(l1.length:Int))) with h103 | h103
   ·have h104:=A9 hc101 h103
    obtain ⟨x107,h105,h104⟩:=O6 h104
    obtain ⟨b113,o114,q111,c112,h115,h108,h109,h110,h106⟩:=d.elemV 0 rfl h105
    have hsv116:=s
    have hwv117:=d
    subst h115
    have s:=hsv116
    have d:=hwv117
    obtain ⟨_,_,_,_,_,_,_,_,rfl,rfl,rfl,rfl,rfl,rfl,rfl,rfl,⟨p118,n119,k120,rfl,h121⟩⟩:=h106
    obtain rfl:=h121.1
    have d:=(d.addE (e:=SlA p118 _ k120 x107.Response.Stages) h121).addE h110
    refine h_c [0] [0] d rfl rfl (by kernel_rfl) rfl fun hC d=>?_
    refine gn 5 [0,1,2,3,4] [] s hC rfl rfl rfl fun a s=>?_
    have s:=s.bT 11 rfl h103
    refine gn 2 [5,6] [] s hC rfl rfl rfl fun a s=>?_
    refine gx s 7 rfl ⟨_,rfl,rfl⟩ rfl hC runUnderlying71 sizeOf41 rfl rfl h108 h109 fun a s=>?_
    refine gt s 8 rfl ⟨_,rfl,rfl⟩ rfl hC (fun w hC=>j5 (o':=q111+0) runUnderlying41 rfl sizeOf3 rfl rfl rfl) fun a s=>?_
    refine gt s 9 rfl ⟨_,rfl,rfl⟩ rfl hC (fun w hC=>E9 (j:=0) (hC.ceAt 0 rfl) rfl isAgg3 rfl) fun a s=>?_
    refine gn 3 [10,11,12] [0] s hC rfl rfl rfl fun a s=>?_
    refine gT s 13 rfl rfl hC rfl rfl h104 fun a s=>?_
    refine y7 (by kernel_rfl) ?_
    exact ⟨Sv56,wj s d [0] [2,3]⟩
   have h122:=C7 hc101 h103
   refine h_c [0] [] d rfl rfl (by kernel_rfl) rfl fun hC d=>?_
   refine gn 5 [0,1,2,3,4] [] s hC rfl rfl rfl fun a s=>?_
   have s:=s.bF 11 rfl h103
   refine gn 8 [5,6,7,8,9,10,11,12] [] s hC rfl rfl rfl fun a s=>?_
   refine gF s 13 rfl rfl hC rfl rfl h122 fun a s=>?_
   refine y7 (by kernel_rfl) ?_
   exact ⟨Sv56,wj s d [0] [0,1]⟩
  rintro a w ⟨Sv102,s,d⟩
  refine tn (cd s u rfl (fun u=>?_) fun u=>?_)
  ·refine sk (wp_block (wp_region_lit (rn0 2 s rfl fun a s=>?_)))
   obtain ⟨k128,h127,u⟩:=bt u
   refine sv s (q8 rfl h127) rfl fun a s=>?_
   refine wpList_nil ?_
   exact l7 (tn ⟨_,io u,Sv102,wj s d [0] [0,1]⟩)
  refine wp_exit (j4 (j4 (o9 ?_)))
  obtain rfl:=oi u
  have h129:=hd79 _ rfl
  subst h129
  exact tn ⟨Sv102,wj s d [0] [0,1]⟩
 rintro a w ⟨Sv83,s,d⟩
 refine tn (sn0 2 s rfl fun a s=>?_)
 obtain ⟨l135,h130,u⟩:=bt u
 obtain ⟨p133,k134,h131,h132⟩:=a6U (d.envAt 0 rfl) h130
 have d:=d.addE h131
 refine sv s (R5 runUnderlying71 sizeOf41 rfl (by exact rfl) ⟨_,rfl⟩ h132) rfl fun a s=>?_
 obtain ⟨l137,h136,u⟩:=bt u
 have d:=d.nilRow Epoch 41
 refine Y3 (α:=Epoch) s d a5h 0 rfl rfl rfl 0 rfl 1 rfl h136 rfl trivial ?_
 intro p138 k139 c140 a w s d
 refine rz0 1 s rfl fun a s=>?_
 refine wp_seq ?_
 obtain ⟨rv142,h141,u⟩:=bt u
 obtain ⟨l150,h149,u⟩:=bt u
 obtain ⟨l159,h154,u⟩:=bt u
 obtain ⟨p157,k158,h155,h156⟩:=a6U (d.envAt 3 rfl) h154
 have d:=d.addE h155
 obtain ⟨l161,h160,u⟩:=bt u
 refine z8 (fun a w=>∃ Sv165 c164 k163 p162,Sl 36 [(4,sl p162 k163 l161)] a∧Wd ⟨w0,S0,[]⟩ Sv165 [.row p162 l161.length k163 c164 41 8] [j6 c164 l161] w) ?_ ?_
 ·refine h_c [1] [] d rfl rfl (by kernel_rfl) rfl fun hC d=>?_
  refine gn 4 [0,1,5,6] [0] s hC rfl rfl rfl fun a s=>?_
  refine gv s 7 rfl rfl hC (fun w hC=>R5 runUnderlying71 sizeOf41 rfl ⟨_,rfl⟩ (by exact rfl) h156) fun a s=>?_
  refine ho 2 rfl ?_
  refine cR s (a0U h141 d.dom (d.envAt 5 rfl)) (d9 call45 rfl) rfl ?_
  rintro v169 Sv166 w a h167 ⟨p143,k144,c146,rfl,h170,h145⟩ s
  have d:=(d.callN h167 h170).addE (e:=j6 c146 rv142.Response.Stages) h145
  refine h_n [2] [] d rfl rfl fun hC=>?_
  refine ho 3 rfl ?_
  obtain ⟨Sv172,d⟩:=F4 (α:=Stage) d 0 rfl 0 rfl
  refine x8 (α:=Epoch) (vs:=[V41 rv142 p143 k144]) (cs:=(C41 rv142 p143 k144)) (xs:=([rv142]:List Epoch)) s d a5h rfl rfl rfl rfl rfl rfl ⟨⟨_,_,_,_,_,_,_,_,rfl,rfl,rfl,rfl,rfl,rfl,rfl,rfl,⟨_,_,_,rfl,d.envAt 0 rfl⟩⟩,rfl⟩ rfl trivial rfl fun b148 a w s d=>?_
  refine h_n [2] [] d rfl rfl fun hC=>?_
  refine h_d [2,0] [] [0] [] d rfl rfl rfl rfl fun hC=>?_
  refine ho 4 rfl ?_
  refine I1 (α:=Epoch) s d a5h 1 rfl rfl rfl 4 rfl 0 rfl 0 rfl h149 rfl trivial ?_
  intro p151 k152 c153 a w s d
  refine h_n [2,0] [] d rfl rfl fun hC=>?_
  refine ho 8 rfl ?_
  refine Y3 (α:=Epoch) s d a5h 1 rfl rfl rfl 0 rfl 4 rfl h160 rfl trivial ?_
  intro p162 k163 c164 a w s d
  refine h_n [2,0] [] d rfl rfl fun hC=>?_
  refine gv s 9 rfl rfl hC (fun w hC=>X6 rfl) fun a s=>?_
  refine y7 (by kernel_rfl) ?_
  exact ⟨Sv172,c164,k163,p162,wj s d [1] [0]⟩
 rintro a w ⟨Sv165,c164,k163,p162,s,d⟩
 refine tn ?_
 obtain rfl:=oi u
 exact q1 s rfl (d.ret ⟨p162,k163,c164,rfl,(d.outs [0] (by decide) rfl),(d.envAt 0 rfl)⟩)
abbrev a9I (w0:World) (X:List Nat) (r:(Inventory × Int)):Rd:=fun S w v=>∃ p0_0 k0_0,v=.tuple #[.agg #[sl p0_0 k0_0 r.1.Channels],iv r.2]∧(Sq p0_0 k0_0 r.1.Channels).p S w
abbrev a3F:List Value:=[.slice none ([]:List Channel).length 0]
theorem a4D {w0 S0 p2 k3 p6 k7 inv1 c5 r} (u:a1Q inv1 c5=some r) (hS:Dm S0 w0) (h4:(Sq p2 k3 inv1.Channels).p S0 w0) (h8:(Sq p6 k7 c5.Epoch.Response.Stages).p S0 w0):Ck Tryz.prog 33 #[.agg #[sl p2 k3 inv1.Channels],V43 c5 p6 k7] w0 S0 [] a9I r:=by
 refine en 157 func33 rfl hS rfl rfl rfl fun a s d=>?_
 have d:=(d.addE h4).addE h8
 refine sr (wb [sl p2 k3 inv1.Channels] s d rfl fun b9 a w s d=>?_)
 refine wb (C43 c5 p6 k7) s d rfl fun b10 a w s d=>?_
 refine wa a3F s d zeroValue29 fun b11 a w s d=>?_
 refine rz0 1 s rfl fun a s=>?_
 refine wp_seq (sn 2 [2,1] s d rfl rfl fun a s=>?_)
 obtain ⟨rv13,h12,u⟩:=bt u
 refine cV s d (b0v h12 d.bdom (d.bE 1 rfl) (d.bE 0 rfl)) (d9 call72 rfl) rfl fun a w s d=>?_
 refine rz0 1 s rfl fun a s=>?_
 refine cd s u rfl (fun u=>?_) fun u=>?_
 ·refine sr (sv s (A7 (vs:=[]) a7d rfl rfl) rfl fun a s=>?_)
  refine ws a3F s d 0 rfl rfl rfl sizeOf29 fun a w s d=>?_
  refine rz0 1 s rfl fun a s=>?_
  obtain rfl:=oi u
  have d:=d.addE (e:=SlA (α:=Channel) none 0 0 []) O7
  exact wp_ret (j3 (a3N s rfl (I7 d 0 rfl rfl isAgg29 sizeOf29 rfl) (O0 rfl) (d.ret ⟨none,0,rfl,(d.envAt 0 rfl)⟩)))
 refine sk (sn 1 [2] s d rfl rfl fun a s=>?_)
 obtain ⟨rv23,h22,u⟩:=bt u
 refine cR s (a7i h22 d.dom (d.envAt 1 rfl)) (d9 call73 rfl) rfl ?_
 rintro v31 Sv28 w a h29 ⟨p24,k25,c27,rfl,h32,h26⟩ s
 have d:=(d.callN h29 h32).addE (e:=j6 c27 rv23.Channels) h26
 refine wa a3F s d zeroValue29 fun b34 a w s d=>?_
 refine ws [sl p24 k25 rv23.Channels] s d 0 rfl rfl rfl sizeOf29 fun a w s d=>?_
 refine nl (sn 2 [0,3] s d rfl rfl fun a s=>?_)
 obtain ⟨rv36,h35,u⟩:=bt u
 refine cV s d (a9J h35 d.bdom (d.bRow 1 rfl 0 rfl) (d.bE 1 rfl)) (d9 call74 rfl) rfl fun a w s d=>?_
 refine rz0 5 s rfl fun a s=>?_
 refine wp_seq (sz 3 [3] s d rfl rfl fun a s=>?_)
 refine u7 (fun a w=>∃ (x106:(List Channel)) (c102 p103 k104 Sv105:_),a0F c5 rv36 x106=some r∧Sl 157 [(3,pt b10),(4,pt b11),(6,pt b34),(7,iv rv36.1)] a∧Wd ⟨w0,S0,[]⟩ Sv105 [.box b10 (C43 c5 p6 k7) 43,.box b11 a3F 29,.box b34 [sl p103 k104 x106] 29,.row p103 x106.length k104 c102 73 5] [Sq p6 k7 c5.Epoch.Response.Stages,Sq none 0 ([]:List Channel),j6 c102 x106] w) ?_ ?_
 ·refine cd s u rfl (fun u=>?_) fun u=>?_
  ·refine wp_seq (sz0 2 s rfl fun a s=>?_)
   refine cd s u rfl (fun u=>?_) fun u=>?_
   ·refine sr (sv s (A7 (vs:=[]) a7d rfl rfl) rfl fun a s=>?_)
    refine ws a3F s d 2 rfl rfl rfl sizeOf29 fun a w s d=>?_
    refine rz0 1 s rfl fun a s=>?_
    obtain rfl:=oi u
    have d:=d.addE (e:=SlA (α:=Channel) none 0 0 []) O7
    exact wp_ret (j3 (j3 (j3 (a3N s rfl (I7 d 2 rfl rfl isAgg29 sizeOf29 rfl) (O0 rfl) (d.ret ⟨none,0,rfl,(d.envAt 0 rfl)⟩)))))
   refine sk (sn 3 [0] s d rfl rfl fun a s=>?_)
   obtain ⟨x631,h629,u⟩:=bt u
   obtain ⟨b638,q635,c636,h639,h632,h633,h637,h630⟩:=d.elemRV (α:=Channel) 1 rfl 0 rfl h629
   have hsv640:=s
   have hwv641:=d
   subst h639
   have s:=hsv640
   have d:=hwv641
   obtain ⟨_,_,_,_,_,rfl,rfl,rfl,rfl,rfl,⟨p642,n643,k644,rfl,h645⟩⟩:=h630
   obtain rfl:=h645.1
   have d:=d.addE (e:=SlA p642 _ k644 x631.Epochs) h645
   refine sv s (o6 runUnderlying27 sizeOf73 rfl rfl h632.1 h632.2 h633) rfl fun a s=>?_
   refine sv s (j5 (o':=q635+4) runUnderlying73 rfl sizeOf71 rfl rfl rfl) rfl fun a s=>?_
   refine sv s (J9 (j:=4) (d.ownAt 1 rfl) rfl isAgg71 h637 rfl) rfl fun a s=>?_
   refine rz0 1 s rfl fun a s=>?_
   obtain ⟨l651,h646,u⟩:=bt u
   obtain ⟨p649,k650,h647,h648⟩:=a6U (d.envAt 0 rfl) h646
   have d:=d.addE h647
   obtain ⟨l653,h652,u⟩:=bt u
   obtain ⟨l662,h657,u⟩:=bt u
   obtain ⟨p660,k661,h658,h659⟩:=a6U (d.envAt 1 rfl) h657
   have d:=d.addE h658
   obtain ⟨l664,h663,u⟩:=bt u
   obtain ⟨x670,h668,u⟩:=bt u
   obtain ⟨q674,c675,h671,h672,h676,h669⟩:=d.elemRK (α:=Channel) 1 rfl 3 rfl h668
   obtain ⟨_,_,_,_,_,rfl,rfl,rfl,rfl,rfl,⟨p677,n678,k679,rfl,h680⟩⟩:=h669
   obtain rfl:=h680.1
   have d:=d.addE (e:=SlA p677 _ k679 x670.Epochs) h680
   obtain ⟨l682,h681,u⟩:=bt u
   refine z8 (fun a w=>∃ Sv685 c683,Sl 157 [(3,pt b10),(4,pt b11),(6,pt b34),(7,iv rv36.1)] a∧Wd ⟨w0,S0,[]⟩ Sv685 [.box b10 (C43 c5 p6 k7) 43,.box b11 a3F 29,.box b34 [sl (ad b638) k25 l682] 29,.row (ad b638) l682.length k25 c683 73 5] [Sq p6 k7 c5.Epoch.Response.Stages,Sq none 0 ([]:List Channel),j6 c683 l682] w) ?_ ?_
   ·refine h_c [0,2,3,4] [] d rfl rfl (by kernel_rfl) rfl fun hC d=>?_
    refine gn 5 [0,1,2,3,4] [0] s hC rfl rfl rfl fun a s=>?_
    refine gv s 5 rfl rfl hC (fun w hC=>R5 runUnderlying71 sizeOf41 rfl (by exact rfl) ⟨_,rfl⟩ h648) fun a s=>?_
    refine gn 3 [7,8,9] [] s hC rfl rfl rfl fun a s=>?_
    refine gv s 10 rfl rfl hC (fun w hC=>R5 runUnderlying71 sizeOf41 rfl ⟨_,rfl⟩ (by exact rfl) h659) fun a s=>?_
    refine ho 6 rfl ?_
    have d:=d.nilRow Epoch 41
    refine Y3 (α:=Epoch) s d a5h 0 rfl rfl rfl 0 rfl 3 rfl h652 rfl trivial ?_
    intro p654 k655 c656 a w s d
    refine h_n [1,3,4,5] [] d rfl rfl fun hC=>?_
    refine ho 11 rfl ?_
    refine Y3 (α:=Epoch) s d a5h 0 rfl rfl rfl 0 rfl 3 rfl h663 rfl trivial ?_
    intro p665 k666 c667 a w s d
    refine h_n [1,3,4,5] [] d rfl rfl fun hC=>?_
    refine gx s 12 rfl trivial rfl hC runUnderlying27 sizeOf73 rfl rfl h671 h672 fun a s=>?_
    refine gv s 13 rfl rfl hC (fun w hC=>j5 (o':=q674+4) runUnderlying73 rfl sizeOf71 rfl rfl rfl) fun a s=>?_
    refine ho 14 rfl ?_
    obtain ⟨Sv686,d⟩:=F4 (α:=Epoch) d 0 rfl 0 rfl
    refine a4G (α:=Channel) (f:=4) (m:=1) s d 1 rfl 8 rfl h672 rfl rfl sizeOf71 rfl rfl rfl h681 (fun es he=>by rw [h676] at he;subst he;exact ⟨_,_,_,_,_,rfl,rfl,rfl,rfl,rfl,⟨_,_,_,rfl,d.envAt 0 rfl⟩⟩) trivial ?_
    intro c683 a w s d
    have h684:=X5 h681
    try have s:=s.fl 36 rfl h684
    refine h_n [0,2,3,4] [] d rfl rfl fun hC=>?_
    refine y7 (by kernel_rfl) ?_
    have d:=(d.fixB 0 0 rfl rfl h684).addE (e:=SlA (α:=Channel) none 0 0 []) O7
    exact ⟨Sv686,c683,wj s d [3,2,0,1] [11,0,1]⟩
   rintro a w ⟨Sv685,c683,s,d⟩
   exact tn ⟨l682,c683,(ad b638),k25,Sv685,u,wj s d [0,1,2,3] [0,1,2]⟩
  refine sk ?_
  have d:=d.addE (e:=SlA (α:=Channel) none 0 0 []) O7
  exact ⟨rv23.Channels,c27,p24,k25,Sv28,u,wj s d [3,2,0,1] [2,0,1]⟩
 rintro a w ⟨x106,c102,p103,k104,Sv105,u,s,d⟩
 refine tn (wp_seq (sz 3 [0] s d rfl rfl fun a s=>?_))
 refine cd s u rfl (fun u=>?_) fun u=>?_
 ·refine wp_seq (sn 3 [2] s d rfl rfl fun a s=>?_)
  obtain ⟨x149,h147,u⟩:=bt u
  obtain ⟨b156,q153,c154,h157,h150,h151,h155,h148⟩:=d.elemRV (α:=Channel) 3 rfl 2 rfl h147
  have hsv158:=s
  have hwv159:=d
  subst h157
  have s:=hsv158
  have d:=hwv159
  obtain ⟨_,_,_,_,_,rfl,rfl,rfl,rfl,rfl,⟨p160,n161,k162,rfl,h163⟩⟩:=h148
  obtain rfl:=h163.1
  have d:=d.addE (e:=SlA p160 _ k162 x149.Epochs) h163
  refine sv s (o6 runUnderlying27 sizeOf73 rfl rfl h150.1 h150.2 h151) rfl fun a s=>?_
  refine sv s (j5 (o':=q153+4) runUnderlying73 rfl sizeOf71 rfl rfl rfl) rfl fun a s=>?_
  refine sv s (J9 (j:=4) (d.ownAt 3 rfl) rfl isAgg71 h155 rfl) rfl fun a s=>?_
  refine rz0 2 s rfl fun a s=>?_
  refine u7 (fun a w=>∃ (x184:(List Channel)) (p181 k182 Sv183:_),a4B x184=some r∧Sl 157 [(4,pt b11),(6,pt b34)] a∧Wd ⟨w0,S0,[]⟩ Sv183 [.box b11 a3F 29,.box b34 [sl p181 k182 x184] 29] [Sq none 0 ([]:List Channel),Sq p181 k182 x184] w) ?_ ?_
  ·refine cd s u rfl (fun u=>?_) fun u=>?_
   ·obtain ⟨Sv188,d⟩:=F4 (α:=Channel) d 3 rfl 3 rfl
    obtain ⟨l190,h186,u⟩:=bt u
    obtain ⟨h189,h187⟩:=sub_env3 (d.envAt 0 rfl) h186
    have d:=d.addE (e:=Sq (ad b156) l190.length l190) h189
    obtain ⟨l196,h191,u⟩:=bt u
    obtain ⟨p194,k195,h192,h193⟩:=a6U (d.envAt 1 rfl) h191
    have d:=d.addE h192
    obtain ⟨l198,h197,u⟩:=bt u
    refine z8 (fun a w=>∃ Sv201 k200 p199,Sl 157 [(4,pt b11),(6,pt b34)] a∧Wd ⟨w0,S0,[]⟩ Sv201 [.box b11 a3F 29,.box b34 [sl p199 k200 l198] 29] [Sq none 0 ([]:List Channel),Sq p199 k200 l198] w) ?_ ?_
    ·refine h_c [0,1] [] d rfl rfl (by kernel_rfl) rfl fun hC d=>?_
     refine gn 6 [0,2,3,5,7,8] [] s hC rfl rfl rfl fun a s=>?_
     refine a7h (rs:=[1,6]) (by kernel_rfl) rfl ?_
     refine a1I.cons rfl ?_ ?_
     ·refine sv s (U5 (d.ownAt 2 rfl) rfl isAgg27 rfl) rfl fun a s=>?_
      refine h_n [0,1] [] d rfl rfl fun hC=>?_
      refine gv s 4 rfl rfl hC (fun w hC=>b0i runUnderlying27 sizeOf73 rfl (by exact rfl) rfl rfl h187) fun a s=>?_
      refine ho 6 rfl ?_
      refine sv s (U5 (d.ownAt 2 rfl) rfl isAgg27 rfl) rfl fun a s=>?_
      refine h_n [0,1] [] d rfl rfl fun hC=>?_
      refine gv s 9 rfl rfl hC (fun w hC=>R5 runUnderlying27 sizeOf73 rfl ⟨_,rfl⟩ (by exact rfl) h193) fun a s=>?_
      refine ho 10 rfl ?_
      refine b0T (α:=Channel) s d a6g 1 rfl 0 rfl rfl rfl h197 rfl trivial ?_
      intro p199 k200 Sv202 a w s d
      refine h_n [0,1] [] d rfl rfl fun hC=>?_
      refine gv s 11 rfl rfl hC (fun w hC=>j5 (o':=0) runUnderlying29 rfl sizeOf27 rfl rfl rfl) fun a s=>?_
      refine ho 12 rfl ?_
      refine ws [sl p199 k200 l198] s d 2 rfl rfl rfl sizeOf27 fun a w s d=>?_
      refine h_n [0,1] [] d rfl rfl fun hC=>?_
      refine y7 (by kernel_rfl) ?_
      exact ⟨Sv202,k200,p199,wj s d [1,2] [6,0]⟩
     refine a1I.cons rfl ?_ ?_
     ·refine sv s (U5 (d.ownAt 2 rfl) rfl isAgg27 rfl) rfl fun a s=>?_
      refine h_n [0,1] [] d rfl rfl fun hC=>?_
      refine gv s 9 rfl rfl hC (fun w hC=>R5 runUnderlying27 sizeOf73 rfl ⟨_,rfl⟩ (by exact rfl) h193) fun a s=>?_
      refine ho 1 rfl ?_
      refine sv s (U5 (d.ownAt 2 rfl) rfl isAgg27 rfl) rfl fun a s=>?_
      refine h_n [0,1] [] d rfl rfl fun hC=>?_
      refine gv s 4 rfl rfl hC (fun w hC=>b0i runUnderlying27 sizeOf73 rfl (by exact rfl) rfl rfl h187) fun a s=>?_
      refine ho 10 rfl ?_
      refine b0T (α:=Channel) s d a6g 1 rfl 0 rfl rfl rfl h197 rfl trivial ?_
      intro p199 k200 Sv203 a w s d
      refine h_n [0,1] [] d rfl rfl fun hC=>?_
      refine gv s 11 rfl rfl hC (fun w hC=>j5 (o':=0) runUnderlying29 rfl sizeOf27 rfl rfl rfl) fun a s=>?_
      refine ho 12 rfl ?_
      refine ws [sl p199 k200 l198] s d 2 rfl rfl rfl sizeOf27 fun a w s d=>?_
      refine h_n [0,1] [] d rfl rfl fun hC=>?_
      refine y7 (by kernel_rfl) ?_
      exact ⟨Sv203,k200,p199,wj s d [1,2] [6,0]⟩
     exact a1I.nil
    rintro a w ⟨Sv201,k200,p199,s,d⟩
    exact tn ⟨l198,p199,k200,Sv201,u,wj s d [0,1] [0,1]⟩
   refine sk ?_
   obtain ⟨Sv207,d⟩:=F4 (α:=Channel) d 3 rfl 3 rfl
   exact ⟨x106,(ad b156),k104,Sv207,u,wj s d [1,2] [3,0]⟩
  rintro a w ⟨x184,p181,k182,Sv183,u,s,d⟩
  refine tn (sn 1 [1] s d rfl rfl fun a s=>?_)
  refine ws [sl p181 k182 x184] s d 0 rfl rfl rfl sizeOf29 fun a w s d=>?_
  refine rz0 1 s rfl fun a s=>?_
  obtain rfl:=oi u
  exact wp_ret (j3 (a3N s rfl (I7 d 0 rfl rfl isAgg29 sizeOf29 rfl) (O0 rfl) (d.ret ⟨p181,k182,rfl,(d.envAt 1 rfl)⟩)))
 refine sk (wp_seq (sz0 2 s rfl fun a s=>?_))
 refine u7 (fun a w=>∃ (x336:(List Channel)) (i337:Int) (c332 p333 k334 Sv335:_),a1R c5 x336 i337=some r∧Sl 157 [(3,pt b10),(4,pt b11),(6,pt b34),(7,iv i337)] a∧Wd ⟨w0,S0,[]⟩ Sv335 [.box b10 (C43 c5 p6 k7) 43,.box b11 a3F 29,.box b34 [sl p333 k334 x336] 29,.row p333 x336.length k334 c332 73 5] [Sq p6 k7 c5.Epoch.Response.Stages,Sq none 0 ([]:List Channel),j6 c332 x336] w) ?_ ?_
 ·refine cd s u rfl (fun u=>?_) fun u=>?_
  ·refine sz0 1 s rfl fun a s=>?_
   refine wp_seq ?_
   obtain ⟨e521,h625,u⟩:=bt u
   refine u7 (fun a w=>∃ Sv522,Sl 157 [(3,pt b10),(4,pt b11),(6,pt b34),(7,iv e521)] a∧Wd ⟨w0,S0,[]⟩ Sv522 [.box b10 (C43 c5 p6 k7) 43,.box b11 a3F 29,.box b34 [sl p103 k104 x106] 29,.row p103 x106.length k104 c102 73 5] [Sq p6 k7 c5.Epoch.Response.Stages,Sq none 0 ([]:List Channel),j6 c102 x106] w) ?_ ?_
   ·refine wp_block (u6 (fun sv443 a w=>∃ Sv493,Sl 157 [(3,pt b10),(4,pt b11),(6,pt b34),(7,iv sv443)] a∧Wd ⟨w0,S0,[]⟩ Sv493 [.box b10 (C43 c5 p6 k7) 43,.box b11 a3F 29,.box b34 [sl p103 k104 x106] 29,.row p103 x106.length k104 c102 73 5] [Sq p6 k7 c5.Epoch.Response.Stages,Sq none 0 ([]:List Channel),j6 c102 x106] w) 0 h625 ⟨Sv105,wj s d [0,1,2,3] [0,1,2]⟩ ?_)
    clear h625
    repeat clear u
    rintro sv443 a w tv519 ⟨Sv493,s,d⟩ u hd518
    refine wp_seq (wp_seq ?_)
    obtain ⟨c542,hc542,u⟩:=bt u
    refine z8 (fun a w=>∃ Sv543,Sl 157 [(3,pt b10),(4,pt b11),(6,pt b34),(7,iv sv443),(91,.bool c542)] a∧Wd ⟨w0,S0,[]⟩ Sv543 [.box b10 (C43 c5 p6 k7) 43,.box b11 a3F 29,.box b34 [sl p103 k104 x106] 29,.row p103 x106.length k104 c102 73 5] [Sq p6 k7 c5.Epoch.Response.Stages,Sq none 0 ([]:List Channel),j6 c102 x106] w) ?_ ?_
    ·rcases Bool.eq_false_or_eq_true (decide (sv443<(x106.length:Int))) with h544 | h544
     ·have h545:=A9 hc542 h544
      obtain ⟨x548,h546,h545⟩:=O6 h545
      obtain ⟨b555,q552,c553,h556,h549,h550,h554,h547⟩:=d.elemRV (α:=Channel) 3 rfl 2 rfl h546
      have hsv557:=s
      have hwv558:=d
      subst h556
      have s:=hsv557
      have d:=hwv558
      obtain ⟨_,_,_,_,_,rfl,rfl,rfl,rfl,rfl,⟨p559,n560,k561,rfl,h562⟩⟩:=h547
      obtain rfl:=h562.1
      have d:=d.addE (e:=SlA p559 _ k561 x548.Epochs) h562
      obtain ⟨rv564,h563,h545⟩:=O6 h545
      refine h_c [0,1,2,3] [] d rfl rfl (by kernel_rfl) rfl fun hC d=>?_
      refine gn 6 [0,1,2,3,4,5] [2] s hC rfl rfl rfl fun a s=>?_
      have s:=s.bT 80 rfl h544
      refine gn 3 [6,7,8] [2] s hC rfl rfl rfl fun a s=>?_
      refine gx s 9 rfl ⟨_,rfl,rfl⟩ rfl hC runUnderlying27 sizeOf73 rfl rfl h549 h550 fun a s=>?_
      refine gt s 10 rfl ⟨_,rfl,rfl⟩ rfl hC (fun w hC=>j5 (o':=q552+0) runUnderlying73 rfl sizeOf32 rfl rfl rfl) fun a s=>?_
      refine gt s 11 rfl ⟨_,rfl,rfl⟩ rfl hC (fun w hC=>P5 (j:=0) (hC.ownAt 3 rfl) rfl isAgg32 sizeOf32 h554 rfl rfl) fun a s=>?_
      refine gn 2 [12,13] [0] s hC rfl rfl rfl fun a s=>?_
      refine ho 14 rfl ?_
      refine o8 s (a3L h563 d.bdom) (d9 call63 rfl) ⟨_,rfl,rfl⟩ rfl rfl ?_
      rintro v568 Sv565 w a h566 rfl s
      have d:=d.callB h566
      refine h_n [0,1,2,3] [] d rfl rfl fun hC=>?_
      refine gt s 15 rfl ⟨_,rfl,rfl⟩ rfl hC (fun w hC=>b0V rfl rfl) fun a s=>?_
      refine gT s 16 rfl rfl hC rfl rfl h545 fun a s=>?_
      refine y7 (by kernel_rfl) ?_
      exact ⟨Sv493,wj s d [0,1,2,3] [1,2,3]⟩
     have h571:=C7 hc542 h544
     refine h_c [0,1,2,3] [] d rfl rfl (by kernel_rfl) rfl fun hC d=>?_
     refine gn 6 [0,1,2,3,4,5] [2] s hC rfl rfl rfl fun a s=>?_
     have s:=s.bF 80 rfl h544
     refine gn 10 [6,7,8,9,10,11,12,13,14,15] [] s hC rfl rfl rfl fun a s=>?_
     refine gF s 16 rfl rfl hC rfl rfl h571 fun a s=>?_
     refine y7 (by kernel_rfl) ?_
     exact ⟨Sv493,wj s d [0,1,2,3] [0,1,2]⟩
    rintro a w ⟨Sv543,s,d⟩
    refine tn (cd s u rfl (fun u=>?_) fun u=>?_)
    ·refine sk (wp_block (wp_region_lit (rn0 2 s rfl fun a s=>?_)))
     obtain ⟨i577,h576,u⟩:=bt u
     refine sv s (q8 rfl h576) rfl fun a s=>?_
     refine wpList_nil ?_
     exact l7 (tn ⟨_,io u,Sv543,wj s d [0,1,2,3] [0,1,2]⟩)
    refine wp_exit (j4 (j4 (o9 ?_)))
    obtain rfl:=oi u
    have h578:=hd518 _ rfl
    subst h578
    exact tn ⟨Sv543,wj s d [0,1,2,3] [0,1,2]⟩
   rintro a w ⟨Sv522,s,d⟩
   refine tn (sn 2 [2] s d rfl rfl fun a s=>?_)
   refine sv s (A7 (vs:=[]) b0z rfl rfl) rfl fun a s=>?_
   have d:=d.addE (e:=SlA (α:=Epoch) none 0 0 []) O7
   refine x8 (α:=Channel) (vs:=[.agg Z2.toArray]) (cs:=Z2) (xs:=([(⟨(⟨ByteArray.empty,ByteArray.empty,ByteArray.empty,ByteArray.empty⟩:SourceID),([]:List Epoch)⟩:Channel)]:List Channel)) s d a6g rfl rfl rfl rfl rfl rfl ⟨⟨_,_,_,_,_,rfl,rfl,rfl,rfl,rfl,⟨_,_,_,rfl,d.envAt 0 rfl⟩⟩,rfl⟩ rfl trivial rfl fun b580 a w s d=>?_
   obtain ⟨l582,h581,u⟩:=bt u
   refine I1 (α:=Channel) s d a6g 4 rfl rfl rfl 4 rfl 0 rfl 0 rfl h581 rfl trivial ?_
   intro p583 k584 c585 a w s d
   refine sv s (j5 (o':=0) runUnderlying29 rfl sizeOf27 rfl rfl rfl) rfl fun a s=>?_
   refine ws [sl p583 k584 l582] s d 3 rfl rfl rfl sizeOf27 fun a w s d=>?_
   refine nl (wp_seq ?_)
   obtain ⟨l590,h586,u⟩:=bt u
   obtain ⟨p588,k589,h587⟩:=U1 (α:=Channel) d 4 rfl h586
   obtain ⟨l595,h591,u⟩:=bt u
   obtain ⟨p593,k594,h592⟩:=U1 (α:=Channel) d 4 rfl h591
   obtain ⟨l596,h597,u⟩:=bt u
   refine z8 (fun a w=>∃ Sv600 c598,Sl 157 [(3,pt b10),(4,pt b11),(6,pt b34),(7,iv e521)] a∧Wd ⟨w0,S0,[]⟩ Sv600 [.box b10 (C43 c5 p6 k7) 43,.box b11 a3F 29,.box b34 [sl p583 k584 l596] 29,.row p583 l596.length k584 c598 73 5] [Sq p6 k7 c5.Epoch.Response.Stages,Sq none 0 ([]:List Channel),j6 c598 l596] w) ?_ ?_
   ·refine h_c [0,1,2,3] [] d rfl rfl (by kernel_rfl) rfl fun hC d=>?_
    refine gn 4 [0,1,2,3] [3] s hC rfl rfl rfl fun a s=>?_
    refine gv s 4 rfl rfl hC (fun w hC=>R5 runUnderlying27 sizeOf73 rfl ⟨_,rfl⟩ (by exact rfl) h587) fun a s=>?_
    refine gn 3 [5,6,7] [3] s hC rfl rfl rfl fun a s=>?_
    refine gv s 8 rfl rfl hC (fun w hC=>R5 runUnderlying27 sizeOf73 rfl ⟨_,rfl⟩ (by exact rfl) h592) fun a s=>?_
    refine ho 9 rfl ?_
    obtain ⟨ds_,h603⟩:=b2T (d.ownAt 4 rfl) (d.envAt 0 rfl) h591 h592
    refine a9n (α:=Channel) s d 4 rfl 0 rfl runUnderlying27 runUnderlying27 sizeOf73 (by decide) h586 h587 rfl rfl rfl h603.1 h603.2.1 h603.2.2 rfl trivial ?_
    intro c598 a w s d
    rw [Option.some.inj h597] at d
    have h599:=(a4o h586 h597)
    try have s:=s.fl 101 rfl h599
    try have s:=s.fl 106 rfl h599
    refine h_n [0,1,2,3] [] d rfl rfl fun hC=>?_
    refine y7 (by kernel_rfl) ?_
    have d:=d.fixB 3 0 rfl rfl h599
    exact ⟨Sv522,c598,wj s d [1,2,3,4] [4,5,0]⟩
   rintro a w ⟨Sv600,c598,s,d⟩
   refine tn (wp_region_lit (rn 5 [2,0] s d rfl rfl fun a s=>?_))
   refine sv s (A7 (vs:=[(0,V32 c5.Source)]) b0z rfl rfl) rfl fun a s=>?_
   obtain ⟨x606,h604,u⟩:=bt u
   obtain ⟨b613,q610,c611,h614,h607,h608,h612,h605⟩:=d.elemRV (α:=Channel) 3 rfl 2 rfl h604
   have hsv615:=s
   have hwv616:=d
   subst h614
   have s:=hsv615
   have d:=hwv616
   obtain ⟨_,_,_,_,_,rfl,rfl,rfl,rfl,rfl,⟨p617,n618,k619,rfl,h620⟩⟩:=h605
   obtain rfl:=h620.1
   have d:=d.addE (e:=SlA p617 _ k619 x606.Epochs) h620
   refine sv s (o6 runUnderlying27 sizeOf73 rfl rfl h607.1 h607.2 h608) rfl fun a s=>?_
   obtain ⟨l622,h621,u⟩:=bt u
   have d:=d.addE (e:=SlA (α:=Epoch) none 0 0 []) O7
   refine a4F (α:=Channel) s d 3 rfl 4 rfl h608 rfl rfl sizeOf73 rfl h621 ⟨_,_,_,_,_,rfl,rfl,rfl,rfl,rfl,⟨_,_,_,rfl,d.envAt 0 rfl⟩⟩ trivial ?_
   intro c623 a w s d
   have h624:=X5 h621
   try have s:=s.fl 111 rfl h624
   have d:=d.fixB 2 0 rfl rfl h624
   exact nl ⟨l622,e521,c623,(ad b613),k584,Sv600,u,wj s d [0,1,2,3] [3,4,0]⟩
  exact sk ⟨x106,rv36.1,c102,p103,k104,Sv105,u,wj s d [0,1,2,3] [0,1,2]⟩
 rintro a w ⟨x336,i337,c332,p333,k334,Sv335,u,s,d⟩
 refine tn (wp_seq (wp_seq ?_))
 obtain ⟨x340,h338,u⟩:=bt u
 obtain ⟨b347,q344,c345,h348,h341,h342,h346,h339⟩:=d.elemRV (α:=Channel) 3 rfl 2 rfl h338
 have hsv349:=s
 have hwv350:=d
 subst h348
 have s:=hsv349
 have d:=hwv350
 obtain ⟨_,_,_,_,_,rfl,rfl,rfl,rfl,rfl,⟨p351,n352,k353,rfl,h354⟩⟩:=h339
 obtain rfl:=h354.1
 have d:=d.addE (e:=SlA p351 _ k353 x340.Epochs) h354
 obtain ⟨rv356,h355,u⟩:=bt u
 refine z8 (fun a w=>∃ Sv357,Sl 157 [(3,pt b10),(4,pt b11),(6,pt b34),(7,iv i337),(125,.bool rv356)] a∧Wd ⟨w0,S0,[]⟩ Sv357 [.box b10 (C43 c5 p6 k7) 43,.box b11 a3F 29,.box b34 [sl (ad b347) k334 x336] 29,.row (ad b347) x336.length k334 c332 73 5] [Sq p6 k7 c5.Epoch.Response.Stages,Sq none 0 ([]:List Channel),j6 c332 x336] w) ?_ ?_
 ·refine h_c [0,1,2,3] [] d rfl rfl (by kernel_rfl) rfl fun hC d=>?_
  refine gn 3 [0,1,2] [2] s hC rfl rfl rfl fun a s=>?_
  refine gx s 3 rfl trivial rfl hC runUnderlying27 sizeOf73 rfl rfl h341 h342 fun a s=>?_
  refine gv s 4 rfl rfl hC (fun w hC=>j5 (o':=q344+4) runUnderlying73 rfl sizeOf71 rfl rfl rfl) fun a s=>?_
  refine gv s 5 rfl rfl hC (fun w hC=>J9 (j:=4) (hC.ownAt 3 rfl) rfl isAgg71 h346 rfl) fun a s=>?_
  refine gn 2 [6,7] [0] s hC rfl rfl rfl fun a s=>?_
  refine ho 8 rfl ?_
  refine cV s d (a8j h355 d.bdom (d.bE 0 rfl) (d.bE 1 rfl)) (d9 call75 rfl) rfl fun a w s d=>?_
  refine h_n [0,1,2,3] [] d rfl rfl fun hC=>?_
  refine y7 (by kernel_rfl) ?_
  exact ⟨Sv335,wj s d [0,1,2,3] [1,2,3]⟩
 rintro a w ⟨Sv357,s,d⟩
 refine tn (cd s u rfl (fun u=>?_) fun u=>?_)
 ·refine sr (sv s (A7 (vs:=[]) a7d rfl rfl) rfl fun a s=>?_)
  refine ws a3F s d 1 rfl rfl rfl sizeOf29 fun a w s d=>?_
  refine rz0 1 s rfl fun a s=>?_
  obtain rfl:=oi u
  exact wp_ret (j3 (a3N s rfl (I7 d 1 rfl rfl isAgg29 sizeOf29 rfl) (O0 rfl) (d.ret ⟨none,0,rfl,(d.envAt 1 rfl)⟩)))
 refine sk (wp_seq ?_)
 obtain ⟨x368,h366,u⟩:=bt u
 obtain ⟨q372,c373,h369,h370,h374,h367⟩:=d.elemRK (α:=Channel) 3 rfl 2 rfl h366
 obtain ⟨_,_,_,_,_,rfl,rfl,rfl,rfl,rfl,⟨p375,n376,k377,rfl,h378⟩⟩:=h367
 obtain rfl:=h378.1
 have d:=d.addE (e:=SlA p375 _ k377 x368.Epochs) h378
 obtain ⟨rv380,h379,u⟩:=bt u
 obtain ⟨x387,h385,u⟩:=bt u
 obtain ⟨q391,c392,h388,h389,h393,h386⟩:=d.elemRK (α:=Channel) 3 rfl 3 rfl h385
 obtain ⟨_,_,_,_,_,rfl,rfl,rfl,rfl,rfl,⟨p394,n395,k396,rfl,h397⟩⟩:=h386
 obtain rfl:=h397.1
 have d:=d.addE (e:=SlA p394 _ k396 x387.Epochs) h397
 obtain ⟨l399,h398,u⟩:=bt u
 refine z8 (fun a w=>∃ Sv402 c400,Sl 157 [(4,pt b11),(6,pt b34),(7,iv i337)] a∧Wd ⟨w0,S0,[]⟩ Sv402 [.box b11 a3F 29,.box b34 [sl (ad b347) k334 l399] 29,.row (ad b347) l399.length k334 c400 73 5] [Sq none 0 ([]:List Channel),j6 c400 l399] w) ?_ ?_
 ·refine h_c [0,1,2] [] d rfl rfl (by kernel_rfl) rfl fun hC d=>?_
  refine gn 6 [0,1,2,3,4,5] [2,2] s hC rfl rfl rfl fun a s=>?_
  refine gx s 6 rfl trivial rfl hC runUnderlying27 sizeOf73 rfl rfl h369 h370 fun a s=>?_
  refine gn 3 [7,9,10] [0] s hC rfl rfl rfl fun a s=>?_
  refine ho 8 rfl ?_
  refine sv s (J9 (j:=4) (d.ownAt 3 rfl) rfl isAgg71 h374 rfl) rfl fun a s=>?_
  refine h_n [0,1,2] [] d rfl rfl fun hC=>?_
  refine ho 11 rfl ?_
  refine cR s (b1p h379 d.dom (d.envAt 1 rfl) (d.envAt 2 rfl)) (d9 call76 rfl) rfl ?_
  rintro v406 Sv403 w a h404 ⟨p381,k382,c384,rfl,h407,h383⟩ s
  have d:=(d.callN h404 h407).addE (e:=j6 c384 rv380) h383
  refine h_n [1,2,3] [] d rfl rfl fun hC=>?_
  refine gx s 12 rfl trivial rfl hC runUnderlying27 sizeOf73 rfl rfl h388 h389 fun a s=>?_
  refine gv s 13 rfl rfl hC (fun w hC=>j5 (o':=q391+4) runUnderlying73 rfl sizeOf71 rfl rfl rfl) fun a s=>?_
  refine ho 14 rfl ?_
  obtain ⟨Sv409,d⟩:=F4 (α:=Epoch) d 0 rfl 0 rfl
  refine a4G (α:=Channel) (f:=4) (m:=1) s d 3 rfl 6 rfl h389 rfl rfl sizeOf71 rfl rfl rfl h398 (fun es he=>by rw [h393] at he;subst he;exact ⟨_,_,_,_,_,rfl,rfl,rfl,rfl,rfl,⟨_,_,_,rfl,d.envAt 0 rfl⟩⟩) trivial ?_
  intro c400 a w s d
  have h401:=X5 h398
  try have s:=s.fl 128 rfl h401
  try have s:=s.fl 131 rfl h401
  refine h_n [0,1,2] [] d rfl rfl fun hC=>?_
  refine y7 (by kernel_rfl) ?_
  have d:=d.fixB 2 0 rfl rfl h401
  exact ⟨Sv409,c400,wj s d [1,2,3] [6,0]⟩
 rintro a w ⟨Sv402,c400,s,d⟩
 refine tn (wp_seq (sn 5 [1] s d rfl rfl fun a s=>?_))
 obtain ⟨c424,hc424,u⟩:=bt u
 refine l9 9 (fun a w=>∃ Sv425,Sl 157 [(4,pt b11),(6,pt b34),(154,.bool c424)] a∧Wd ⟨w0,S0,[]⟩ Sv425 [.box b11 a3F 29,.box b34 [sl (ad b347) k334 l399] 29,.row (ad b347) l399.length k334 c400 73 5] [Sq none 0 ([]:List Channel),j6 c400 l399] w) ?_ ?_
 ·rcases Bool.eq_false_or_eq_true (decide (128<(l399.length:Int))) with h423 | h423
  ·have s:=s.bT 145 rfl h423
   have u:=A9 hc424 h423
   refine rn0 9 s rfl fun a s=>?_
   refine wpList_nil ?_
   obtain rfl:=oi u
   exact tn ⟨Sv402,wj s d [0,1,2] [0,1]⟩
  have s:=s.bF 145 rfl h423
  have u:=C7 hc424 h423
  refine rn 3 [1] s d rfl rfl fun a s=>?_
  obtain ⟨x428,h426,u⟩:=bt u
  obtain ⟨q432,c433,h429,h430,h434,h427⟩:=d.elemRK (α:=Channel) 2 rfl 1 rfl h426
  obtain ⟨_,_,_,_,_,rfl,rfl,rfl,rfl,rfl,⟨p435,n436,k437,rfl,h438⟩⟩:=h427
  obtain rfl:=h438.1
  have d:=d.addE (e:=SlA p435 _ k437 x428.Epochs) h438
  refine x9 s (o6 runUnderlying27 sizeOf73 rfl rfl h429.1 h429.2 h430) ⟨_,rfl,rfl⟩ rfl rfl fun a s=>?_
  refine x9 s (j5 (o':=q432+4) runUnderlying73 rfl sizeOf71 rfl rfl rfl) ⟨_,rfl,rfl⟩ rfl rfl fun a s=>?_
  refine x9 s (J9 (j:=4) (d.ownAt 2 rfl) rfl isAgg71 h434 rfl) ⟨_,rfl,rfl⟩ rfl rfl fun a s=>?_
  refine rn0 3 s rfl fun a s=>?_
  refine wpList_nil ?_
  obtain rfl:=oi u
  exact tn ⟨Sv402,wj s d [0,1,2] [1,2]⟩
 rintro a w ⟨Sv425,s,d⟩
 refine nl (cd s u rfl (fun u=>?_) fun u=>?_)
 ·refine sr (sv s (A7 (vs:=[]) a7d rfl rfl) rfl fun a s=>?_)
  refine ws a3F s d 0 rfl rfl rfl sizeOf29 fun a w s d=>?_
  refine rz0 1 s rfl fun a s=>?_
  obtain rfl:=oi u
  exact wp_ret (j3 (a3N s rfl (I7 d 0 rfl rfl isAgg29 sizeOf29 rfl) (O0 rfl) (d.ret ⟨none,0,rfl,(d.envAt 0 rfl)⟩)))
 refine sk (sn 1 [1] s d rfl rfl fun a s=>?_)
 refine ws [sl (ad b347) k334 l399] s d 0 rfl rfl rfl sizeOf29 fun a w s d=>?_
 refine rz0 1 s rfl fun a s=>?_
 obtain rfl:=oi u
 obtain ⟨Sv441,d⟩:=F4 (α:=Channel) d 2 rfl 1 rfl
 exact wp_ret (a3N s rfl (I7 d 0 rfl rfl isAgg29 sizeOf29 rfl) (O0 rfl) (d.ret ⟨(ad b347),k334,rfl,(d.envAt 0 rfl)⟩))
abbrev a5D (w0:World) (X:List Nat) (b2:Nat) (r:(Inventory × Dice)):(Nat→Prop)→World→Value→Prop:=fun S w v=>∃ p0_0 k0_0 pq0_0 kq0_0,v=.agg #[sl p0_0 k0_0 r.1.Channels]∧Outs X w0 S w [.box b2 (C94 r.2 pq0_0 kq0_0) 94]∧(Sq p0_0 k0_0 r.1.Channels).p S w∧(Sq pq0_0 kq0_0 r.2.L).p S w
abbrev a7P:List Value:=[.slice none ([]:List Channel).length 0]
theorem a5C {w0 S0 b2 p3 k4 d1 n6 r} (u:X4 d1 n6=some r) (hS:Dm S0 w0) (hin:Ins S0 w0 [.box b2 (C94 d1 p3 k4) 94]) (h5:(Sq p3 k4 d1.L).p S0 w0):Calls Tryz.prog 12 #[pt b2,iv n6] w0 (Ret (H8 [.box b2 (C94 d1 p3 k4) 94]) w0 S0 (a5D w0 (H8 [.box b2 (C94 d1 p3 k4) 94]) b2 r)):=by
 refine enI 29 func12 rfl hS hin rfl rfl rfl fun a s d=>?_
 have d:=d.addE h5
 refine sr (wa a7P s d zeroValue29 fun b7 a w s d=>?_)
 refine nl (sr (wa a7P s d zeroValue29 fun b8 a w s d=>?_))
 refine nl (wp_seq (sn0 3 s rfl fun a s=>?_))
 obtain ⟨rv10,h9,u⟩:=bt u
 refine cR s (o7 h9 d.dom (d.ins [2] (by decide) rfl) (d.envAt 0 rfl)) (d9 call23 rfl) rfl ?_
 rintro v17 Sv14 w a h15 ⟨p11,k12,rfl,h18,h13⟩ s
 have d:=(d.callO [2] [0,1] (by decide) rfl h15 h18).addE (e:=Sq p11 k12 rv10.2.L) h13
 refine rz0 1 s rfl fun a s=>?_
 obtain ⟨e106,h232,u⟩:=bt u
 refine u7 (fun a w=>∃ p107 k108 p109 k110 Sv111,Sl 29 [(4,pt b7),(5,pt b8)] a∧Wd ⟨w0,S0,H8 [.box b2 (C94 d1 p3 k4) 94]⟩ Sv111 [.box b2 [sl p107 k108 e106.1,iv e106.2.1] 94,.box b7 a7P 29,.box b8 [sl p109 k110 e106.2.2] 29] [Sq p107 k108 e106.1,Sq none 0 ([]:List Channel),Sq p109 k110 e106.2.2] w) ?_ ?_
 ·refine wp_block ?_
  have d:=d.addE (e:=SlA (α:=Channel) none 0 0 []) O7
  refine u6 (fun sv20 a w=>∃ p74 k75 p76 k77 Sv78,Sl 29 [(0,pt b2),(4,pt b7),(5,pt b8),(6,iv sv20.2.2.2)] a∧Wd ⟨w0,S0,H8 [.box b2 (C94 d1 p3 k4) 94]⟩ Sv78 [.box b2 [sl p74 k75 sv20.1,iv sv20.2.1] 94,.box b7 a7P 29,.box b8 [sl p76 k77 sv20.2.2.1] 29] [Sq p74 k75 sv20.1,Sq none 0 ([]:List Channel),Sq p76 k77 sv20.2.2.1] w) (rv10.2.L,rv10.2.At,([]:List Channel),rv10.1) h232 ⟨p11,k12,none,0,Sv14,wj s d [0,2,1] [1,0,0]⟩ ?_
  clear h232
  repeat clear u
  rintro sv20 a w tv104 ⟨p74,k75,p76,k77,Sv78,s,d⟩ u hd103
  refine wp_seq (sz0 2 s rfl fun a s=>?_)
  refine cd s u rfl (fun u=>?_) fun u=>?_
  ·refine sk (wp_seq (wp_block (wp_seq ?_)))
   obtain ⟨rv136,h135,u⟩:=bt u
   obtain ⟨rv145,h144,u⟩:=bt u
   refine z8 (fun a w=>∃ Sv150 b149 k142 k147 p141 p146,Sl 29 [(0,pt b2),(4,pt b7),(5,pt b8),(6,iv sv20.2.2.2),(7,pt b149),(8,iv rv145.2)] a∧Wd ⟨w0,S0,H8 [.box b2 (C94 d1 p3 k4) 94]⟩ Sv150 [.box b2 (C94 rv136.2 p141 k142) 94,.box b7 a7P 29,.box b8 [sl p76 k77 sv20.2.2.1] 29,.box b149 [sl p146 k147 rv145.1.Channels] 29] [Sq p141 k142 rv136.2.L,Sq none 0 ([]:List Channel),Sq p76 k77 sv20.2.2.1,Sq p146 k147 rv145.1.Channels] w) ?_ ?_
   ·refine h_c [1,2] [] d rfl rfl (by kernel_rfl) rfl fun hC d=>?_
    refine gn 3 [0,1,2] [1,1] s hC rfl rfl rfl fun a s=>?_
    refine a7h (rs:=[3,8]) (by kernel_rfl) rfl ?_
    refine a1I.cons rfl ?_ ?_
    ·refine cR s (a2o h135 d.dom (d.ins [0] (by decide) rfl) (d.envAt 0 rfl) (d.envAt 2 rfl)) (d9 call13 rfl) rfl ?_
     rintro v154 Sv151 w a h152 ⟨p137,k138,c140,p141,k142,rfl,h155,h139,h143⟩ s
     have d:=((d.callO [0] [1,2] (by decide) rfl h152 h155).addE (e:=j6 c140 rv136.1.Epoch.Response.Stages) h139).addE (e:=Sq p141 k142 rv136.2.L) h143
     refine h_n [2,3] [] d rfl rfl fun hC=>?_
     refine a7h (rs:=[4,8]) (by kernel_rfl) rfl ?_
     refine a1I.cons rfl ?_ ?_
     ·obtain ⟨Sv157,d⟩:=F4 (α:=Stage) d 0 rfl 1 rfl
      refine cR s (a4D h144 d.dom (d.envAt 5 rfl) (d.envAt 0 rfl)) (d9 call33 rfl) rfl ?_
      rintro v161 Sv158 w a h159 ⟨p146,k147,rfl,h148⟩ s
      have d:=(d.call h159).addE (e:=Sq p146 k147 rv145.1.Channels) h148
      refine h_n [1,2] [] d rfl rfl fun hC=>?_
      refine gn 3 [5,6,7] [] s hC rfl rfl rfl fun a s=>?_
      refine ho 8 rfl ?_
      refine wa a7P s d zeroValue29 fun b149 a w s d=>?_
      refine h_n [2,3] [] d rfl rfl fun hC=>?_
      refine ho 9 rfl ?_
      refine ws [sl p146 k147 rv145.1.Channels] s d 0 rfl rfl rfl sizeOf29 fun a w s d=>?_
      refine h_n [2,3] [] d rfl rfl fun hC=>?_
      refine gv s 10 rfl rfl hC (fun w hC=>X6 rfl) fun a s=>?_
      refine y7 (by kernel_rfl) ?_
      exact ⟨Sv158,b149,k142,k147,p141,p146,wj s d [1,2,3,0] [2,5,6,0]⟩
     refine a1I.cons rfl ?_ ?_
     ·refine wa a7P s d zeroValue29 fun b149 a w s d=>?_
      refine h_n [3,4] [] d rfl rfl fun hC=>?_
      refine ho 4 rfl ?_
      obtain ⟨Sv164,d⟩:=F4 (α:=Stage) d 1 rfl 1 rfl
      refine cR s (a4D h144 d.dom (d.envAt 5 rfl) (d.envAt 0 rfl)) (d9 call33 rfl) rfl ?_
      rintro v168 Sv165 w a h166 ⟨p146,k147,rfl,h148⟩ s
      have d:=(d.call h166).addE (e:=Sq p146 k147 rv145.1.Channels) h148
      refine h_n [2,3] [] d rfl rfl fun hC=>?_
      refine gn 3 [5,6,7] [] s hC rfl rfl rfl fun a s=>?_
      refine ho 9 rfl ?_
      refine ws [sl p146 k147 rv145.1.Channels] s d 0 rfl rfl rfl sizeOf29 fun a w s d=>?_
      refine h_n [2,3] [] d rfl rfl fun hC=>?_
      refine gv s 10 rfl rfl hC (fun w hC=>X6 rfl) fun a s=>?_
      refine y7 (by kernel_rfl) ?_
      exact ⟨Sv165,b149,k142,k147,p141,p146,wj s d [1,2,3,0] [2,5,6,0]⟩
     exact a1I.nil
    refine a1I.cons rfl ?_ ?_
    ·refine wa a7P s d zeroValue29 fun b149 a w s d=>?_
     refine h_n [2,3] [] d rfl rfl fun hC=>?_
     refine ho 3 rfl ?_
     refine cR s (a2o h135 d.dom (d.ins [1] (by decide) rfl) (d.envAt 0 rfl) (d.envAt 2 rfl)) (d9 call13 rfl) rfl ?_
     rintro v174 Sv171 w a h172 ⟨p137,k138,c140,p141,k142,rfl,h175,h139,h143⟩ s
     have d:=((d.callO [1] [0,2,3] (by decide) rfl h172 h175).addE (e:=j6 c140 rv136.1.Epoch.Response.Stages) h139).addE (e:=Sq p141 k142 rv136.2.L) h143
     refine h_n [3,4] [] d rfl rfl fun hC=>?_
     refine ho 4 rfl ?_
     obtain ⟨Sv177,d⟩:=F4 (α:=Stage) d 0 rfl 1 rfl
     refine cR s (a4D h144 d.dom (d.envAt 5 rfl) (d.envAt 0 rfl)) (d9 call33 rfl) rfl ?_
     rintro v181 Sv178 w a h179 ⟨p146,k147,rfl,h148⟩ s
     have d:=(d.call h179).addE (e:=Sq p146 k147 rv145.1.Channels) h148
     refine h_n [2,3] [] d rfl rfl fun hC=>?_
     refine gn 3 [5,6,7] [] s hC rfl rfl rfl fun a s=>?_
     refine ho 9 rfl ?_
     refine ws [sl p146 k147 rv145.1.Channels] s d 1 rfl rfl rfl sizeOf29 fun a w s d=>?_
     refine h_n [2,3] [] d rfl rfl fun hC=>?_
     refine gv s 10 rfl rfl hC (fun w hC=>X6 rfl) fun a s=>?_
     refine y7 (by kernel_rfl) ?_
     exact ⟨Sv178,b149,k142,k147,p141,p146,wj s d [0,2,3,1] [2,5,6,0]⟩
    exact a1I.nil
   rintro a w ⟨Sv150,b149,k142,k147,p141,p146,s,d⟩
   refine tn (sz0 2 s rfl fun a s=>?_)
   refine u7 (fun a w=>∃ (x227:(List Channel)) (p224 k225 Sv226:_),X9 sv20 rv136 x227=some tv104∧Sl 29 [(0,pt b2),(4,pt b7),(5,pt b8),(6,iv sv20.2.2.2)] a∧Wd ⟨w0,S0,H8 [.box b2 (C94 d1 p3 k4) 94]⟩ Sv226 [.box b2 (C94 rv136.2 p141 k142) 94,.box b7 a7P 29,.box b8 [sl p224 k225 x227] 29] [Sq p141 k142 rv136.2.L,Sq none 0 ([]:List Channel),Sq p224 k225 x227] w) ?_ ?_
   ·refine cd s u rfl (fun u=>?_) fun u=>?_
    ·refine wp_region_lit (sv s (a1r (d.ownAt 3 rfl) rfl isAgg29 sizeOf29 rfl rfl) rfl fun a s=>?_)
     refine ws [sl p146 k147 rv145.1.Channels] s d 2 rfl rfl rfl sizeOf29 fun a w s d=>?_
     exact nl ⟨rv145.1.Channels,p146,k147,Sv150,u,wj s d [0,1,2] [0,1,3]⟩
    exact sk ⟨sv20.2.2.1,p76,k77,Sv150,u,wj s d [0,1,2] [0,1,2]⟩
   rintro a w ⟨x227,p224,k225,Sv226,u,s,d⟩
   refine l7 (tn (wp_region_lit (rn0 2 s rfl fun a s=>?_)))
   obtain ⟨i229,h228,u⟩:=bt u
   refine sv s (q8 rfl h228) rfl fun a s=>?_
   exact nl ⟨_,io u,p141,k142,p224,k225,Sv226,wj s d [0,1,2] [0,1,2]⟩
  refine wp_exit (j4 (j4 (o9 ?_)))
  obtain rfl:=oi u
  have h231:=hd103 _ rfl
  subst h231
  exact tn ⟨p74,k75,p76,k77,Sv78,wj s d [0,1,2] [0,1,2]⟩
 rintro a w ⟨p107,k108,p109,k110,Sv111,s,d⟩
 refine tn (sn 1 [2] s d rfl rfl fun a s=>?_)
 refine ws [sl p109 k110 e106.2.2] s d 1 rfl rfl rfl sizeOf29 fun a w s d=>?_
 refine nl ?_
 obtain rfl:=oi u
 exact wp_ret (a6d s rfl (I7 d 1 rfl rfl isAgg29 sizeOf29 rfl) (d.ret ⟨p109,k110,p107,k108,rfl,(d.outs [0] (by decide) rfl),(d.envAt 2 rfl),(d.envAt 0 rfl)⟩))
abbrev b0u (w0:World) (X:List Nat) (r:(Channel × Bool)):Rd:=fun S w v=>∃ p0_4 k0_4,v=.tuple #[V73 r.1 p0_4 k0_4,.bool r.2]∧(Sq p0_4 k0_4 r.1.Epochs).p S w
theorem b0t {w0 S0 p2 k3 inv1 s5 r} (u:a3M inv1 s5=some r) (hS:Dm S0 w0) (h4:(Sq p2 k3 inv1.Channels).p S0 w0):Ck Tryz.prog 60 #[.agg #[sl p2 k3 inv1.Channels],V32 s5] w0 S0 [] b0u r:=by
 refine en 34 func60 rfl hS rfl rfl rfl fun a s d=>?_
 have d:=d.addE h4
 refine sr (wb [sl p2 k3 inv1.Channels] s d rfl fun b6 a w s d=>?_)
 refine wb (C32 s5) s d rfl fun b7 a w s d=>?_
 refine wa Z2 s d zeroValue73 fun b8 a w s d=>?_
 refine rz0 1 s rfl fun a s=>?_
 refine wp_seq (sz0 1 s rfl fun a s=>?_)
 refine wp_block ?_
 have d:=d.addE (e:=SlA (α:=Epoch) none 0 0 []) O7
 refine u6 (fun sv185 a w=>∃ Sv301,Sl 34 [(2,pt b6),(3,pt b7),(4,pt b8),(6,iv sv185)] a∧Wd ⟨w0,S0,[]⟩ Sv301 [.box b6 [sl p2 k3 inv1.Channels] 29,.box b7 (C32 s5) 32,.box b8 Z2 73] [Sq p2 k3 inv1.Channels,Sq none 0 ([]:List Epoch)] w) 0 u ⟨S0,wj s d [2,1,0] [1,0]⟩ ?_
 repeat clear u
 rintro sv185 a w tv360 ⟨Sv301,s,d⟩ u hd359
 refine wp_seq (sz 5 [0] s d rfl rfl fun a s=>?_)
 refine cd s u rfl (fun u=>?_) fun u=>?_
 ·refine sk (wp_seq (wp_block (wp_seq ?_)))
  obtain ⟨x421,h419,u⟩:=bt u
  obtain ⟨b427,o428,q425,c426,h429,h422,h423,h424,h420⟩:=d.elemV 0 rfl h419
  have hsv430:=s
  have hwv431:=d
  subst h429
  have s:=hsv430
  have d:=hwv431
  obtain ⟨_,_,_,_,_,rfl,rfl,rfl,rfl,rfl,⟨p432,n433,k434,rfl,h435⟩⟩:=h420
  obtain rfl:=h435.1
  have d:=(d.addE (e:=SlA p432 _ k434 x421.Epochs) h435).addE h424
  refine z8 (fun a w=>∃ Sv436,Sl 34 [(2,pt b6),(3,pt b7),(4,pt b8),(6,iv sv185),(21,.bool ((x421.Source.Network == s5.Network) && ((x421.Source.Station == s5.Station) && ((x421.Source.Location == s5.Location) && ((x421.Source.Channel == s5.Channel) && true)))))] a∧Wd ⟨w0,S0,[]⟩ Sv436 [.box b6 [sl (some ⟨b427,o428,none⟩) k3 inv1.Channels] 29,.box b7 (C32 s5) 32,.box b8 Z2 73] [Sq (some ⟨b427,o428,none⟩) k3 inv1.Channels,Sq none 0 ([]:List Epoch)] w) ?_ ?_
  ·refine h_c [0,1,2] [0] d rfl rfl (by kernel_rfl) rfl fun hC d=>?_
   refine gn 3 [0,1,2] [0] s hC rfl rfl rfl fun a s=>?_
   refine gx s 3 rfl trivial rfl hC runUnderlying27 sizeOf73 rfl rfl h422 h423 fun a s=>?_
   refine gv s 4 rfl rfl hC (fun w hC=>j5 (o':=q425+0) runUnderlying73 rfl sizeOf32 rfl rfl rfl) fun a s=>?_
   refine gv s 5 rfl rfl hC (fun w hC=>F8 (j:=0) (hC.ceAt 0 rfl) rfl isAgg32 sizeOf32 rfl rfl) fun a s=>?_
   refine gv s 6 rfl rfl hC (fun w hC=>a1r (hC.ownAt 1 rfl) rfl isAgg32 sizeOf32 rfl rfl) fun a s=>?_
   refine gv s 7 rfl rfl hC (fun w hC=>a1f (by kernel_rfl) rfl rfl (P8 runUnderlying32 (by kernel_rfl) (EqF.cons1 rfl isAgg9 rfl rfl (L9 runUnderlying9) (EqF.cons1 rfl isAgg9 rfl rfl (L9 runUnderlying9) (EqF.cons1 rfl isAgg9 rfl rfl (L9 runUnderlying9) (EqF.cons1 rfl isAgg9 rfl rfl (L9 runUnderlying9) EqF.nil)))))) fun a s=>?_
   refine y7 (by kernel_rfl) ?_
   exact ⟨Sv301,wj s d [0,1,2] [2,3]⟩
  rintro a w ⟨Sv436,s,d⟩
  refine tn (cd s u rfl (fun u=>?_) fun u=>?_)
  ·refine sn 5 [0] s d rfl rfl fun a s=>?_
   obtain ⟨l479,h474,u⟩:=bt u
   obtain ⟨p477,k478,h475,h476⟩:=a6U (d.envAt 0 rfl) h474
   have d:=d.addE h475
   refine sv s (R5 runUnderlying27 sizeOf73 rfl ⟨_,rfl⟩ ⟨_,rfl⟩ h476) rfl fun a s=>?_
   refine sv s (A7 (vs:=[(0,sl p477 k478 l479)]) a7d rfl rfl) rfl fun a s=>?_
   obtain ⟨rv481,h480,u⟩:=bt u
   refine cR s (a7i h480 d.dom (d.envAt 0 rfl)) (d9 call73 rfl) rfl ?_
   rintro v489 Sv486 w a h487 ⟨p482,k483,c485,rfl,h490,h484⟩ s
   have d:=(d.callN h487 h490).addE (e:=j6 c485 rv481.Channels) h484
   refine sv s (b3B runUnderlying29 rfl isAgg27 rfl rfl) rfl fun a s=>?_
   obtain ⟨x494,h492,u⟩:=bt u
   obtain ⟨b501,q498,c499,h502,h495,h496,h500,h493⟩:=d.elemRV (α:=Channel) 0 rfl 0 rfl h492
   have hsv503:=s
   have hwv504:=d
   subst h502
   have s:=hsv503
   have d:=hwv504
   obtain ⟨_,_,_,_,_,rfl,rfl,rfl,rfl,rfl,⟨p505,n506,k507,rfl,h508⟩⟩:=h493
   obtain rfl:=h508.1
   have d:=d.addE (e:=SlA p505 _ k507 x494.Epochs) h508
   refine sv s (o6 runUnderlying27 sizeOf73 rfl rfl h495.1 h495.2 h496) rfl fun a s=>?_
   refine sv s (P5 (j:=0) (d.ownAt 0 rfl) rfl isAgg73 sizeOf73 h500 rfl rfl) rfl fun a s=>?_
   refine ws (C73 x494 p505 k507) s d 3 rfl rfl rfl sizeOf73 fun a w s d=>?_
   refine rz0 1 s rfl fun a s=>?_
   obtain rfl:=oi u
   have h509:=hd359 _ rfl
   subst h509
   exact wp_ret (w9 (j3 (j3 (w9 (j3 (a3N s rfl (I7 d 3 rfl rfl isAgg73 sizeOf73 rfl) (O0 rfl) (d.ret ⟨p505,k507,rfl,(d.envAt 0 rfl)⟩)))))))
  refine wp_skip (l7 (tn (wp_region_lit (rn0 2 s rfl fun a s=>?_))))
  obtain ⟨i511,h510,u⟩:=bt u
  refine sv s (q8 rfl h510) rfl fun a s=>?_
  exact nl ⟨_,io u,Sv436,wj s d [0,1,2] [0,1]⟩
 obtain ⟨rv512,u,h513⟩:=a0q u
 have h513:=(hd359 _ h513.symm).symm
 subst h513
 refine wp_exit (j4 (j4 (o9 (tn (sr (sv s (A7 (vs:=[]) b0z rfl rfl) rfl fun a s=>?_))))))
 refine ws Z2 s d 2 rfl rfl rfl sizeOf73 fun a w s d=>?_
 refine rz0 1 s rfl fun a s=>?_
 obtain rfl:=oi u
 exact wp_ret (a3N s rfl (I7 d 2 rfl rfl isAgg73 sizeOf73 rfl) (O0 rfl) (d.ret ⟨none,0,rfl,(d.envAt 1 rfl)⟩))
abbrev b2g (w0:World) (X:List Nat) (r:(Epoch × Int)):Rd:=fun S w v=>∃ p0_7 k0_7,v=.tuple #[V41 r.1 p0_7 k0_7,iv r.2]∧(Sq p0_7 k0_7 r.1.Response.Stages).p S w
theorem b2f {w0 S0 p2 k3 inv1 s5 t6 r} (u:a8i inv1 s5 t6=some r) (hS:Dm S0 w0) (h4:(Sq p2 k3 inv1.Channels).p S0 w0):Ck Tryz.prog 16 #[.agg #[sl p2 k3 inv1.Channels],V32 s5,iv t6] w0 S0 [] b2g r:=by
 refine en 52 func16 rfl hS rfl rfl rfl fun a s d=>?_
 have d:=d.addE h4
 refine sr (wb [sl p2 k3 inv1.Channels] s d rfl fun b7 a w s d=>?_)
 refine wb (C32 s5) s d rfl fun b8 a w s d=>?_
 refine wa Z1 s d zeroValue41 fun b9 a w s d=>?_
 refine rz0 1 s rfl fun a s=>?_
 refine wp_seq (sn 1 [2] s d rfl rfl fun a s=>?_)
 obtain ⟨rv11,h10,u⟩:=bt u
 refine cV s d (a4A h10 d.bdom (d.bE 0 rfl)) (d9 call18 rfl) rfl fun a w s d=>?_
 refine rz0 1 s rfl fun a s=>?_
 refine cd s u rfl (fun u=>?_) fun u=>?_
 ·refine sr (sv s (A7 (vs:=[]) b0y rfl rfl) rfl fun a s=>?_)
  refine ws Z1 s d 0 rfl rfl rfl sizeOf41 fun a w s d=>?_
  refine rz0 1 s rfl fun a s=>?_
  obtain rfl:=oi u
  have d:=d.addE (e:=SlA (α:=Stage) none 0 0 []) O7
  exact wp_ret (j3 (a3N s rfl (I7 d 0 rfl rfl isAgg41 sizeOf41 rfl) (O0 rfl) (d.ret ⟨none,0,rfl,(d.envAt 0 rfl)⟩)))
 refine sk (sn 2 [2,1] s d rfl rfl fun a s=>?_)
 obtain ⟨rv21,h20,u⟩:=bt u
 refine cR s (b0t h20 d.dom (d.envAt 0 rfl)) (d9 call60 rfl) rfl ?_
 rintro v28 Sv25 w a h26 ⟨p22,k23,rfl,h24⟩ s
 have d:=(d.call h26).addE (e:=Sq p22 k23 rv21.1.Epochs) h24
 refine rn0 3 s rfl fun a s=>?_
 refine wa Z2 s d zeroValue73 fun b31 a w s d=>?_
 refine ws (C73 rv21.1 p22 k23) s d 0 rfl rfl rfl sizeOf73 fun a w s d=>?_
 refine rz0 1 s rfl fun a s=>?_
 refine wp_seq (sz0 1 s rfl fun a s=>?_)
 refine wp_block ?_
 have d:=d.addE (e:=SlA (α:=Stage) none 0 0 []) O7
 refine u6 (fun sv217 a w=>∃ Sv339,Sl 52 [(2,iv t6),(6,pt b9),(8,pt b31),(10,iv sv217)] a∧Wd ⟨w0,S0,[]⟩ Sv339 [.box b9 Z1 41,.box b31 (C73 rv21.1 p22 k23) 73] [Sq none 0 ([]:List Stage),Sq p22 k23 rv21.1.Epochs] w) 0 u ⟨Sv25,wj s d [1,0] [0,1]⟩ ?_
 repeat clear u
 rintro sv217 a w tv401 ⟨Sv339,s,d⟩ u hd400
 refine wp_seq (sz 5 [1] s d rfl rfl fun a s=>?_)
 refine cd s u rfl (fun u=>?_) fun u=>?_
 ·refine sk (wp_seq (wp_block (sn 3 [1] s d rfl rfl fun a s=>?_)))
  obtain ⟨x465,h463,u⟩:=bt u
  obtain ⟨b471,o472,q469,c470,h473,h466,h467,h468,h464⟩:=d.elemV 1 rfl h463
  have hsv474:=s
  have hwv475:=d
  subst h473
  have s:=hsv474
  have d:=hwv475
  obtain ⟨_,_,_,_,_,_,_,_,rfl,rfl,rfl,rfl,rfl,rfl,rfl,rfl,⟨p476,n477,k478,rfl,h479⟩⟩:=h464
  obtain rfl:=h479.1
  have d:=(d.addE (e:=SlA p476 _ k478 x465.Response.Stages) h479).addE h468
  refine sv s (o6 runUnderlying71 sizeOf41 rfl rfl h466.1 h466.2 h467) rfl fun a s=>?_
  refine sv s (j5 (o':=q469+0) runUnderlying41 rfl sizeOf3 rfl rfl rfl) rfl fun a s=>?_
  refine sv s (E9 (j:=0) (d.ceAt 0 rfl) rfl isAgg3 rfl) rfl fun a s=>?_
  refine rn0 3 s rfl fun a s=>?_
  obtain ⟨c493,hc493,u⟩:=bt u
  refine l9 9 (fun a w=>∃ Sv494,Sl 52 [(2,iv t6),(6,pt b9),(8,pt b31),(10,iv sv217),(45,.bool c493)] a∧Wd ⟨w0,S0,[]⟩ Sv494 [.box b9 Z1 41,.box b31 (C73 rv21.1 (some ⟨b471,o472,none⟩) k23) 73] [Sq none 0 ([]:List Stage),Sq (some ⟨b471,o472,none⟩) k23 rv21.1.Epochs] w) ?_ ?_
  ·rcases Bool.eq_false_or_eq_true (decide (x465.From≤t6)) with h492 | h492
   ·have s:=s.bT 36 rfl h492
    have u:=A9 hc493 h492
    refine rn 4 [1] s d rfl rfl fun a s=>?_
    obtain ⟨x497,h495,u⟩:=bt u
    obtain ⟨q501,c502,h498,h499,h500,h496⟩:=d.elemK 3 rfl h495
    obtain ⟨_,_,_,_,_,_,_,_,rfl,rfl,rfl,rfl,rfl,rfl,rfl,rfl,⟨p503,n504,k505,rfl,h506⟩⟩:=h496
    obtain rfl:=h506.1
    have d:=(d.addE (e:=SlA p503 _ k505 x497.Response.Stages) h506).addE h500
    refine x9 s (o6 runUnderlying71 sizeOf41 rfl rfl h498.1 h498.2 h499) ⟨_,rfl,rfl⟩ rfl rfl fun a s=>?_
    refine x9 s (j5 (o':=q501+1) runUnderlying41 rfl sizeOf3 rfl rfl rfl) ⟨_,rfl,rfl⟩ rfl rfl fun a s=>?_
    refine x9 s (E9 (j:=1) (d.ceAt 0 rfl) rfl isAgg3 rfl) ⟨_,rfl,rfl⟩ rfl rfl fun a s=>?_
    refine rn0 2 s rfl fun a s=>?_
    refine wpList_nil ?_
    obtain rfl:=oi u
    exact tn ⟨Sv339,wj s d [0,1] [4,5]⟩
   have s:=s.bF 36 rfl h492
   have u:=C7 hc493 h492
   refine rn0 9 s rfl fun a s=>?_
   refine wpList_nil ?_
   obtain rfl:=oi u
   exact tn ⟨Sv339,wj s d [0,1] [2,3]⟩
  rintro a w ⟨Sv494,s,d⟩
  refine nl (cd s u rfl (fun u=>?_) fun u=>?_)
  ·refine sn 3 [1] s d rfl rfl fun a s=>?_
   obtain ⟨x523,h521,u⟩:=bt u
   obtain ⟨q527,c528,h524,h525,h526,h522⟩:=d.elemK 1 rfl h521
   obtain ⟨_,_,_,_,_,_,_,_,rfl,rfl,rfl,rfl,rfl,rfl,rfl,rfl,⟨p529,n530,k531,rfl,h532⟩⟩:=h522
   obtain rfl:=h532.1
   have d:=(d.addE (e:=SlA p529 _ k531 x523.Response.Stages) h532).addE h526
   refine sv s (o6 runUnderlying71 sizeOf41 rfl rfl h524.1 h524.2 h525) rfl fun a s=>?_
   refine sv s (F8 (j:=0) (d.ceAt 0 rfl) rfl isAgg41 sizeOf41 rfl rfl) rfl fun a s=>?_
   refine ws (C41 x523 p529 k531) s d 0 rfl rfl rfl sizeOf41 fun a w s d=>?_
   refine rz0 1 s rfl fun a s=>?_
   obtain rfl:=oi u
   have h533:=hd400 _ rfl
   subst h533
   exact wp_ret (w9 (j3 (j3 (w9 (j3 (a3N s rfl (I7 d 0 rfl rfl isAgg41 sizeOf41 rfl) (O0 rfl) (d.ret ⟨p529,k531,rfl,(d.envAt 1 rfl)⟩)))))))
  refine wp_skip (l7 (tn (wp_region_lit (rn0 2 s rfl fun a s=>?_))))
  obtain ⟨i535,h534,u⟩:=bt u
  refine sv s (q8 rfl h534) rfl fun a s=>?_
  exact nl ⟨_,io u,Sv494,wj s d [0,1] [0,1]⟩
 obtain ⟨rv536,u,h537⟩:=a0q u
 have h537:=(hd400 _ h537.symm).symm
 subst h537
 refine wp_exit (j4 (j4 (o9 (tn (sr (sv s (A7 (vs:=[]) b0y rfl rfl) rfl fun a s=>?_))))))
 refine ws Z1 s d 0 rfl rfl rfl sizeOf41 fun a w s d=>?_
 refine rz0 1 s rfl fun a s=>?_
 obtain rfl:=oi u
 exact wp_ret (a3N s rfl (I7 d 0 rfl rfl isAgg41 sizeOf41 rfl) (O0 rfl) (d.ret ⟨none,0,rfl,(d.envAt 0 rfl)⟩))
theorem a5T {w0 S0 p2 k3 l1 r} (u:a2d l1=some r) (hS:Dm S0 w0) (h4:(Sq p2 k3 l1).p S0 w0):Ck Tryz.prog 61 #[sl p2 k3 l1] w0 S0 [] D5 r:=by
 refine en 117 func61 rfl hS rfl rfl rfl fun a s d=>?_
 have d:=d.addE h4
 refine sz0 1 s rfl fun a s=>?_
 refine sz0 1 s rfl fun a s=>?_
 refine wp_seq (sz0 1 s rfl fun a s=>?_)
 obtain ⟨e539,h1541,u⟩:=bt u
 refine u7 (fun a w=>∃ c540 p541 k542 Sv543,Sl 117 [(3,sl p541 k542 e539)] a∧Wd ⟨w0,S0,[]⟩ Sv543 [.row p541 e539.length k542 c540 52 2] [j6 c540 e539] w) ?_ ?_
 ·refine wp_block ?_
  have d:=d.nilRow Span 52
  refine u6 (fun sv5 a w=>∃ c358 p359 k360 Sv361,Sl 117 [(0,sl p2 k3 l1),(3,sl p359 k360 sv5.1),(4,iv sv5.2)] a∧Wd ⟨w0,S0,[]⟩ Sv361 [.row p359 sv5.1.length k360 c358 52 2] [Sq p2 k3 l1,j6 c358 sv5.1] w) (([]:List Span),0) h1541 ⟨[],none,0,S0,wj s d [0] [1,0]⟩ ?_
  clear h1541
  repeat clear u
  rintro sv5 a w tv537 ⟨c358,p359,k360,Sv361,s,d⟩ u hd536
  refine wp_seq (sz0 4 s rfl fun a s=>?_)
  refine cd s u rfl (fun u=>?_) fun u=>?_
  ·refine sk (wp_seq (u7 (fun a w=>∃ (sorted716:(List Span)) (c712 p713 k714 Sv715:_),a2z sv5 sorted716=some tv537∧Sl 117 [(0,sl p2 k3 l1),(3,sl p713 k714 sorted716),(4,iv sv5.2)] a∧Wd ⟨w0,S0,[]⟩ Sv715 [.row p713 sorted716.length k714 c712 52 2] [Sq p2 k3 l1,j6 c712 sorted716] w) ?_ ?_))
   ·refine wp_block (wp_seq (wp_seq ?_))
    obtain ⟨x721,h719,u⟩:=bt u
    obtain ⟨b727,o728,q725,c726,h729,h722,h723,h724,h720⟩:=d.elemV 0 rfl h719
    have hsv730:=s
    have hwv731:=d
    subst h729
    have s:=hsv730
    have d:=hwv731
    obtain ⟨_,_,rfl,rfl,rfl⟩:=h720
    have d:=d.addE h724
    obtain ⟨x734,h732,u⟩:=bt u
    obtain ⟨q738,c739,h735,h736,h737,h733⟩:=d.elemK 1 rfl h732
    obtain ⟨_,_,rfl,rfl,rfl⟩:=h733
    have d:=d.addE h737
    refine z8 (fun a w=>∃ Sv740,Sl 117 [(0,sl (some ⟨b727,o728,none⟩) k3 l1),(3,sl p359 k360 sv5.1),(4,iv sv5.2),(25,.bool (decide (x734.To≤x721.From)))] a∧Wd ⟨w0,S0,[]⟩ Sv740 [.row p359 sv5.1.length k360 c358 52 2] [Sq (some ⟨b727,o728,none⟩) k3 l1,j6 c358 sv5.1] w) ?_ ?_
    ·refine h_c [0] [0,1] d rfl rfl (by kernel_rfl) rfl fun hC d=>?_
     refine gn 2 [0,1] [] s hC rfl rfl rfl fun a s=>?_
     refine gx s 2 rfl trivial rfl hC runUnderlying50 sizeOf52 rfl rfl h722 h723 fun a s=>?_
     refine gv s 3 rfl rfl hC (fun w hC=>j5 (o':=q725+0) runUnderlying52 rfl sizeOf3 rfl rfl rfl) fun a s=>?_
     refine gv s 4 rfl rfl hC (fun w hC=>E9 (j:=0) (hC.ceAt 1 rfl) rfl isAgg3 rfl) fun a s=>?_
     refine gn 2 [5,6] [] s hC rfl rfl rfl fun a s=>?_
     refine gx s 7 rfl trivial rfl hC runUnderlying50 sizeOf52 rfl rfl h735 h736 fun a s=>?_
     refine gv s 8 rfl rfl hC (fun w hC=>j5 (o':=q738+1) runUnderlying52 rfl sizeOf3 rfl rfl rfl) fun a s=>?_
     refine gv s 9 rfl rfl hC (fun w hC=>E9 (j:=1) (hC.ceAt 0 rfl) rfl isAgg3 rfl) fun a s=>?_
     refine gv s 10 rfl rfl hC (fun w hC=>a7l rfl rfl) fun a s=>?_
     refine y7 (by kernel_rfl) ?_
     exact ⟨Sv361,wj s d [0] [2,3]⟩
    rintro a w ⟨Sv740,s,d⟩
    refine tn (cd s u rfl (fun u=>?_) fun u=>?_)
    ·exact wp_exit (j4 (o9 (tn ⟨sv5.1,c358,p359,k360,Sv740,u,wj s d [0] [0,1]⟩)))
    refine sk (sn0 2 s rfl fun a s=>?_)
    obtain ⟨k744,h743,u⟩:=bt u
    refine sv s (q8 rfl h743) rfl fun a s=>?_
    refine nl (wp_seq ?_)
    obtain ⟨e829,h943,u⟩:=bt u
    refine u7 (fun a w=>∃ Sv830,Sl 117 [(0,sl (some ⟨b727,o728,none⟩) k3 l1),(3,sl p359 k360 sv5.1),(4,iv sv5.2),(5,iv e829)] a∧Wd ⟨w0,S0,[]⟩ Sv830 [.row p359 sv5.1.length k360 c358 52 2] [Sq (some ⟨b727,o728,none⟩) k3 l1,j6 c358 sv5.1] w) ?_ ?_
    ·refine wp_block (u6 (fun sv745 a w=>∃ Sv799,Sl 117 [(0,sl (some ⟨b727,o728,none⟩) k3 l1),(3,sl p359 k360 sv5.1),(4,iv sv5.2),(5,iv sv745)] a∧Wd ⟨w0,S0,[]⟩ Sv799 [.row p359 sv5.1.length k360 c358 52 2] [Sq (some ⟨b727,o728,none⟩) k3 l1,j6 c358 sv5.1] w) k744 h943 ⟨Sv740,wj s d [0] [0,1]⟩ ?_)
     clear h943
     repeat clear u
     rintro sv745 a w tv827 ⟨Sv799,s,d⟩ u hd826
     refine wp_seq (wp_seq ?_)
     obtain ⟨c852,hc852,u⟩:=bt u
     refine z8 (fun a w=>∃ Sv853,Sl 117 [(0,sl (some ⟨b727,o728,none⟩) k3 l1),(3,sl p359 k360 sv5.1),(4,iv sv5.2),(5,iv sv745),(43,.bool c852)] a∧Wd ⟨w0,S0,[]⟩ Sv853 [.row p359 sv5.1.length k360 c358 52 2] [Sq (some ⟨b727,o728,none⟩) k3 l1,j6 c358 sv5.1] w) ?_ ?_
     ·rcases Bool.eq_false_or_eq_true (decide (0<sv745)) with h854 | h854
      ·have h855:=A9 hc852 h854
       obtain ⟨x858,h856,h855⟩:=O6 h855
       obtain ⟨b865,q862,c863,h866,h859,h860,h864,h857⟩:=d.elemRV (α:=Span) 0 rfl 1 rfl h856
       have hsv867:=s
       have hwv868:=d
       subst h866
       have s:=hsv867
       have d:=hwv868
       obtain ⟨_,_,rfl,rfl,rfl⟩:=h857
       obtain ⟨x871,h869,h855⟩:=O6 h855
       obtain ⟨q875,c876,h872,h873,h874,h870⟩:=d.elemK 0 rfl h869
       obtain ⟨_,_,rfl,rfl,rfl⟩:=h870
       have d:=d.addE h874
       refine h_c [0] [0] d rfl rfl (by kernel_rfl) rfl fun hC d=>?_
       refine gn 3 [0,1,2] [] s hC rfl rfl rfl fun a s=>?_
       have s:=s.bT 30 rfl h854
       refine gn 3 [3,4,5] [] s hC rfl rfl rfl fun a s=>?_
       refine gx s 6 rfl ⟨_,rfl,rfl⟩ rfl hC runUnderlying50 sizeOf52 rfl rfl h859 h860 fun a s=>?_
       refine gt s 7 rfl ⟨_,rfl,rfl⟩ rfl hC (fun w hC=>j5 (o':=q862+0) runUnderlying52 rfl sizeOf3 rfl rfl rfl) fun a s=>?_
       refine gt s 8 rfl ⟨_,rfl,rfl⟩ rfl hC (fun w hC=>J9 (j:=0) (hC.ownAt 0 rfl) rfl isAgg3 h864 rfl) fun a s=>?_
       refine gn 2 [9,10] [] s hC rfl rfl rfl fun a s=>?_
       refine gx s 11 rfl ⟨_,rfl,rfl⟩ rfl hC runUnderlying50 sizeOf52 rfl rfl h872 h873 fun a s=>?_
       refine gt s 12 rfl ⟨_,rfl,rfl⟩ rfl hC (fun w hC=>j5 (o':=q875+0) runUnderlying52 rfl sizeOf3 rfl rfl rfl) fun a s=>?_
       refine gt s 13 rfl ⟨_,rfl,rfl⟩ rfl hC (fun w hC=>E9 (j:=0) (hC.ceAt 0 rfl) rfl isAgg3 rfl) fun a s=>?_
       refine gt s 14 rfl ⟨_,rfl,rfl⟩ rfl hC (fun w hC=>y_gtr rfl rfl) fun a s=>?_
       refine gT s 15 rfl rfl hC rfl rfl h855 fun a s=>?_
       refine y7 (by kernel_rfl) ?_
       exact ⟨Sv799,wj s d [0] [1,2]⟩
      have h877:=C7 hc852 h854
      refine h_c [0] [] d rfl rfl (by kernel_rfl) rfl fun hC d=>?_
      refine gn 3 [0,1,2] [] s hC rfl rfl rfl fun a s=>?_
      have s:=s.bF 30 rfl h854
      refine gn 12 [3,4,5,6,7,8,9,10,11,12,13,14] [] s hC rfl rfl rfl fun a s=>?_
      refine gF s 15 rfl rfl hC rfl rfl h877 fun a s=>?_
      refine y7 (by kernel_rfl) ?_
      exact ⟨Sv799,wj s d [0] [0,1]⟩
     rintro a w ⟨Sv853,s,d⟩
     refine tn (cd s u rfl (fun u=>?_) fun u=>?_)
     ·refine sk (wp_block (wp_region_lit (rn0 2 s rfl fun a s=>?_)))
      obtain ⟨k883,h882,u⟩:=bt u
      refine sv s (q8 rfl h882) rfl fun a s=>?_
      refine wpList_nil ?_
      exact l7 (tn ⟨_,io u,Sv853,wj s d [0] [0,1]⟩)
     refine wp_exit (j4 (j4 (o9 ?_)))
     obtain rfl:=oi u
     have h884:=hd826 _ rfl
     subst h884
     exact tn ⟨Sv853,wj s d [0] [0,1]⟩
    rintro a w ⟨Sv830,s,d⟩
    refine tn (sn0 3 s rfl fun a s=>?_)
    obtain ⟨x887,h885,u⟩:=bt u
    obtain ⟨q891,c892,h888,h889,h890,h886⟩:=d.elemK 0 rfl h885
    obtain ⟨_,_,rfl,rfl,rfl⟩:=h886
    have d:=d.addE h890
    refine sv s (o6 runUnderlying50 sizeOf52 rfl rfl h888.1 h888.2 h889) rfl fun a s=>?_
    refine sv s (F8 (j:=0) (d.ceAt 0 rfl) rfl isAgg52 sizeOf52 rfl rfl) rfl fun a s=>?_
    refine x8 (α:=Span) (vs:=[V52 x887]) (cs:=(C52 x887)) (xs:=([x887]:List Span)) s d a4b rfl rfl rfl rfl rfl rfl ⟨⟨_,_,rfl,rfl,rfl⟩,rfl⟩ rfl trivial rfl fun b894 a w s d=>?_
    obtain ⟨l896,h895,u⟩:=bt u
    refine I1 (α:=Span) s d a4b 1 rfl rfl rfl 3 rfl 0 rfl 0 rfl h895 rfl trivial ?_
    intro p897 k898 c899 a w s d
    refine rz0 1 s rfl fun a s=>?_
    refine wp_seq ?_
    obtain ⟨l904,h900,u⟩:=bt u
    obtain ⟨p902,k903,h901⟩:=U1 (α:=Span) d 1 rfl h900
    obtain ⟨l909,h905,u⟩:=bt u
    obtain ⟨p907,k908,h906⟩:=U1 (α:=Span) d 1 rfl h905
    obtain ⟨l910,h911,u⟩:=bt u
    refine z8 (fun a w=>∃ Sv914 c912,Sl 117 [(0,sl (some ⟨b727,o728,none⟩) k3 l1),(3,sl p897 k898 l910),(4,iv sv5.2),(5,iv e829)] a∧Wd ⟨w0,S0,[]⟩ Sv914 [.row p897 l910.length k898 c912 52 2] [Sq (some ⟨b727,o728,none⟩) k3 l1,j6 c912 l910] w) ?_ ?_
    ·refine h_c [0] [2] d rfl rfl (by kernel_rfl) rfl fun hC d=>?_
     refine gn 3 [0,1,2] [] s hC rfl rfl rfl fun a s=>?_
     refine gv s 3 rfl rfl hC (fun w hC=>R5 runUnderlying50 sizeOf52 rfl ⟨_,rfl⟩ (by exact rfl) h901) fun a s=>?_
     refine gn 2 [4,5] [] s hC rfl rfl rfl fun a s=>?_
     refine gv s 6 rfl rfl hC (fun w hC=>R5 runUnderlying50 sizeOf52 rfl ⟨_,rfl⟩ (by exact rfl) h906) fun a s=>?_
     refine ho 7 rfl ?_
     obtain ⟨ds_,h917⟩:=b2T (d.ownAt 1 rfl) (d.envAt 0 rfl) h905 h906
     refine a9n (α:=Span) s d 1 rfl 0 rfl runUnderlying50 runUnderlying50 sizeOf52 (by decide) h900 h901 rfl rfl rfl h917.1 h917.2.1 h917.2.2 rfl trivial ?_
     intro c912 a w s d
     rw [Option.some.inj h911] at d
     have h913:=(a4o h900 h911)
     try have s:=s.fl 3 rfl h913
     try have s:=s.fl 53 rfl h913
     try have s:=s.fl 57 rfl h913
     refine h_n [0] [3] d rfl rfl fun hC=>?_
     refine y7 (by kernel_rfl) ?_
     exact ⟨Sv830,c912,wj s d [1] [4,0]⟩
    rintro a w ⟨Sv914,c912,s,d⟩
    refine tn (wp_region_lit (rn0 4 s rfl fun a s=>?_))
    obtain ⟨x920,h918,u⟩:=bt u
    obtain ⟨q924,c925,h921,h922,h923,h919⟩:=d.elemK 0 rfl h918
    obtain ⟨_,_,rfl,rfl,rfl⟩:=h919
    have d:=d.addE h923
    refine sv s (o6 runUnderlying50 sizeOf52 rfl rfl h921.1 h921.2 h922) rfl fun a s=>?_
    refine sv s (F8 (j:=0) (d.ceAt 0 rfl) rfl isAgg52 sizeOf52 rfl rfl) rfl fun a s=>?_
    obtain ⟨x928,h926,u⟩:=bt u
    obtain ⟨b935,q932,c933,h936,h929,h930,h934,h927⟩:=d.elemRV (α:=Span) 0 rfl 2 rfl h926
    have hsv937:=s
    have hwv938:=d
    subst h936
    have s:=hsv937
    have d:=hwv938
    obtain ⟨_,_,rfl,rfl,rfl⟩:=h927
    refine sv s (o6 runUnderlying50 sizeOf52 rfl rfl h929.1 h929.2 h930) rfl fun a s=>?_
    obtain ⟨l940,h939,u⟩:=bt u
    refine a4F (α:=Span) s d 0 rfl 2 rfl h930 rfl rfl sizeOf52 rfl h939 ⟨_,_,rfl,rfl,rfl⟩ trivial ?_
    intro c941 a w s d
    have h942:=X5 h939
    try have s:=s.fl 3 rfl h942
    try have s:=s.fl 61 rfl h942
    refine wpList_nil ?_
    exact l7 (tn ⟨l940,c941,(ad b935),k898,Sv914,u,wj s d [0] [2,0]⟩)
   rintro a w ⟨sorted716,c712,p713,k714,Sv715,u,s,d⟩
   refine tn (wp_region_lit (rn0 2 s rfl fun a s=>?_))
   obtain ⟨i718,h717,u⟩:=bt u
   refine sv s (q8 rfl h717) rfl fun a s=>?_
   exact nl ⟨_,io u,c712,p713,k714,Sv715,wj s d [0] [0,1]⟩
  refine wp_exit (j4 (j4 (o9 ?_)))
  obtain rfl:=oi u
  have h944:=hd536 _ rfl
  subst h944
  exact tn ⟨c358,p359,k360,Sv361,wj s d [0] [1]⟩
 rintro a w ⟨c540,p541,k542,Sv543,s,d⟩
 refine tn (sz0 1 s rfl fun a s=>?_)
 refine wp_seq (sz0 1 s rfl fun a s=>?_)
 obtain ⟨e1248,h1540,u⟩:=bt u
 refine u7 (fun a w=>∃ c1249 p1250 k1251 Sv1252,Sl 117 [(6,sl p1250 k1251 e1248)] a∧Wd ⟨w0,S0,[]⟩ Sv1252 [.row p1250 e1248.length k1251 c1249 52 2] [j6 c1249 e1248] w) ?_ ?_
 ·refine wp_block ?_
  have d:=d.nilRow Span 52
  refine u6 (fun sv945 a w=>∃ c1142 p1143 k1144 Sv1145,Sl 117 [(3,sl p541 k542 e539),(6,sl p1143 k1144 sv945.1),(7,iv sv945.2)] a∧Wd ⟨w0,S0,[]⟩ Sv1145 [.row p541 e539.length k542 c540 52 2,.row p1143 sv945.1.length k1144 c1142 52 2] [j6 c540 e539,j6 c1142 sv945.1] w) (([]:List Span),0) h1540 ⟨[],none,0,Sv543,wj s d [1,0] [1,0]⟩ ?_
  clear h1540
  repeat clear u
  rintro sv945 a w tv1246 ⟨c1142,p1143,k1144,Sv1145,s,d⟩ u hd1245
  refine wp_seq (sz0 4 s rfl fun a s=>?_)
  refine cd s u rfl (fun u=>?_) fun u=>?_
  ·refine sk (wp_seq (wp_block (sn0 2 s rfl fun a s=>?_)))
   obtain ⟨n1352,h1351,u⟩:=bt u
   refine sv s (q8 rfl h1351) rfl fun a s=>?_
   refine nl (wp_seq ?_)
   obtain ⟨c1379,hc1379,u⟩:=bt u
   refine z8 (fun a w=>∃ Sv1380,Sl 117 [(3,sl p541 k542 e539),(6,sl p1143 k1144 sv945.1),(7,iv sv945.2),(8,iv n1352),(91,.bool c1379)] a∧Wd ⟨w0,S0,[]⟩ Sv1380 [.row p541 e539.length k542 c540 52 2,.row p1143 sv945.1.length k1144 c1142 52 2] [j6 c540 e539,j6 c1142 sv945.1] w) ?_ ?_
   ·rcases Bool.eq_false_or_eq_true (decide (0<n1352)) with h1381 | h1381
    ·have h1382:=A9 hc1379 h1381
     obtain ⟨x1385,h1383,h1382⟩:=O6 h1382
     obtain ⟨b1392,q1389,c1390,h1393,h1386,h1387,h1391,h1384⟩:=d.elemRV (α:=Span) 0 rfl 0 rfl h1383
     have hsv1394:=s
     have hwv1395:=d
     subst h1393
     have s:=hsv1394
     have d:=hwv1395
     obtain ⟨_,_,rfl,rfl,rfl⟩:=h1384
     obtain ⟨x1398,h1396,h1382⟩:=O6 h1382
     obtain ⟨b1405,q1402,c1403,h1406,h1399,h1400,h1404,h1397⟩:=d.elemRV (α:=Span) 1 rfl 1 rfl h1396
     have hsv1407:=s
     have hwv1408:=d
     subst h1406
     have s:=hsv1407
     have d:=hwv1408
     obtain ⟨_,_,rfl,rfl,rfl⟩:=h1397
     refine h_c [0,1] [] d rfl rfl (by kernel_rfl) rfl fun hC d=>?_
     refine gn 3 [0,1,2] [] s hC rfl rfl rfl fun a s=>?_
     have s:=s.bT 78 rfl h1381
     refine gn 2 [3,4] [] s hC rfl rfl rfl fun a s=>?_
     refine gx s 5 rfl ⟨_,rfl,rfl⟩ rfl hC runUnderlying50 sizeOf52 rfl rfl h1386 h1387 fun a s=>?_
     refine gt s 6 rfl ⟨_,rfl,rfl⟩ rfl hC (fun w hC=>j5 (o':=q1389+0) runUnderlying52 rfl sizeOf3 rfl rfl rfl) fun a s=>?_
     refine gt s 7 rfl ⟨_,rfl,rfl⟩ rfl hC (fun w hC=>J9 (j:=0) (hC.ownAt 0 rfl) rfl isAgg3 h1391 rfl) fun a s=>?_
     refine gn 3 [8,9,10] [] s hC rfl rfl rfl fun a s=>?_
     refine gx s 11 rfl ⟨_,rfl,rfl⟩ rfl hC runUnderlying50 sizeOf52 rfl rfl h1399 h1400 fun a s=>?_
     refine gt s 12 rfl ⟨_,rfl,rfl⟩ rfl hC (fun w hC=>j5 (o':=q1402+1) runUnderlying52 rfl sizeOf3 rfl rfl rfl) fun a s=>?_
     refine gt s 13 rfl ⟨_,rfl,rfl⟩ rfl hC (fun w hC=>J9 (j:=1) (hC.ownAt 1 rfl) rfl isAgg3 h1404 rfl) fun a s=>?_
     refine gt s 14 rfl ⟨_,rfl,rfl⟩ rfl hC (fun w hC=>b0f rfl rfl) fun a s=>?_
     refine gT s 15 rfl rfl hC rfl rfl h1382 fun a s=>?_
     refine y7 (by kernel_rfl) ?_
     exact ⟨Sv1145,wj s d [0,1] [0,1]⟩
    have h1409:=C7 hc1379 h1381
    refine h_c [0,1] [] d rfl rfl (by kernel_rfl) rfl fun hC d=>?_
    refine gn 3 [0,1,2] [] s hC rfl rfl rfl fun a s=>?_
    have s:=s.bF 78 rfl h1381
    refine gn 12 [3,4,5,6,7,8,9,10,11,12,13,14] [] s hC rfl rfl rfl fun a s=>?_
    refine gF s 15 rfl rfl hC rfl rfl h1409 fun a s=>?_
    refine y7 (by kernel_rfl) ?_
    exact ⟨Sv1145,wj s d [0,1] [0,1]⟩
   rintro a w ⟨Sv1380,s,d⟩
   refine tn (u7 (fun a w=>∃ (out1475:(List Span)) (c1471 p1472 k1473 Sv1474:_),a2A sv945 out1475=some tv1246∧Sl 117 [(3,sl p541 k542 e539),(6,sl p1472 k1473 out1475),(7,iv sv945.2)] a∧Wd ⟨w0,S0,[]⟩ Sv1474 [.row p541 e539.length k542 c540 52 2,.row p1472 out1475.length k1473 c1471 52 2] [j6 c540 e539,j6 c1471 out1475] w) ?_ ?_)
   ·refine cd s u rfl (fun u=>?_) fun u=>?_
    ·obtain ⟨x1481,h1479,u⟩:=bt u
     obtain ⟨b1488,q1485,c1486,h1489,h1482,h1483,h1487,h1480⟩:=d.elemRV (α:=Span) 1 rfl 1 rfl h1479
     have hsv1490:=s
     have hwv1491:=d
     subst h1489
     have s:=hsv1490
     have d:=hwv1491
     obtain ⟨_,_,rfl,rfl,rfl⟩:=h1480
     obtain ⟨x1494,h1492,u⟩:=bt u
     obtain ⟨b1501,q1498,c1499,h1502,h1495,h1496,h1500,h1493⟩:=d.elemRV (α:=Span) 0 rfl 0 rfl h1492
     have hsv1503:=s
     have hwv1504:=d
     subst h1502
     have s:=hsv1503
     have d:=hwv1504
     obtain ⟨_,_,rfl,rfl,rfl⟩:=h1493
     obtain ⟨x1507,h1505,u⟩:=bt u
     obtain ⟨q1511,c1512,h1508,h1509,h1513,h1506⟩:=d.elemRK (α:=Span) 1 rfl 1 rfl h1505
     obtain ⟨_,_,rfl,rfl,rfl⟩:=h1506
     obtain ⟨l1515,h1514,u⟩:=bt u
     refine z8 (fun a w=>∃ Sv1518 c1516,Sl 117 [(3,sl (ad b1501) k542 e539),(6,sl (ad b1488) k1144 l1515),(7,iv sv945.2)] a∧Wd ⟨w0,S0,[]⟩ Sv1518 [.row (ad b1501) e539.length k542 c540 52 2,.row (ad b1488) l1515.length k1144 c1516 52 2] [j6 c540 e539,j6 c1516 l1515] w) ?_ ?_
     ·refine h_c [0] [] d rfl rfl (by kernel_rfl) rfl fun hC d=>?_
      refine gn 6 [0,1,2,3,4,5] [] s hC rfl rfl rfl fun a s=>?_
      refine gx s 6 rfl trivial rfl hC runUnderlying50 sizeOf52 rfl rfl h1482 h1483 fun a s=>?_
      refine gn 3 [7,9,10] [] s hC rfl rfl rfl fun a s=>?_
      refine gx s 11 rfl trivial rfl hC runUnderlying50 sizeOf52 rfl rfl h1495 h1496 fun a s=>?_
      refine gv s 12 rfl rfl hC (fun w hC=>j5 (o':=q1498+1) runUnderlying52 rfl sizeOf3 rfl rfl rfl) fun a s=>?_
      refine gv s 13 rfl rfl hC (fun w hC=>J9 (j:=1) (hC.ownAt 0 rfl) rfl isAgg3 h1500 rfl) fun a s=>?_
      refine ho 8 rfl ?_
      refine sv s (J9 (j:=1) (d.ownAt 1 rfl) rfl isAgg3 h1487 rfl) rfl fun a s=>?_
      refine h_n [0] [] d rfl rfl fun hC=>?_
      refine gv s 14 rfl rfl hC (fun w hC=>y_max rfl rfl) fun a s=>?_
      refine gx s 15 rfl trivial rfl hC runUnderlying50 sizeOf52 rfl rfl h1508 h1509 fun a s=>?_
      refine gv s 16 rfl rfl hC (fun w hC=>j5 (o':=q1511+1) runUnderlying52 rfl sizeOf3 rfl rfl rfl) fun a s=>?_
      refine ho 17 rfl ?_
      refine a4G (α:=Span) (f:=1) (m:=1) s d 1 rfl 1 rfl h1509 rfl rfl sizeOf3 rfl rfl rfl h1514 (fun es he=>by rw [h1513] at he;subst he;exact ⟨_,_,rfl,rfl,rfl⟩) trivial ?_
      intro c1516 a w s d
      have h1517:=X5 h1514
      try have s:=s.fl 6 rfl h1517
      try have s:=s.fl 92 rfl h1517
      try have s:=s.fl 95 rfl h1517
      refine h_n [0] [] d rfl rfl fun hC=>?_
      refine y7 (by kernel_rfl) ?_
      exact ⟨Sv1380,c1516,wj s d [0,1] [1,0]⟩
     rintro a w ⟨Sv1518,c1516,s,d⟩
     exact tn ⟨l1515,c1516,(ad b1488),k1144,Sv1518,u,wj s d [0,1] [0,1]⟩
    refine wp_region_lit (rn0 3 s rfl fun a s=>?_)
    obtain ⟨x1521,h1519,u⟩:=bt u
    obtain ⟨b1528,q1525,c1526,h1529,h1522,h1523,h1527,h1520⟩:=d.elemRV (α:=Span) 0 rfl 0 rfl h1519
    have hsv1530:=s
    have hwv1531:=d
    subst h1529
    have s:=hsv1530
    have d:=hwv1531
    obtain ⟨_,_,rfl,rfl,rfl⟩:=h1520
    refine sv s (o6 runUnderlying50 sizeOf52 rfl rfl h1522.1 h1522.2 h1523) rfl fun a s=>?_
    refine sv s (P5 (j:=0) (d.ownAt 0 rfl) rfl isAgg52 sizeOf52 h1527 rfl rfl) rfl fun a s=>?_
    refine x8 (α:=Span) (vs:=[V52 x1521]) (cs:=(C52 x1521)) (xs:=([x1521]:List Span)) s d a4b rfl rfl rfl rfl rfl rfl ⟨⟨_,_,rfl,rfl,rfl⟩,rfl⟩ rfl trivial rfl fun b1533 a w s d=>?_
    obtain ⟨l1535,h1534,u⟩:=bt u
    refine I1 (α:=Span) s d a4b 2 rfl rfl rfl 2 rfl 0 rfl 0 rfl h1534 rfl trivial ?_
    intro p1536 k1537 c1538 a w s d
    refine rz0 1 s rfl fun a s=>?_
    exact ⟨l1535,c1538,p1536,k1537,Sv1380,u,wj s d [1,2] [2,0]⟩
   rintro a w ⟨out1475,c1471,p1472,k1473,Sv1474,u,s,d⟩
   refine l7 (tn (wp_region_lit (rn0 2 s rfl fun a s=>?_)))
   obtain ⟨i1477,h1476,u⟩:=bt u
   refine sv s (q8 rfl h1476) rfl fun a s=>?_
   exact nl ⟨_,io u,c1471,p1472,k1473,Sv1474,wj s d [0,1] [0,1]⟩
  refine wp_exit (j4 (j4 (o9 ?_)))
  obtain rfl:=oi u
  have h1539:=hd1245 _ rfl
  subst h1539
  exact tn ⟨c1142,p1143,k1144,Sv1145,wj s d [1] [1]⟩
 rintro a w ⟨c1249,p1250,k1251,Sv1252,s,d⟩
 refine tn (sz0 2 s rfl fun a s=>?_)
 obtain rfl:=oi u
 exact q1 s rfl (d.ret ⟨p1250,k1251,c1249,rfl,(d.outs [0] (by decide) rfl),(d.envAt 0 rfl)⟩)
theorem a9E {w0 S0 p2 k3 p6 k7 a1 b5 r} (u:a2T a1 b5=some r) (hS:Dm S0 w0) (h4:(Sq p2 k3 a1).p S0 w0) (h8:(Sq p6 k7 b5).p S0 w0):Ck Tryz.prog 17 #[sl p2 k3 a1,sl p6 k7 b5] w0 S0 [] D5 r:=by
 refine en 94 func17 rfl hS rfl rfl rfl fun a s d=>?_
 have d:=(d.addE h4).addE h8
 refine sz0 1 s rfl fun a s=>?_
 refine sn0 1 s rfl fun a s=>?_
 obtain ⟨rv10,h9,u⟩:=bt u
 refine cR s (a5T h9 d.dom (d.envAt 1 rfl)) (d9 call61 rfl) rfl ?_
 rintro v18 Sv15 w a h16 ⟨p11,k12,c14,rfl,h19,h13⟩ s
 have d:=(d.callN h16 h19).addE (e:=j6 c14 rv10) h13
 refine mv s rfl rfl fun a s=>?_
 obtain ⟨rv22,h21,u⟩:=bt u
 refine cR s (a5T h21 d.dom (d.envAt 1 rfl)) (d9 call61 rfl) rfl ?_
 rintro v30 Sv27 w a h28 ⟨p23,k24,c26,rfl,h31,h25⟩ s
 have d:=(d.callN h28 h31).addE (e:=j6 c26 rv22) h25
 refine rz0 2 s rfl fun a s=>?_
 refine sz0 1 s rfl fun a s=>?_
 refine wp_seq (sz0 1 s rfl fun a s=>?_)
 obtain ⟨e1002,h1864,u⟩:=bt u
 refine u7 (fun a w=>∃ c1003 p1004 k1005 Sv1006,Sl 94 [(7,sl p1004 k1005 e1002)] a∧Wd ⟨w0,S0,[]⟩ Sv1006 [.row p1004 e1002.length k1005 c1003 52 2] [j6 c1003 e1002] w) ?_ ?_
 ·refine wp_block ?_
  have d:=d.nilRow Span 52
  refine u6 (fun sv33 a w=>∃ c676 p677 k678 Sv679,Sl 94 [(5,sl p11 k12 rv10),(6,sl p23 k24 rv22),(7,sl p677 k678 sv33.1),(8,iv sv33.2)] a∧Wd ⟨w0,S0,[]⟩ Sv679 [.row p11 rv10.length k12 c14 52 2,.row p23 rv22.length k24 c26 52 2,.row p677 sv33.1.length k678 c676 52 2] [j6 c14 rv10,j6 c26 rv22,j6 c676 sv33.1] w) (([]:List Span),0) h1864 ⟨[],none,0,Sv27,wj s d [2,1,0] [2,1,0]⟩ ?_
  clear h1864
  repeat clear u
  rintro sv33 a w tv1000 ⟨c676,p677,k678,Sv679,s,d⟩ u hd999
  refine wp_seq (sz0 4 s rfl fun a s=>?_)
  refine cd s u rfl (fun u=>?_) fun u=>?_
  ·refine sk (wp_seq (wp_block (sn0 2 s rfl fun a s=>?_)))
   obtain ⟨x1327,h1325,u⟩:=bt u
   obtain ⟨b1334,q1331,c1332,h1335,h1328,h1329,h1333,h1326⟩:=d.elemRV (α:=Span) 0 rfl 0 rfl h1325
   have hsv1336:=s
   have hwv1337:=d
   subst h1335
   have s:=hsv1336
   have d:=hwv1337
   obtain ⟨_,_,rfl,rfl,rfl⟩:=h1326
   refine sv s (o6 runUnderlying50 sizeOf52 rfl rfl h1328.1 h1328.2 h1329) rfl fun a s=>?_
   refine sv s (j5 (o':=q1331+0) runUnderlying52 rfl sizeOf3 rfl rfl rfl) rfl fun a s=>?_
   refine sv s (J9 (j:=0) (d.ownAt 0 rfl) rfl isAgg3 h1333 rfl) rfl fun a s=>?_
   refine rz0 1 s rfl fun a s=>?_
   refine wp_seq (sz0 1 s rfl fun a s=>?_)
   obtain ⟨e1605,h1862,u⟩:=bt u
   refine u7 (fun a w=>∃ c1606 p1607 k1608 Sv1609,Sl 94 [(5,sl (ad b1334) k12 rv10),(6,sl p23 k24 rv22),(7,sl p1607 k1608 e1605.1),(8,iv sv33.2),(9,iv e1605.2)] a∧Wd ⟨w0,S0,[]⟩ Sv1609 [.row (ad b1334) rv10.length k12 c14 52 2,.row p23 rv22.length k24 c26 52 2,.row p1607 e1605.1.length k1608 c1606 52 2] [j6 c14 rv10,j6 c26 rv22,j6 c1606 e1605.1] w) ?_ ?_
   ·refine wp_block (u6 (fun sv1338 a w=>∃ c1513 p1514 k1515 Sv1516,Sl 94 [(5,sl (ad b1334) k12 rv10),(6,sl p23 k24 rv22),(7,sl p1514 k1515 sv1338.1),(8,iv sv33.2),(9,iv sv1338.2.1),(10,iv sv1338.2.2)] a∧Wd ⟨w0,S0,[]⟩ Sv1516 [.row (ad b1334) rv10.length k12 c14 52 2,.row p23 rv22.length k24 c26 52 2,.row p1514 sv1338.1.length k1515 c1513 52 2] [j6 c14 rv10,j6 c26 rv22,j6 c1513 sv1338.1] w) (sv33.1,x1327.From,0) h1862 ⟨c676,p677,k678,Sv679,wj s d [0,1,2] [0,1,2]⟩ ?_)
    clear h1862
    repeat clear u
    rintro sv1338 a w tv1603 ⟨c1513,p1514,k1515,Sv1516,s,d⟩ u hd1602
    refine wp_seq (sz0 4 s rfl fun a s=>?_)
    refine cd s u rfl (fun u=>?_) fun u=>?_
    ·refine sk (wp_seq (u7 (fun a w=>∃ (out1692:(List Span)) (fromv1693:Int) (c1688 p1689 k1690 Sv1691:_),a3j sv1338 out1692 fromv1693=some tv1603∧Sl 94 [(5,sl (ad b1334) k12 rv10),(6,sl p23 k24 rv22),(7,sl p1689 k1690 out1692),(8,iv sv33.2),(9,iv fromv1693),(10,iv sv1338.2.2)] a∧Wd ⟨w0,S0,[]⟩ Sv1691 [.row (ad b1334) rv10.length k12 c14 52 2,.row p23 rv22.length k24 c26 52 2,.row p1689 out1692.length k1690 c1688 52 2] [j6 c14 rv10,j6 c26 rv22,j6 c1688 out1692] w) ?_ ?_))
     ·refine wp_block (wp_seq (wp_seq ?_))
      obtain ⟨x1698,h1696,u⟩:=bt u
      obtain ⟨b1705,q1702,c1703,h1706,h1699,h1700,h1704,h1697⟩:=d.elemRV (α:=Span) 1 rfl 1 rfl h1696
      have hsv1707:=s
      have hwv1708:=d
      subst h1706
      have s:=hsv1707
      have d:=hwv1708
      obtain ⟨_,_,rfl,rfl,rfl⟩:=h1697
      obtain ⟨c1727,hc1727,u⟩:=bt u
      refine z8 (fun a w=>∃ Sv1728,Sl 94 [(5,sl (ad b1334) k12 rv10),(6,sl (ad b1705) k24 rv22),(7,sl p1514 k1515 sv1338.1),(8,iv sv33.2),(9,iv sv1338.2.1),(10,iv sv1338.2.2),(51,.bool c1727)] a∧Wd ⟨w0,S0,[]⟩ Sv1728 [.row (ad b1334) rv10.length k12 c14 52 2,.row (ad b1705) rv22.length k24 c26 52 2,.row p1514 sv1338.1.length k1515 c1513 52 2] [j6 c14 rv10,j6 c26 rv22,j6 c1513 sv1338.1] w) ?_ ?_
      ·rcases Bool.eq_false_or_eq_true (decide (x1698.To≤sv1338.2.1)) with h1729 | h1729
       ·have h1730:=A9 hc1727 h1729
        refine h_c [0,1,2] [] d rfl rfl (by kernel_rfl) rfl fun hC d=>?_
        refine gn 2 [0,1] [] s hC rfl rfl rfl fun a s=>?_
        refine gx s 2 rfl trivial rfl hC runUnderlying50 sizeOf52 rfl rfl h1699 h1700 fun a s=>?_
        refine gv s 3 rfl rfl hC (fun w hC=>j5 (o':=q1702+1) runUnderlying52 rfl sizeOf3 rfl rfl rfl) fun a s=>?_
        refine gv s 4 rfl rfl hC (fun w hC=>J9 (j:=1) (hC.ownAt 1 rfl) rfl isAgg3 h1704 rfl) fun a s=>?_
        refine gn 3 [5,6,7] [] s hC rfl rfl rfl fun a s=>?_
        have s:=s.bT 39 rfl h1729
        refine gn 11 [8,9,10,11,12,13,14,15,16,17,18] [] s hC rfl rfl rfl fun a s=>?_
        refine gT s 19 rfl rfl hC rfl rfl h1730 fun a s=>?_
        refine y7 (by kernel_rfl) ?_
        exact ⟨Sv1516,wj s d [0,1,2] [0,1,2]⟩
       have h1731:=C7 hc1727 h1729
       obtain ⟨x1734,h1732,h1731⟩:=O6 h1731
       obtain ⟨q1738,c1739,h1735,h1736,h1740,h1733⟩:=d.elemRK (α:=Span) 1 rfl 1 rfl h1732
       obtain ⟨_,_,rfl,rfl,rfl⟩:=h1733
       obtain ⟨x1743,h1741,h1731⟩:=O6 h1731
       obtain ⟨q1747,c1748,h1744,h1745,h1749,h1742⟩:=d.elemRK (α:=Span) 0 rfl 0 rfl h1741
       obtain ⟨_,_,rfl,rfl,rfl⟩:=h1742
       refine h_c [0,1,2] [] d rfl rfl (by kernel_rfl) rfl fun hC d=>?_
       refine gn 2 [0,1] [] s hC rfl rfl rfl fun a s=>?_
       refine gx s 2 rfl trivial rfl hC runUnderlying50 sizeOf52 rfl rfl h1699 h1700 fun a s=>?_
       refine gv s 3 rfl rfl hC (fun w hC=>j5 (o':=q1702+1) runUnderlying52 rfl sizeOf3 rfl rfl rfl) fun a s=>?_
       refine gv s 4 rfl rfl hC (fun w hC=>J9 (j:=1) (hC.ownAt 1 rfl) rfl isAgg3 h1704 rfl) fun a s=>?_
       refine gn 3 [5,6,7] [] s hC rfl rfl rfl fun a s=>?_
       have s:=s.bF 39 rfl h1729
       refine gn 2 [8,9] [] s hC rfl rfl rfl fun a s=>?_
       refine gx s 10 rfl ⟨_,rfl,rfl⟩ rfl hC runUnderlying50 sizeOf52 rfl rfl h1735 h1736 fun a s=>?_
       refine gt s 11 rfl ⟨_,rfl,rfl⟩ rfl hC (fun w hC=>j5 (o':=q1738+0) runUnderlying52 rfl sizeOf3 rfl rfl rfl) fun a s=>?_
       refine gt s 12 rfl ⟨_,rfl,rfl⟩ rfl hC (fun w hC=>J9 (j:=0) (hC.ownAt 1 rfl) rfl isAgg3 h1740 rfl) fun a s=>?_
       refine gn 2 [13,14] [] s hC rfl rfl rfl fun a s=>?_
       refine gx s 15 rfl ⟨_,rfl,rfl⟩ rfl hC runUnderlying50 sizeOf52 rfl rfl h1744 h1745 fun a s=>?_
       refine gt s 16 rfl ⟨_,rfl,rfl⟩ rfl hC (fun w hC=>j5 (o':=q1747+1) runUnderlying52 rfl sizeOf3 rfl rfl rfl) fun a s=>?_
       refine gt s 17 rfl ⟨_,rfl,rfl⟩ rfl hC (fun w hC=>J9 (j:=1) (hC.ownAt 0 rfl) rfl isAgg3 h1749 rfl) fun a s=>?_
       refine gt s 18 rfl ⟨_,rfl,rfl⟩ rfl hC (fun w hC=>a7l rfl rfl) fun a s=>?_
       refine gF s 19 rfl rfl hC rfl rfl h1731 fun a s=>?_
       refine y7 (by kernel_rfl) ?_
       exact ⟨Sv1516,wj s d [0,1,2] [0,1,2]⟩
      rintro a w ⟨Sv1728,s,d⟩
      refine tn (cd s u rfl (fun u=>?_) fun u=>?_)
      ·exact wp_exit (j4 (o9 (tn ⟨sv1338.1,sv1338.2.1,c1513,p1514,k1515,Sv1728,u,wj s d [0,1,2] [0,1,2]⟩)))
      refine sk (wp_seq (sn0 2 s rfl fun a s=>?_))
      obtain ⟨x1754,h1752,u⟩:=bt u
      obtain ⟨q1758,c1759,h1755,h1756,h1760,h1753⟩:=d.elemRK (α:=Span) 1 rfl 1 rfl h1752
      obtain ⟨_,_,rfl,rfl,rfl⟩:=h1753
      refine sv s (o6 runUnderlying50 sizeOf52 rfl rfl h1755.1 h1755.2 h1756) rfl fun a s=>?_
      refine sv s (j5 (o':=q1758+0) runUnderlying52 rfl sizeOf3 rfl rfl rfl) rfl fun a s=>?_
      refine sv s (J9 (j:=0) (d.ownAt 1 rfl) rfl isAgg3 h1760 rfl) rfl fun a s=>?_
      refine rz0 2 s rfl fun a s=>?_
      refine u7 (fun a w=>∃ (out1782:(List Span)) (c1778 p1779 k1780 Sv1781:_),a3k rv22 sv1338 out1782=some tv1603∧Sl 94 [(5,sl (ad b1334) k12 rv10),(6,sl (ad b1705) k24 rv22),(7,sl p1779 k1780 out1782),(8,iv sv33.2),(9,iv sv1338.2.1),(10,iv sv1338.2.2)] a∧Wd ⟨w0,S0,[]⟩ Sv1781 [.row (ad b1334) rv10.length k12 c14 52 2,.row (ad b1705) rv22.length k24 c26 52 2,.row p1779 out1782.length k1780 c1778 52 2] [j6 c14 rv10,j6 c26 rv22,j6 c1778 out1782] w) ?_ ?_
      ·refine cd s u rfl (fun u=>?_) fun u=>?_
       ·refine wp_region_lit (rn0 4 s rfl fun a s=>?_)
        obtain ⟨x1797,h1795,u⟩:=bt u
        obtain ⟨q1801,c1802,h1798,h1799,h1803,h1796⟩:=d.elemRK (α:=Span) 1 rfl 1 rfl h1795
        obtain ⟨_,_,rfl,rfl,rfl⟩:=h1796
        refine sv s (o6 runUnderlying50 sizeOf52 rfl rfl h1798.1 h1798.2 h1799) rfl fun a s=>?_
        refine sv s (j5 (o':=q1801+0) runUnderlying52 rfl sizeOf3 rfl rfl rfl) rfl fun a s=>?_
        refine sv s (J9 (j:=0) (d.ownAt 1 rfl) rfl isAgg3 h1803 rfl) rfl fun a s=>?_
        refine sv s (A7 (vs:=[(0,iv sv1338.2.1),(1,iv x1797.From)]) a7O rfl rfl) rfl fun a s=>?_
        refine x8 (α:=Span) (vs:=[.agg #[iv sv1338.2.1,iv x1797.From]]) (cs:=[iv sv1338.2.1,iv x1797.From]) (xs:=([(⟨sv1338.2.1,x1797.From⟩:Span)]:List Span)) s d a4b rfl rfl rfl rfl rfl rfl ⟨⟨_,_,rfl,rfl,rfl⟩,rfl⟩ rfl trivial rfl fun b1805 a w s d=>?_
        obtain ⟨l1807,h1806,u⟩:=bt u
        refine I1 (α:=Span) s d a4b 3 rfl rfl rfl 3 rfl 0 rfl 0 rfl h1806 rfl trivial ?_
        intro p1808 k1809 c1810 a w s d
        refine rz0 1 s rfl fun a s=>?_
        exact ⟨l1807,c1810,p1808,k1809,Sv1728,u,wj s d [1,2,3] [2,3,0]⟩
       exact sk ⟨sv1338.1,c1513,p1514,k1515,Sv1728,u,wj s d [0,1,2] [0,1,2]⟩
      rintro a w ⟨out1782,c1778,p1779,k1780,Sv1781,u,s,d⟩
      refine tn (wp_region_lit (rn0 3 s rfl fun a s=>?_))
      obtain ⟨x1785,h1783,u⟩:=bt u
      obtain ⟨q1789,c1790,h1786,h1787,h1791,h1784⟩:=d.elemRK (α:=Span) 1 rfl 1 rfl h1783
      obtain ⟨_,_,rfl,rfl,rfl⟩:=h1784
      refine sv s (o6 runUnderlying50 sizeOf52 rfl rfl h1786.1 h1786.2 h1787) rfl fun a s=>?_
      refine sv s (j5 (o':=q1789+1) runUnderlying52 rfl sizeOf3 rfl rfl rfl) rfl fun a s=>?_
      refine sv s (J9 (j:=1) (d.ownAt 1 rfl) rfl isAgg3 h1791 rfl) rfl fun a s=>?_
      refine sv s (y_max rfl rfl) rfl fun a s=>?_
      obtain ⟨fromv1793,h1792,u⟩:=bt u
      refine sv s (q8 rfl h1792) rfl fun a s=>?_
      refine wpList_nil ?_
      exact l7 (tn ⟨out1782,fromv1793,c1778,p1779,k1780,Sv1781,u,wj s d [0,1,2] [0,1,2]⟩)
     rintro a w ⟨out1692,fromv1693,c1688,p1689,k1690,Sv1691,u,s,d⟩
     refine tn (wp_region_lit (rn0 2 s rfl fun a s=>?_))
     obtain ⟨k1695,h1694,u⟩:=bt u
     refine sv s (q8 rfl h1694) rfl fun a s=>?_
     exact nl ⟨_,io u,c1688,p1689,k1690,Sv1691,wj s d [0,1,2] [0,1,2]⟩
    refine wp_exit (j4 (j4 (o9 ?_)))
    obtain rfl:=oi u
    have h1811:=hd1602 _ rfl
    subst h1811
    exact tn ⟨c1513,p1514,k1515,Sv1516,wj s d [0,1,2] [0,1,2]⟩
   rintro a w ⟨c1606,p1607,k1608,Sv1609,s,d⟩
   refine tn (sn0 3 s rfl fun a s=>?_)
   obtain ⟨x1814,h1812,u⟩:=bt u
   obtain ⟨q1818,c1819,h1815,h1816,h1820,h1813⟩:=d.elemRK (α:=Span) 0 rfl 0 rfl h1812
   obtain ⟨_,_,rfl,rfl,rfl⟩:=h1813
   refine sv s (o6 runUnderlying50 sizeOf52 rfl rfl h1815.1 h1815.2 h1816) rfl fun a s=>?_
   refine sv s (j5 (o':=q1818+1) runUnderlying52 rfl sizeOf3 rfl rfl rfl) rfl fun a s=>?_
   refine sv s (J9 (j:=1) (d.ownAt 0 rfl) rfl isAgg3 h1820 rfl) rfl fun a s=>?_
   refine rz0 1 s rfl fun a s=>?_
   refine u7 (fun a w=>∃ (out1842:(List Span)) (c1838 p1839 k1840 Sv1841:_),a3l sv33 out1842=some tv1000∧Sl 94 [(5,sl (ad b1334) k12 rv10),(6,sl p23 k24 rv22),(7,sl p1839 k1840 out1842),(8,iv sv33.2)] a∧Wd ⟨w0,S0,[]⟩ Sv1841 [.row (ad b1334) rv10.length k12 c14 52 2,.row p23 rv22.length k24 c26 52 2,.row p1839 out1842.length k1840 c1838 52 2] [j6 c14 rv10,j6 c26 rv22,j6 c1838 out1842] w) ?_ ?_
   ·refine cd s u rfl (fun u=>?_) fun u=>?_
    ·refine wp_region_lit (rn0 4 s rfl fun a s=>?_)
     obtain ⟨x1848,h1846,u⟩:=bt u
     obtain ⟨q1852,c1853,h1849,h1850,h1854,h1847⟩:=d.elemRK (α:=Span) 0 rfl 0 rfl h1846
     obtain ⟨_,_,rfl,rfl,rfl⟩:=h1847
     refine sv s (o6 runUnderlying50 sizeOf52 rfl rfl h1849.1 h1849.2 h1850) rfl fun a s=>?_
     refine sv s (j5 (o':=q1852+1) runUnderlying52 rfl sizeOf3 rfl rfl rfl) rfl fun a s=>?_
     refine sv s (J9 (j:=1) (d.ownAt 0 rfl) rfl isAgg3 h1854 rfl) rfl fun a s=>?_
     refine sv s (A7 (vs:=[(0,iv e1605.2),(1,iv x1848.To)]) a7O rfl rfl) rfl fun a s=>?_
     refine x8 (α:=Span) (vs:=[.agg #[iv e1605.2,iv x1848.To]]) (cs:=[iv e1605.2,iv x1848.To]) (xs:=([(⟨e1605.2,x1848.To⟩:Span)]:List Span)) s d a4b rfl rfl rfl rfl rfl rfl ⟨⟨_,_,rfl,rfl,rfl⟩,rfl⟩ rfl trivial rfl fun b1856 a w s d=>?_
     obtain ⟨l1858,h1857,u⟩:=bt u
     refine I1 (α:=Span) s d a4b 3 rfl rfl rfl 3 rfl 0 rfl 0 rfl h1857 rfl trivial ?_
     intro p1859 k1860 c1861 a w s d
     refine rz0 1 s rfl fun a s=>?_
     exact ⟨l1858,c1861,p1859,k1860,Sv1609,u,wj s d [1,2,3] [2,3,0]⟩
    exact sk ⟨e1605.1,c1606,p1607,k1608,Sv1609,u,wj s d [0,1,2] [0,1,2]⟩
   rintro a w ⟨out1842,c1838,p1839,k1840,Sv1841,u,s,d⟩
   refine l7 (tn (wp_region_lit (rn0 2 s rfl fun a s=>?_)))
   obtain ⟨i1844,h1843,u⟩:=bt u
   refine sv s (q8 rfl h1843) rfl fun a s=>?_
   exact nl ⟨_,io u,c1838,p1839,k1840,Sv1841,wj s d [0,1,2] [0,1,2]⟩
  refine wp_exit (j4 (j4 (o9 ?_)))
  obtain rfl:=oi u
  have h1863:=hd999 _ rfl
  subst h1863
  exact tn ⟨c676,p677,k678,Sv679,wj s d [2] [2]⟩
 rintro a w ⟨c1003,p1004,k1005,Sv1006,s,d⟩
 refine tn (sz0 2 s rfl fun a s=>?_)
 obtain rfl:=oi u
 exact q1 s rfl (d.ret ⟨p1004,k1005,c1003,rfl,(d.outs [0] (by decide) rfl),(d.envAt 0 rfl)⟩)
theorem a5j {w0 S0 p2 k3 t1 r} (u:a1N t1=some r) (hS:Dm S0 w0) (h4:(Sq p2 k3 t1).p S0 w0):Ck Tryz.prog 3 #[sl p2 k3 t1] w0 S0 [] l5 r:=by
 refine en 102 func3 rfl hS rfl rfl rfl fun a s d=>?_
 have d:=d.addE h4
 refine sz0 1 s rfl fun a s=>?_
 refine wp_seq (sn0 1 s rfl fun a s=>?_)
 obtain ⟨rv6,h5,u⟩:=bt u
 refine cV s d (b0m h5 d.bdom (d.bE 0 rfl)) (d9 call9 rfl) rfl fun a w s d=>?_
 refine rz0 1 s rfl fun a s=>?_
 refine cd s u rfl (fun u=>?_) fun u=>?_
 ·refine sr ?_
  obtain ⟨rv24,h23,u⟩:=bt u
  refine cV s d (a4X h23 d.bdom) (d9 call10 rfl) rfl fun a w s d=>?_
  refine rz0 1 s rfl fun a s=>?_
  obtain rfl:=oi u
  exact wp_ret (j3 (rt s rfl (d.ret rfl)))
 refine sk (sn0 1 s rfl fun a s=>?_)
 obtain ⟨rv32,h31,u⟩:=bt u
 refine cR s (b1j h31 d.dom (d.envAt 0 rfl)) (d9 call11 rfl) rfl ?_
 rintro v40 Sv37 w a h38 ⟨b33,p34,k35,rfl,h41,h36⟩ s
 have d:=(d.callN h38 h41).addE (e:=Sq p34 k35 rv32.L) h36
 refine rz0 1 s rfl fun a s=>?_
 refine sn0 1 s rfl fun a s=>?_
 obtain ⟨rv44,h43,u⟩:=bt u
 refine cR s (a5C h43 d.dom (d.ins [0] (by decide) rfl) (d.envAt 0 rfl)) (d9 call12 rfl) rfl ?_
 rintro v54 Sv51 w a h52 ⟨p45,k46,p48,k49,rfl,h55,h47,h50⟩ s
 have d:=((d.callO [0] [] (by decide) rfl h52 h55).addE (e:=Sq p45 k46 rv44.1.Channels) h47).addE (e:=Sq p48 k49 rv44.2.L) h50
 refine wa [.slice none ([]:List Channel).length 0] s d zeroValue29 fun b57 a w s d=>?_
 refine ws [sl p45 k46 rv44.1.Channels] s d 0 rfl rfl rfl sizeOf29 fun a w s d=>?_
 refine nl (sn 2 [0] s d rfl rfl fun a s=>?_)
 obtain ⟨rv59,h58,u⟩:=bt u
 refine cR s (a2o h58 d.dom (d.ins [1] (by decide) rfl) (d.envAt 0 rfl) (d.envAt 1 rfl)) (d9 call13 rfl) rfl ?_
 rintro v70 Sv67 w a h68 ⟨p60,k61,c63,p64,k65,rfl,h71,h62,h66⟩ s
 have d:=((d.callO [1] [0] (by decide) rfl h68 h71).addE (e:=j6 c63 rv59.1.Epoch.Response.Stages) h62).addE (e:=Sq p64 k65 rv59.2.L) h66
 refine wa Z18 s d zeroValue43 fun b73 a w s d=>?_
 refine ws (C43 rv59.1 p60 k61) s d 0 rfl rfl rfl sizeOf43 fun a w s d=>?_
 refine nl (sn 2 [3,0] s d rfl rfl fun a s=>?_)
 obtain ⟨rv75,h74,u⟩:=bt u
 obtain ⟨Sv80,d⟩:=F4 (α:=Stage) d 1 rfl 1 rfl
 refine cR s (a3r h74 d.dom (d.envAt 4 rfl) (d.envAt 0 rfl)) (d9 call14 rfl) rfl ?_
 rintro v84 Sv81 w a h82 ⟨p76,k77,c79,rfl,h85,h78⟩ s
 have d:=(d.callN h82 h85).addE (e:=j6 c79 rv75.1.Channels) h78
 refine rn0 3 s rfl fun a s=>?_
 refine wa [.slice none ([]:List Channel).length 0] s d zeroValue29 fun b87 a w s d=>?_
 refine ws [sl p76 k77 rv75.1.Channels] s d 0 rfl rfl rfl sizeOf29 fun a w s d=>?_
 refine rz0 1 s rfl fun a s=>?_
 refine wp_seq (sz0 2 s rfl fun a s=>?_)
 refine cd s u rfl (fun u=>?_) fun u=>?_
 ·refine sn 2 [4,4] s d rfl rfl fun a s=>?_
  obtain ⟨rv122,h121,u⟩:=bt u
  refine cR s (a1S h121 d.dom (d.envAt 5 rfl) (d.envAt 5 rfl)) (d9 call15 rfl) rfl ?_
  rintro v130 Sv127 w a h128 ⟨p123,k124,c126,rfl,h131,h125⟩ s
  have d:=(d.callN h128 h131).addE (e:=j6 c126 rv122) h125
  refine rn0 3 s rfl fun a s=>?_
  obtain ⟨c142,hc142,u⟩:=bt u
  refine l9 2 (fun a w=>∃ Sv143,Sl 102 [(39,.bool c142)] a∧Wd ⟨w0,S0,[]⟩ Sv143 [] [] w) ?_ ?_
  ·rcases Bool.eq_false_or_eq_true ((rv122.length:Int) == 0) with h141 | h141
   ·have s:=s.bT 37 rfl h141
    have u:=A9 hc142 h141
    obtain ⟨rv145,h144,u⟩:=bt u
    refine o8 s (a4X h144 d.bdom) (d9 call10 rfl) ⟨_,rfl,rfl⟩ rfl rfl ?_
    rintro v149 Sv146 w a h147 rfl s
    have d:=d.callB h147
    refine sv s (F9 rfl rfl) rfl fun a s=>?_
    refine wpList_nil ?_
    obtain rfl:=oi u
    exact tn ⟨Sv127,wj s d [] []⟩
   have s:=s.bF 37 rfl h141
   have u:=C7 hc142 h141
   refine rn0 2 s rfl fun a s=>?_
   refine wpList_nil ?_
   obtain rfl:=oi u
   exact tn ⟨Sv127,wj s d [] []⟩
  rintro a w ⟨Sv143,s,d⟩
  refine rz0 1 s rfl fun a s=>?_
  obtain rfl:=oi u
  exact wp_ret (j3 (rt s rfl (d.ret rfl)))
 refine sk (sz0 1 s rfl fun a s=>?_)
 refine wp_seq (sz 3 [2] s d rfl rfl fun a s=>?_)
 refine u7 (fun a w=>∃ (near164:(List Span)) (c160 p161 k162 Sv163:_),Q5 rv44 rv59 rv75 near164=some r∧Sl 102 [(4,pt b57),(5,pt b73),(6,pt b87),(8,sl p161 k162 near164)] a∧Wd ⟨w0,S0,[]⟩ Sv163 [.box b57 [sl p45 k46 rv44.1.Channels] 29,.box b73 (C43 rv59.1 p60 k61) 43,.box b87 [sl p76 k77 rv75.1.Channels] 29,.row p76 rv75.1.Channels.length k77 c79 73 5,.row p161 near164.length k162 c160 52 2] [Sq p45 k46 rv44.1.Channels,Sq p60 k61 rv59.1.Epoch.Response.Stages,j6 c79 rv75.1.Channels,j6 c160 near164] w) ?_ ?_
 ·refine cd s u rfl (fun u=>?_) fun u=>?_
  ·refine wp_region_lit (rn 7 [2,2] s d rfl rfl fun a s=>?_)
   refine sv s (A7 (vs:=[(0,iv rv59.1.Epoch.From),(1,iv rv59.1.Epoch.To)]) a7O rfl rfl) rfl fun a s=>?_
   refine x8 (α:=Span) (vs:=[V52 ⟨rv59.1.Epoch.From,rv59.1.Epoch.To⟩]) (cs:=(C52 ⟨rv59.1.Epoch.From,rv59.1.Epoch.To⟩)) (xs:=([(⟨rv59.1.Epoch.From,rv59.1.Epoch.To⟩:Span)]:List Span)) s d a4b rfl rfl rfl rfl rfl rfl ⟨⟨_,_,rfl,rfl,rfl⟩,rfl⟩ rfl trivial rfl fun b655 a w s d=>?_
   obtain ⟨l657,h656,u⟩:=bt u
   have d:=d.nilRow Span 52
   refine I1 (α:=Span) s d a4b 0 rfl rfl rfl 0 rfl 1 rfl 1 rfl h656 rfl trivial ?_
   intro p658 k659 c660 a w s d
   refine rz0 1 s rfl fun a s=>?_
   exact ⟨l657,c660,p658,k659,Sv81,u,wj s d [6,4,2,3,0] [8,4,3,0]⟩
  refine sk ?_
  have d:=d.nilRow Span 52
  exact ⟨([]:List Span),[],none,0,Sv81,u,wj s d [5,3,1,2,0] [6,2,1,0]⟩
 rintro a w ⟨near164,c160,p161,k162,Sv163,u,s,d⟩
 refine tn (wp_seq (sz 3 [1] s d rfl rfl fun a s=>?_))
 refine u7 (fun a w=>∃ (near190:(List Span)) (c186 p187 k188 Sv189:_),Q6 rv44 rv59 rv75 near190=some r∧Sl 102 [(4,pt b57),(5,pt b73),(6,pt b87),(8,sl p187 k188 near190)] a∧Wd ⟨w0,S0,[]⟩ Sv189 [.box b57 [sl p45 k46 rv44.1.Channels] 29,.box b73 (C43 rv59.1 p60 k61) 43,.box b87 [sl p76 k77 rv75.1.Channels] 29,.row p76 rv75.1.Channels.length k77 c79 73 5,.row p187 near190.length k188 c186 52 2] [Sq p45 k46 rv44.1.Channels,Sq p60 k61 rv59.1.Epoch.Response.Stages,j6 c79 rv75.1.Channels,j6 c186 near190] w) ?_ ?_
 ·refine cd s u rfl (fun u=>?_) fun u=>?_
  ·refine sn 5 [0,1,1] s d rfl rfl fun a s=>?_
   obtain ⟨rv633,h632,u⟩:=bt u
   refine cR s (b2f h632 d.dom (d.envAt 0 rfl)) (d9 call16 rfl) rfl ?_
   rintro v640 Sv637 w a h638 ⟨p634,k635,rfl,h636⟩ s
   have d:=(d.call h638).addE (e:=Sq p634 k635 rv633.1.Response.Stages) h636
   refine rn0 3 s rfl fun a s=>?_
   refine wa Z1 s d zeroValue41 fun b643 a w s d=>?_
   refine ws (C41 rv633.1 p634 k635) s d 0 rfl rfl rfl sizeOf41 fun a w s d=>?_
   refine rz0 1 s rfl fun a s=>?_
   refine wp_seq (sz0 2 s rfl fun a s=>?_)
   refine cd s u rfl (fun u=>?_) fun u=>?_
   ·refine sz0 1 s rfl fun a s=>?_
    obtain rfl:=oi u
    exact wp_ret (j3 (j3 (j3 (rt s rfl (d.ret rfl)))))
   refine sk (wp_region_lit (rn 5 [0,0] s d rfl rfl fun a s=>?_))
   refine sv s (A7 (vs:=[(0,iv rv633.1.From),(1,iv rv633.1.To)]) a7O rfl rfl) rfl fun a s=>?_
   refine x8 (α:=Span) (vs:=[V52 ⟨rv633.1.From,rv633.1.To⟩]) (cs:=(C52 ⟨rv633.1.From,rv633.1.To⟩)) (xs:=([(⟨rv633.1.From,rv633.1.To⟩:Span)]:List Span)) s d a4b rfl rfl rfl rfl rfl rfl ⟨⟨_,_,rfl,rfl,rfl⟩,rfl⟩ rfl trivial rfl fun b647 a w s d=>?_
   obtain ⟨l649,h648,u⟩:=bt u
   refine I1 (α:=Span) s d a4b 6 rfl rfl rfl 5 rfl 0 rfl 0 rfl h648 rfl trivial ?_
   intro p650 k651 c652 a w s d
   refine rz0 1 s rfl fun a s=>?_
   exact ⟨l649,c652,p650,k651,Sv637,u,wj s d [2,3,4,5,6] [3,4,5,0]⟩
  exact sk ⟨near164,c160,p161,k162,Sv163,u,wj s d [0,1,2,3,4] [0,1,2,3]⟩
 rintro a w ⟨near190,c186,p187,k188,Sv189,u,s,d⟩
 refine tn (wp_seq (sn 2 [0,2] s d rfl rfl fun a s=>?_))
 obtain ⟨rv192,h191,u⟩:=bt u
 obtain ⟨Sv197,d⟩:=F4 (α:=Channel) d 3 rfl 2 rfl
 refine cR s (a1S h191 d.dom (d.envAt 1 rfl) (d.envAt 0 rfl)) (d9 call15 rfl) rfl ?_
 rintro v201 Sv198 w a h199 ⟨p193,k194,c196,rfl,h202,h195⟩ s
 have d:=(d.callN h199 h202).addE (e:=j6 c196 rv192) h195
 refine rz0 2 s rfl fun a s=>?_
 refine wp_block ?_
 obtain ⟨Sv503,d⟩:=F4 (α:=Span) d 4 rfl 5 rfl
 refine u6 (fun sv354 a w=>∃ Sv453,Sl 102 [(5,pt b73),(6,pt b87),(8,sl p187 k188 near190),(77,sl p193 k194 rv192),(78,iv (rv192.length:Int)),(79,iv sv354)] a∧Wd ⟨w0,S0,[]⟩ Sv453 [.box b73 (C43 rv59.1 p60 k61) 43,.box b87 [sl p76 k77 rv75.1.Channels] 29,.row p193 rv192.length k194 c196 56 5] [Sq p187 k188 near190,Sq p60 k61 rv59.1.Epoch.Response.Stages,Sq p76 k77 rv75.1.Channels,j6 c196 rv192] w) 0 u ⟨Sv503,wj s d [2,3,0] [0,4,2,1]⟩ ?_
 repeat clear u
 rintro sv354 a w tv502 ⟨Sv453,s,d⟩ u hd501
 refine sz0 1 s rfl fun a s=>?_
 refine wp_seq (cd s u rfl (fun u=>?_) fun u=>?_)
 ·refine sk (wp_seq (wp_block (sr ?_)))
  obtain ⟨x556,h554,u⟩:=bt u
  obtain ⟨b563,q560,c561,h564,h557,h558,h562,h555⟩:=d.elemRV (α:=Affected) 2 rfl 3 rfl h554
  have hsv565:=s
  have hwv566:=d
  subst h564
  have s:=hsv565
  have d:=hwv566
  obtain ⟨_,_,_,_,_,rfl,rfl,rfl,rfl,rfl,⟨p567,n568,k569,rfl,h570⟩⟩:=h555
  obtain rfl:=h570.1
  have d:=d.addE (e:=SlA p567 _ k569 x556.Spans) h570
  refine sv s (o6 runUnderlying48 sizeOf56 rfl rfl h557.1 h557.2 h558) rfl fun a s=>?_
  refine sv s (P5 (j:=0) (d.ownAt 2 rfl) rfl isAgg56 sizeOf56 h562 rfl rfl) rfl fun a s=>?_
  refine wa [.string ByteArray.empty,.string ByteArray.empty,.string ByteArray.empty,.string ByteArray.empty,.slice none ([]:List Span).length 0] s d zeroValue56 fun b571 a w s d=>?_
  refine ws (C56 x556 p567 k569) s d 0 rfl rfl rfl sizeOf56 fun a w s d=>?_
  refine nl (sn 4 [0,1] s d rfl rfl fun a s=>?_)
  refine sv s (a8S (by kernel_rfl) rfl rfl (P8 runUnderlying32 (by kernel_rfl) (EqF.cons1 rfl isAgg9 rfl rfl (L9 runUnderlying9) (EqF.cons1 rfl isAgg9 rfl rfl (L9 runUnderlying9) (EqF.cons1 rfl isAgg9 rfl rfl (L9 runUnderlying9) (EqF.cons1 rfl isAgg9 rfl rfl (L9 runUnderlying9) EqF.nil)))))) rfl fun a s=>?_
  refine mv s rfl rfl fun a s=>?_
  obtain ⟨c585,hc585,u⟩:=bt u
  refine l9 7 (fun a w=>∃ Sv586,Sl 102 [(5,pt b73),(6,pt b87),(8,sl p187 k188 near190),(77,sl (ad b563) k194 rv192),(78,iv (rv192.length:Int)),(79,iv sv354),(95,.bool c585)] a∧Wd ⟨w0,S0,[]⟩ Sv586 [.box b73 (C43 rv59.1 p60 k61) 43,.box b87 [sl p76 k77 rv75.1.Channels] 29,.row (ad b563) rv192.length k194 c196 56 5] [Sq p187 k188 near190,Sq p60 k61 rv59.1.Epoch.Response.Stages,Sq p76 k77 rv75.1.Channels,j6 c196 rv192] w) ?_ ?_
  ·rcases Bool.eq_false_or_eq_true (!((x556.Source.Network == rv59.1.Source.Network) && ((x556.Source.Station == rv59.1.Source.Station) && ((x556.Source.Location == rv59.1.Source.Location) && ((x556.Source.Channel == rv59.1.Source.Channel) && true))))) with h584 | h584
   ·have s:=s.bT 88 rfl h584
    have u:=A9 hc585 h584
    refine rn0 7 s rfl fun a s=>?_
    refine wpList_nil ?_
    obtain rfl:=oi u
    exact tn ⟨Sv453,wj s d [1,2,3] [1,2,3,4]⟩
   have s:=s.bF 88 rfl h584
   have u:=C7 hc585 h584
   refine rn 3 [0] s d rfl rfl fun a s=>?_
   obtain ⟨rv588,h587,u⟩:=bt u
   refine o8 s (a9E h587 d.dom (d.envAt 0 rfl) (d.envAt 1 rfl)) (d9 call17 rfl) ⟨_,rfl,rfl⟩ rfl rfl ?_
   rintro v596 Sv593 w a h594 ⟨p589,k590,c592,rfl,h597,h591⟩ s
   have d:=(d.callN h594 h597).addE (e:=j6 c592 rv588) h591
   refine rn0 3 s rfl fun a s=>?_
   refine wpList_nil ?_
   obtain rfl:=oi u
   exact tn ⟨Sv593,wj s d [2,3,4] [2,3,4,5]⟩
  rintro a w ⟨Sv586,s,d⟩
  refine nl (cd s u rfl (fun u=>?_) fun u=>?_)
  ·refine sz0 1 s rfl fun a s=>?_
   obtain rfl:=oi u
   have h601:=hd501 _ rfl
   subst h601
   exact wp_ret (w9 (j3 (j3 (w9 (j3 (rt s rfl (d.ret rfl)))))))
  refine wp_skip (l7 (tn (wp_region_lit (rz0 2 s rfl fun a s=>?_))))
  exact ⟨_,io u,Sv586,wj s d [0,1,2] [0,1,2,3]⟩
 obtain ⟨rv629,u,h630⟩:=a0q u
 have h630:=(hd501 _ h630.symm).symm
 subst h630
 refine wp_exit (j4 (j4 (o9 (tn (sn 1 [1] s d rfl rfl fun a s=>?_)))))
 obtain ⟨rv603,h602,u⟩:=bt u
 refine cV s d (a4A h602 d.bdom (d.bE 2 rfl)) (d9 call18 rfl) rfl fun a w s d=>?_
 refine mv s rfl rfl fun a s=>?_
 obtain ⟨c619,hc619,u⟩:=bt u
 refine l9 2 (fun a w=>∃ Sv620,Sl 102 [(101,.bool c619)] a∧Wd ⟨w0,S0,[]⟩ Sv620 [] [] w) ?_ ?_
 ·rcases Bool.eq_false_or_eq_true rv603 with h618 | h618
  ·have s:=s.bT 99 rfl h618
   have u:=A9 hc619 h618
   obtain ⟨rv622,h621,u⟩:=bt u
   refine o8 s (a4X h621 d.bdom) (d9 call10 rfl) ⟨_,rfl,rfl⟩ rfl rfl ?_
   rintro v626 Sv623 w a h624 rfl s
   have d:=d.callB h624
   refine sv s (F9 rfl rfl) rfl fun a s=>?_
   refine wpList_nil ?_
   obtain rfl:=oi u
   exact tn ⟨Sv453,wj s d [] []⟩
  have s:=s.bF 99 rfl h618
  have u:=C7 hc619 h618
  refine rn0 2 s rfl fun a s=>?_
  refine wpList_nil ?_
  obtain rfl:=oi u
  exact tn ⟨Sv453,wj s d [] []⟩
 rintro a w ⟨Sv620,s,d⟩
 refine rz0 1 s rfl fun a s=>?_
 obtain rfl:=oi u
 exact q1 s rfl (d.ret rfl)
end Go.Proofs.YteanekphncdhiaaGreat.Wk

/- The walks of RevisionLaws, part 3: each Go function computes what its plain program computes. Printed by a program of ours. -/
import Derived.Test.YteanekphncdhiaaGreatProg
import Derived.Test.YteanekphncdhiaaGreatLibMs
import Derived.Test.YteanekphncdhiaaGreatDat
import Derived.Test.YteanekphncdhiaaGreatSh
import Derived.Test.YteanekphncdhiaaGreatLa1
import Derived.Test.YteanekphncdhiaaGreatLa2
import Derived.Test.YteanekphncdhiaaGreatLibCh
import Derived.KernelRfl
import Derived.Test.YteanekphncdhiaaGreatLb1
import Derived.Shelf.SlLaysF0
import Derived.Test.YteanekphncdhiaaGreatWRevisionLaws2
namespace Go.Proofs.YteanekphncdhiaaGreat.Wk
open Go Go.RowKit Go.Proofs Go.Proofs.YteanekphncdhiaaGreat.Sh Go.Proofs.Tryz
set_option linter.unusedVariables false
set_option linter.unusedSimpArgs false
set_option maxHeartbeats 4000000
set_option maxRecDepth 100000
theorem b0A {w0 S0 p2 k3 r1 r} (u:a3o r1=some r) (hS:Dm S0 w0) (h4:(Sq p2 k3 r1.Stages).p S0 w0):Ck Tryz.prog 113 #[.agg #[sl p2 k3 r1.Stages]] w0 S0 [] l7 r:=by
 refine en 40 func113 rfl hS rfl rfl rfl fun a s d=>?_
 have d:=d.addE h4
 refine sr (wb [sl p2 k3 r1.Stages] s d rfl fun b5 a w s d=>?_)
 refine rz0 1 s rfl fun a s=>?_
 refine sz0 1 s rfl fun a s=>?_
 refine wp_seq (sz0 1 s rfl fun a s=>?_)
 refine wp_block (u7 (fun sv188 a w=>∃ Sv308,Sl 40 [(1,pt b5),(3,iv sv188.1),(4,iv sv188.2)] a∧Wd ⟨w0,S0,[]⟩ Sv308 [.box b5 [sl p2 k3 r1.Stages] 39] [Sq p2 k3 r1.Stages] w) (1,0) u ⟨S0,wj s d [0] [0]⟩ ?_)
 repeat clear u
 rintro sv188 a w tv369 ⟨Sv308,s,d⟩ u hd368
 refine wp_seq (sz 5 [0] s d rfl rfl fun a s=>?_)
 refine cd s u rfl (fun u=>?_) fun u=>?_
 ·refine sk (wp_seq (wp_block (wp_seq (sn 3 [0] s d rfl rfl fun a s=>?_))))
  obtain ⟨x432,h430,u⟩:=bt u
  obtain ⟨b438,o439,q436,c437,h440,h433,h434,h435,h431⟩:=d.elemV 0 rfl h430
  have hsv441:=s
  have hwv442:=d
  subst h440
  have s:=hsv441
  have d:=hwv442
  obtain ⟨_,_,_,_,_,_,_,_,_,_,rfl,rfl,rfl,rfl,rfl,rfl,rfl,rfl,⟨p443,n444,k445,rfl,h446⟩,rfl,rfl⟩:=h431
  obtain rfl:=h446.1
  have d:=(d.addE (e:=SlA p443 _ k445 x432.Taps) h446).addE h435
  refine sv s (o8 runUnderlying37 sizeOf138 rfl rfl h433.1 h433.2 h434) rfl fun a s=>?_
  refine sv s (D9 (j:=0) (d.ceAt 0 rfl) rfl isAgg138 sizeOf138 rfl rfl) rfl fun a s=>?_
  obtain ⟨rv448,h447,u⟩:=bt u
  refine cV s d (a7O h447 d.bdom (d.bE 1 rfl)) (d9 call139 rfl) rfl fun a w s d=>?_
  refine rz0 1 s rfl fun a s=>?_
  refine cd s u rfl (fun u=>?_) fun u=>?_
  ·refine sz0 1 s rfl fun a s=>?_
   obtain rfl:=oi u
   have h457:=hd368 _ rfl
   subst h457
   exact wp_ret (j3 (r9 (j3 (j3 (r9 (j3 (rt s rfl (d.ret rfl))))))))
  refine sk (sn 3 [0] s d rfl rfl fun a s=>?_)
  obtain ⟨x460,h458,u⟩:=bt u
  obtain ⟨q464,c465,h461,h462,h463,h459⟩:=d.elemK 2 rfl h458
  obtain ⟨_,_,_,_,_,_,_,_,_,_,rfl,rfl,rfl,rfl,rfl,rfl,rfl,rfl,⟨p466,n467,k468,rfl,h469⟩,rfl,rfl⟩:=h459
  obtain rfl:=h469.1
  have d:=(d.addE (e:=SlA p466 _ k468 x460.Taps) h469).addE h463
  refine sv s (o8 runUnderlying37 sizeOf138 rfl rfl h461.1 h461.2 h462) rfl fun a s=>?_
  refine sv s (j5 (o':=q464+0) runUnderlying138 rfl sizeOf3 rfl rfl rfl) rfl fun a s=>?_
  refine sv s (F5 (j:=0) (d.ceAt 0 rfl) rfl isAgg3 rfl) rfl fun a s=>?_
  refine rz0 1 s rfl fun a s=>?_
  refine x9 (fun a w=>∃ (n487:Int) (Sv486:_),a2e sv188 n487=some tv369∧Sl 40 [(1,pt b5),(3,iv n487),(4,iv sv188.2)] a∧Wd ⟨w0,S0,[]⟩ Sv486 [.box b5 [sl (some ⟨b438,o439,none⟩) k3 r1.Stages] 39] [Sq (some ⟨b438,o439,none⟩) k3 r1.Stages] w) ?_ ?_
  ·refine cd s u rfl (fun u=>?_) fun u=>?_
   ·refine sn 4 [0] s d rfl rfl fun a s=>?_
    obtain ⟨x493,h491,u⟩:=bt u
    obtain ⟨q497,c498,h494,h495,h496,h492⟩:=d.elemK 4 rfl h491
    obtain ⟨_,_,_,_,_,_,_,_,_,_,rfl,rfl,rfl,rfl,rfl,rfl,rfl,rfl,⟨p499,n500,k501,rfl,h502⟩,rfl,rfl⟩:=h492
    obtain rfl:=h502.1
    have d:=(d.addE (e:=SlA p499 _ k501 x493.Taps) h502).addE h496
    refine sv s (o8 runUnderlying37 sizeOf138 rfl rfl h494.1 h494.2 h495) rfl fun a s=>?_
    refine sv s (j5 (o':=q497+8) runUnderlying138 rfl sizeOf3 rfl rfl rfl) rfl fun a s=>?_
    refine sv s (F5 (j:=8) (d.ceAt 0 rfl) rfl isAgg3 rfl) rfl fun a s=>?_
    refine sv s (y_mul rfl rfl) rfl fun a s=>?_
    obtain ⟨n504,h503,u⟩:=bt u
    refine sv s (q8 rfl h503) rfl fun a s=>?_
    refine nl (sz0 2 s rfl fun a s=>?_)
    refine cd s u rfl (fun u=>?_) fun u=>?_
    ·refine sz0 1 s rfl fun a s=>?_
     obtain rfl:=oi u
     have h507:=hd368 _ rfl
     subst h507
     exact wp_ret (j3 (r9 (j3 (j3 (r9 (j3 (rt s rfl (d.ret rfl))))))))
    exact sk ⟨n504,Sv308,u,wj s d [0] [6]⟩
   exact sk ⟨sv188.1,Sv308,u,wj s d [0] [4]⟩
  rintro a w ⟨n487,Sv486,u,s,d⟩
  refine l9 (tn (wp_region_lit (rn0 2 s rfl fun a s=>?_)))
  obtain ⟨i489,h488,u⟩:=bt u
  refine sv s (q8 rfl h488) rfl fun a s=>?_
  exact nl ⟨_,io u,Sv486,wj s d [0] [0]⟩
 obtain ⟨rv508,u,h509⟩:=Y7 u
 have h509:=(hd368 _ h509.symm).symm
 subst h509
 refine wp_exit (j4 (j4 (o9 (tn (sz 5 [0] s d rfl rfl fun a s=>?_)))))
 obtain rfl:=oi u
 exact q1 s rfl (d.ret rfl)
theorem a0N {w0 S0 p2 k3 e1 r} (u:a0S e1=some r) (hS:Dm S0 w0) (h4:(Sq p2 k3 e1.Response.Stages).p S0 w0):Ck Tryz.prog 65 #[V41 e1 p2 k3] w0 S0 [] l7 r:=by
 refine en 46 func65 rfl hS rfl rfl rfl fun a s d=>?_
 have d:=d.addE h4
 refine sr (wb (C41 e1 p2 k3) s d rfl fun b5 a w s d=>?_)
 refine rz0 1 s rfl fun a s=>?_
 refine sn 2 [0] s d rfl rfl fun a s=>?_
 refine wa [iv 0,iv 0,iv 0] s d zeroValue36 fun b6 a w s d=>?_
 refine ws (C36 e1.Position) s d 0 rfl rfl rfl sizeOf36 fun a w s d=>?_
 refine nl (sn 4 [1] s d rfl rfl fun a s=>?_)
 refine rA 6 9 [1,1] s d rfl rfl rfl rfl rfl fun a s=>?_
 refine mv s rfl rfl fun a s=>?_
 refine rA 4 16 [1] s d rfl rfl rfl rfl rfl fun a s=>?_
 refine mv s rfl rfl fun a s=>?_
 obtain ⟨c18,hc18,u⟩:=bt u
 refine o7 4 (fun a w=>∃ Sv19,Sl 46 [(1,pt b5),(3,pt b6),(25,.bool c18)] a∧Wd ⟨w0,S0,[]⟩ Sv19 [.box b5 (C41 e1 p2 k3) 41,.box b6 (C36 e1.Position) 36] [Sq p2 k3 e1.Response.Stages] w) ?_ ?_
 ·rcases Bool.eq_false_or_eq_true (((decide (0≤e1.From)) && (decide (e1.From<e1.To))) && (decide (e1.To≤9007199254740992))) with h17 | h17
  ·have s:=s.bT 21 rfl h17
   have u:=D5 hc18 h17
   refine rn 2 [1] s d rfl rfl fun a s=>?_
   obtain ⟨rv21,h20,u⟩:=bt u
   refine q9 s (b0x h20 d.bdom) (d9 call112 rfl) ⟨_,rfl,rfl⟩ rfl rfl ?_
   rintro v25 Sv22 w a h23 rfl s
   have d:=d.callB h23
   refine sv s (G8 rfl rfl) rfl fun a s=>?_
   refine wpList_nil ?_
   obtain rfl:=oi u
   exact tn ⟨S0,wj s d [1,0] [0]⟩
  have s:=s.bF 21 rfl h17
  have u:=D6 hc18 h17
  refine rn0 4 s rfl fun a s=>?_
  refine wpList_nil ?_
  obtain rfl:=oi u
  exact tn ⟨S0,wj s d [1,0] [0]⟩
 rintro a w ⟨Sv19,s,d⟩
 refine mv s rfl rfl fun a s=>?_
 obtain ⟨c37,hc37,u⟩:=bt u
 refine o7 4 (fun a w=>∃ Sv38,Sl 46 [(3,pt b6),(30,.bool c37)] a∧Wd ⟨w0,S0,[]⟩ Sv38 [.box b6 (C36 e1.Position) 36] [] w) ?_ ?_
 ·rcases Bool.eq_false_or_eq_true c18 with h36 | h36
  ·have s:=s.bT 26 rfl h36
   have u:=D5 hc37 h36
   refine rn 2 [0] s d rfl rfl fun a s=>?_
   obtain ⟨rv40,h39,u⟩:=bt u
   refine q9 s (b0A h39 d.bdom (d.bE 0 rfl)) (d9 call113 rfl) ⟨_,rfl,rfl⟩ rfl rfl ?_
   rintro v44 Sv41 w a h42 rfl s
   have d:=d.callB h42
   refine sv s (G8 rfl rfl) rfl fun a s=>?_
   refine wpList_nil ?_
   obtain rfl:=oi u
   exact tn ⟨Sv19,wj s d [1] []⟩
  have s:=s.bF 26 rfl h36
  have u:=D6 hc37 h36
  refine rn0 4 s rfl fun a s=>?_
  refine wpList_nil ?_
  obtain rfl:=oi u
  exact tn ⟨Sv19,wj s d [1] []⟩
 rintro a w ⟨Sv38,s,d⟩
 refine mv s rfl rfl fun a s=>?_
 obtain ⟨c56,hc56,u⟩:=bt u
 refine o7 4 (fun a w=>∃ Sv57,Sl 46 [(3,pt b6),(35,.bool c56)] a∧Wd ⟨w0,S0,[]⟩ Sv57 [.box b6 (C36 e1.Position) 36] [] w) ?_ ?_
 ·rcases Bool.eq_false_or_eq_true c37 with h55 | h55
  ·have s:=s.bT 31 rfl h55
   have u:=D5 hc56 h55
   refine rn 2 [0] s d rfl rfl fun a s=>?_
   obtain ⟨rv59,h58,u⟩:=bt u
   refine q9 s (M5 h58 d.bdom) (d9 call64 rfl) ⟨_,rfl,rfl⟩ rfl rfl ?_
   rintro v63 Sv60 w a h61 rfl s
   have d:=d.callB h61
   refine sv s (G8 rfl rfl) rfl fun a s=>?_
   refine wpList_nil ?_
   obtain rfl:=oi u
   exact tn ⟨Sv38,wj s d [0] []⟩
  have s:=s.bF 31 rfl h55
  have u:=D6 hc56 h55
  refine rn0 4 s rfl fun a s=>?_
  refine wpList_nil ?_
  obtain rfl:=oi u
  exact tn ⟨Sv38,wj s d [0] []⟩
 rintro a w ⟨Sv57,s,d⟩
 refine mv s rfl rfl fun a s=>?_
 obtain ⟨c75,hc75,u⟩:=bt u
 refine o7 4 (fun a w=>∃ Sv76,Sl 46 [(3,pt b6),(40,.bool c75)] a∧Wd ⟨w0,S0,[]⟩ Sv76 [.box b6 (C36 e1.Position) 36] [] w) ?_ ?_
 ·rcases Bool.eq_false_or_eq_true c56 with h74 | h74
  ·have s:=s.bT 36 rfl h74
   have u:=D5 hc75 h74
   refine rn 2 [0] s d rfl rfl fun a s=>?_
   obtain ⟨rv78,h77,u⟩:=bt u
   refine q9 s (M5 h77 d.bdom) (d9 call64 rfl) ⟨_,rfl,rfl⟩ rfl rfl ?_
   rintro v82 Sv79 w a h80 rfl s
   have d:=d.callB h80
   refine sv s (G8 rfl rfl) rfl fun a s=>?_
   refine wpList_nil ?_
   obtain rfl:=oi u
   exact tn ⟨Sv57,wj s d [0] []⟩
  have s:=s.bF 36 rfl h74
  have u:=D6 hc75 h74
  refine rn0 4 s rfl fun a s=>?_
  refine wpList_nil ?_
  obtain rfl:=oi u
  exact tn ⟨Sv57,wj s d [0] []⟩
 rintro a w ⟨Sv76,s,d⟩
 refine mv s rfl rfl fun a s=>?_
 obtain ⟨c94,hc94,u⟩:=bt u
 refine o7 4 (fun a w=>∃ Sv95,Sl 46 [(45,.bool c94)] a∧Wd ⟨w0,S0,[]⟩ Sv95 [] [] w) ?_ ?_
 ·rcases Bool.eq_false_or_eq_true c75 with h93 | h93
  ·have s:=s.bT 41 rfl h93
   have u:=D5 hc94 h93
   refine rn 2 [0] s d rfl rfl fun a s=>?_
   obtain ⟨rv97,h96,u⟩:=bt u
   refine q9 s (M5 h96 d.bdom) (d9 call64 rfl) ⟨_,rfl,rfl⟩ rfl rfl ?_
   rintro v101 Sv98 w a h99 rfl s
   have d:=d.callB h99
   refine sv s (G8 rfl rfl) rfl fun a s=>?_
   refine wpList_nil ?_
   obtain rfl:=oi u
   exact tn ⟨Sv76,wj s d [] []⟩
  have s:=s.bF 41 rfl h93
  have u:=D6 hc94 h93
  refine rn0 4 s rfl fun a s=>?_
  refine wpList_nil ?_
  obtain rfl:=oi u
  exact tn ⟨Sv76,wj s d [] []⟩
 rintro a w ⟨Sv95,s,d⟩
 refine rz0 1 s rfl fun a s=>?_
 obtain rfl:=oi u
 exact q1 s rfl (d.ret rfl)
theorem a7c {w0 S0 p2 k3 inv1 r} (u:a2g inv1=some r) (hS:Dm S0 w0) (h4:(Sq p2 k3 inv1.Channels).p S0 w0):Ck Tryz.prog 18 #[.agg #[sl p2 k3 inv1.Channels]] w0 S0 [] l7 r:=by
 refine en 84 func18 rfl hS rfl rfl rfl fun a s d=>?_
 have d:=d.addE h4
 refine sr (wb [sl p2 k3 inv1.Channels] s d rfl fun b5 a w s d=>?_)
 refine rz0 1 s rfl fun a s=>?_
 refine wp_seq (sz0 1 s rfl fun a s=>?_)
 refine wp_block (u7 (fun sv608 a w=>∃ Sv1008,Sl 84 [(1,pt b5),(3,iv sv608)] a∧Wd ⟨w0,S0,[]⟩ Sv1008 [.box b5 [sl p2 k3 inv1.Channels] 29] [Sq p2 k3 inv1.Channels] w) 0 u ⟨S0,wj s d [0] [0]⟩ ?_)
 repeat clear u
 rintro sv608 a w tv1209 ⟨Sv1008,s,d⟩ u hd1208
 refine wp_seq (sz 5 [0] s d rfl rfl fun a s=>?_)
 refine cd s u rfl (fun u=>?_) fun u=>?_
 ·refine sk (wp_seq (wp_block (sn 3 [0] s d rfl rfl fun a s=>?_)))
  obtain ⟨x1412,h1410,u⟩:=bt u
  obtain ⟨b1418,o1419,q1416,c1417,h1420,h1413,h1414,h1415,h1411⟩:=d.elemV 0 rfl h1410
  have hsv1421:=s
  have hwv1422:=d
  subst h1420
  have s:=hsv1421
  have d:=hwv1422
  obtain ⟨_,_,_,_,_,rfl,rfl,rfl,rfl,rfl,⟨p1423,n1424,k1425,rfl,h1426⟩⟩:=h1411
  obtain rfl:=h1426.1
  have d:=(d.addE (e:=SlA p1423 _ k1425 x1412.Epochs) h1426).addE h1415
  refine sv s (o8 runUnderlying27 sizeOf73 rfl rfl h1413.1 h1413.2 h1414) rfl fun a s=>?_
  refine sv s (D9 (j:=0) (d.ceAt 0 rfl) rfl isAgg73 sizeOf73 rfl rfl) rfl fun a s=>?_
  refine wa Z2 s d zeroValue73 fun b1427 a w s d=>?_
  refine ws (C73 x1412 p1423 k1425) s d 0 rfl rfl rfl sizeOf73 fun a w s d=>?_
  refine nl (wp_seq (wp_seq ?_))
  obtain ⟨rv1429,h1428,u⟩:=bt u
  obtain ⟨c1445,hc1445,u⟩:=bt u
  obtain ⟨c1448,hc1448,u⟩:=bt u
  refine y9 (fun a w=>∃ Sv1449,Sl 84 [(1,pt b5),(3,iv sv608),(4,pt b1427),(45,.bool c1448)] a∧Wd ⟨w0,S0,[]⟩ Sv1449 [.box b5 [sl (some ⟨b1418,o1419,none⟩) k3 inv1.Channels] 29,.box b1427 (C73 x1412 p1423 k1425) 73] [Sq (some ⟨b1418,o1419,none⟩) k3 inv1.Channels,Sq p1423 k1425 x1412.Epochs] w) ?_ ?_
  ·rcases Bool.eq_false_or_eq_true (!rv1429) with h1450 | h1450
   ·have h1451:=D5 hc1445 h1450
    have h1452:c1445=true:=(Option.some.inj h1451).symm
    have h1453:=D5 hc1448 h1452
    refine h_c [0,1] [0] d rfl rfl (by kernel_rfl) rfl fun hC d=>?_
    refine gn 2 [0,1] [0] s hC rfl rfl rfl fun a s=>?_
    refine ho 2 rfl ?_
    refine cV s d (a0R h1428 d.bdom) (d9 call62 rfl) rfl fun a w s d=>?_
    refine h_n [0,1] [0] d rfl rfl fun hC=>?_
    refine gn 2 [3,4] [] s hC rfl rfl rfl fun a s=>?_
    have s:=s.bT 22 rfl h1450
    refine gn 15 [5,6,7,8,9,10,11,12,13,14,15,16,17,18,19] [] s hC rfl rfl rfl fun a s=>?_
    refine gT s 20 rfl rfl hC rfl rfl h1451 fun a s=>?_
    refine gm s 21 rfl rfl rfl hC fun a s=>?_
    have s:=s.bT 39 rfl h1452
    refine gn 5 [22,23,24,25,26] [] s hC rfl rfl rfl fun a s=>?_
    refine gT s 27 rfl rfl hC rfl rfl h1453 fun a s=>?_
    refine x8 (by kernel_rfl) ?_
    exact ⟨Sv1008,wj s d [1,0] [2,1]⟩
   have h1460:=D6 hc1445 h1450
   obtain ⟨c1475,hc1475,h1460⟩:=O6 h1460
   rcases Bool.eq_false_or_eq_true (decide (0<sv608)) with h1476 | h1476
   ·have h1477:=D5 hc1475 h1476
    obtain ⟨x1480,h1478,h1477⟩:=O6 h1477
    obtain ⟨q1484,c1485,h1481,h1482,h1483,h1479⟩:=d.elemK 2 rfl h1478
    obtain ⟨_,_,_,_,_,rfl,rfl,rfl,rfl,rfl,⟨p1486,n1487,k1488,rfl,h1489⟩⟩:=h1479
    obtain rfl:=h1489.1
    have d:=(d.addE (e:=SlA p1486 _ k1488 x1480.Epochs) h1489).addE h1483
    obtain ⟨rv1491,h1490,h1477⟩:=O6 h1477
    rcases Bool.eq_false_or_eq_true c1445 with h1492 | h1492
    ·have h1493:=D5 hc1448 h1492
     refine h_c [0,1] [0,2] d rfl rfl (by kernel_rfl) rfl fun hC d=>?_
     refine gn 2 [0,1] [0] s hC rfl rfl rfl fun a s=>?_
     refine ho 2 rfl ?_
     refine cV s d (a0R h1428 d.bdom) (d9 call62 rfl) rfl fun a w s d=>?_
     refine h_n [0,1] [0,2] d rfl rfl fun hC=>?_
     refine gn 2 [3,4] [] s hC rfl rfl rfl fun a s=>?_
     have s:=s.bF 22 rfl h1450
     refine gn 3 [5,6,7] [] s hC rfl rfl rfl fun a s=>?_
     have s:=s.bT 25 rfl h1476
     refine gn 4 [8,9,10,11] [1] s hC rfl rfl rfl fun a s=>?_
     refine gx s 12 rfl ⟨_,rfl,rfl⟩ rfl hC runUnderlying27 sizeOf73 rfl rfl h1481 h1482 fun a s=>?_
     refine gt s 13 rfl ⟨_,rfl,rfl⟩ rfl hC (fun w hC=>j5 (o':=q1484+0) runUnderlying73 rfl sizeOf32 rfl rfl rfl) fun a s=>?_
     refine gt s 14 rfl ⟨_,rfl,rfl⟩ rfl hC (fun w hC=>D9 (j:=0) (hC.ceAt 0 rfl) rfl isAgg32 sizeOf32 rfl rfl) fun a s=>?_
     refine gn 2 [15,16] [0] s hC rfl rfl rfl fun a s=>?_
     refine ho 17 rfl ?_
     refine q9 s (a4f h1490 d.bdom) (d9 call63 rfl) ⟨_,rfl,rfl⟩ rfl rfl ?_
     rintro v1503 Sv1500 w a h1501 rfl s
     have d:=d.callB h1501
     refine h_n [0,1] [0,2] d rfl rfl fun hC=>?_
     refine gt s 18 rfl ⟨_,rfl,rfl⟩ rfl hC (fun w hC=>a8a rfl rfl) fun a s=>?_
     refine gt s 19 rfl ⟨_,rfl,rfl⟩ rfl hC (fun w hC=>a5W (v:=.bool c1475) rfl rfl (vbs h1477)) fun a s=>?_
     refine gF s 20 rfl rfl hC rfl rfl h1460 fun a s=>?_
     refine gm s 21 rfl rfl rfl hC fun a s=>?_
     have s:=s.bT 39 rfl h1492
     refine gn 5 [22,23,24,25,26] [] s hC rfl rfl rfl fun a s=>?_
     refine gT s 27 rfl rfl hC rfl rfl h1493 fun a s=>?_
     refine x8 (by kernel_rfl) ?_
     exact ⟨Sv1008,wj s d [1,0] [4,3]⟩
    have h1506:=D6 hc1448 h1492
    obtain ⟨rv1508,h1507,h1506⟩:=O6 h1506
    refine h_c [0,1] [0,2] d rfl rfl (by kernel_rfl) rfl fun hC d=>?_
    refine gn 2 [0,1] [0] s hC rfl rfl rfl fun a s=>?_
    refine ho 2 rfl ?_
    refine cV s d (a0R h1428 d.bdom) (d9 call62 rfl) rfl fun a w s d=>?_
    refine h_n [0,1] [0,2] d rfl rfl fun hC=>?_
    refine gn 2 [3,4] [] s hC rfl rfl rfl fun a s=>?_
    have s:=s.bF 22 rfl h1450
    refine gn 3 [5,6,7] [] s hC rfl rfl rfl fun a s=>?_
    have s:=s.bT 25 rfl h1476
    refine gn 4 [8,9,10,11] [1] s hC rfl rfl rfl fun a s=>?_
    refine gx s 12 rfl ⟨_,rfl,rfl⟩ rfl hC runUnderlying27 sizeOf73 rfl rfl h1481 h1482 fun a s=>?_
    refine gt s 13 rfl ⟨_,rfl,rfl⟩ rfl hC (fun w hC=>j5 (o':=q1484+0) runUnderlying73 rfl sizeOf32 rfl rfl rfl) fun a s=>?_
    refine gt s 14 rfl ⟨_,rfl,rfl⟩ rfl hC (fun w hC=>D9 (j:=0) (hC.ceAt 0 rfl) rfl isAgg32 sizeOf32 rfl rfl) fun a s=>?_
    refine gn 2 [15,16] [0] s hC rfl rfl rfl fun a s=>?_
    refine ho 17 rfl ?_
    refine q9 s (a4f h1490 d.bdom) (d9 call63 rfl) ⟨_,rfl,rfl⟩ rfl rfl ?_
    rintro v1518 Sv1515 w a h1516 rfl s
    have d:=d.callB h1516
    refine h_n [0,1] [0,2] d rfl rfl fun hC=>?_
    refine gt s 18 rfl ⟨_,rfl,rfl⟩ rfl hC (fun w hC=>a8a rfl rfl) fun a s=>?_
    refine gt s 19 rfl ⟨_,rfl,rfl⟩ rfl hC (fun w hC=>a5W (v:=.bool c1475) rfl rfl (vbs h1477)) fun a s=>?_
    refine gF s 20 rfl rfl hC rfl rfl h1460 fun a s=>?_
    refine gm s 21 rfl rfl rfl hC fun a s=>?_
    have s:=s.bF 39 rfl h1492
    refine gn 3 [22,23,24] [0] s hC rfl rfl rfl fun a s=>?_
    refine ho 25 rfl ?_
    refine q9 s (M5 h1507 d.bdom) (d9 call64 rfl) ⟨_,rfl,rfl⟩ rfl rfl ?_
    rintro v1524 Sv1521 w a h1522 rfl s
    have d:=d.callB h1522
    refine h_n [0,1] [0,2] d rfl rfl fun hC=>?_
    refine gt s 26 rfl ⟨_,rfl,rfl⟩ rfl hC (fun w hC=>a9Q rfl) fun a s=>?_
    refine gF s 27 rfl rfl hC rfl rfl h1506 fun a s=>?_
    refine x8 (by kernel_rfl) ?_
    exact ⟨Sv1008,wj s d [1,0] [4,3]⟩
   have h1527:=D6 hc1475 h1476
   rcases Bool.eq_false_or_eq_true c1445 with h1528 | h1528
   ·have h1529:=D5 hc1448 h1528
    refine h_c [0,1] [0] d rfl rfl (by kernel_rfl) rfl fun hC d=>?_
    refine gn 2 [0,1] [0] s hC rfl rfl rfl fun a s=>?_
    refine ho 2 rfl ?_
    refine cV s d (a0R h1428 d.bdom) (d9 call62 rfl) rfl fun a w s d=>?_
    refine h_n [0,1] [0] d rfl rfl fun hC=>?_
    refine gn 2 [3,4] [] s hC rfl rfl rfl fun a s=>?_
    have s:=s.bF 22 rfl h1450
    refine gn 3 [5,6,7] [] s hC rfl rfl rfl fun a s=>?_
    have s:=s.bF 25 rfl h1476
    refine gn 11 [8,9,10,11,12,13,14,15,16,17,18] [] s hC rfl rfl rfl fun a s=>?_
    refine gt s 19 rfl ⟨_,rfl,rfl⟩ rfl hC (fun w hC=>a5V (v:=.bool c1475) rfl rfl (vbs h1527)) fun a s=>?_
    refine gF s 20 rfl rfl hC rfl rfl h1460 fun a s=>?_
    refine gm s 21 rfl rfl rfl hC fun a s=>?_
    have s:=s.bT 39 rfl h1528
    refine gn 5 [22,23,24,25,26] [] s hC rfl rfl rfl fun a s=>?_
    refine gT s 27 rfl rfl hC rfl rfl h1529 fun a s=>?_
    refine x8 (by kernel_rfl) ?_
    exact ⟨Sv1008,wj s d [1,0] [2,1]⟩
   have h1536:=D6 hc1448 h1528
   obtain ⟨rv1538,h1537,h1536⟩:=O6 h1536
   refine h_c [0,1] [0] d rfl rfl (by kernel_rfl) rfl fun hC d=>?_
   refine gn 2 [0,1] [0] s hC rfl rfl rfl fun a s=>?_
   refine ho 2 rfl ?_
   refine cV s d (a0R h1428 d.bdom) (d9 call62 rfl) rfl fun a w s d=>?_
   refine h_n [0,1] [0] d rfl rfl fun hC=>?_
   refine gn 2 [3,4] [] s hC rfl rfl rfl fun a s=>?_
   have s:=s.bF 22 rfl h1450
   refine gn 3 [5,6,7] [] s hC rfl rfl rfl fun a s=>?_
   have s:=s.bF 25 rfl h1476
   refine gn 11 [8,9,10,11,12,13,14,15,16,17,18] [] s hC rfl rfl rfl fun a s=>?_
   refine gt s 19 rfl ⟨_,rfl,rfl⟩ rfl hC (fun w hC=>a5V (v:=.bool c1475) rfl rfl (vbs h1527)) fun a s=>?_
   refine gF s 20 rfl rfl hC rfl rfl h1460 fun a s=>?_
   refine gm s 21 rfl rfl rfl hC fun a s=>?_
   have s:=s.bF 39 rfl h1528
   refine gn 3 [22,23,24] [0] s hC rfl rfl rfl fun a s=>?_
   refine ho 25 rfl ?_
   refine q9 s (M5 h1537 d.bdom) (d9 call64 rfl) ⟨_,rfl,rfl⟩ rfl rfl ?_
   rintro v1548 Sv1545 w a h1546 rfl s
   have d:=d.callB h1546
   refine h_n [0,1] [0] d rfl rfl fun hC=>?_
   refine gt s 26 rfl ⟨_,rfl,rfl⟩ rfl hC (fun w hC=>a9Q rfl) fun a s=>?_
   refine gF s 27 rfl rfl hC rfl rfl h1536 fun a s=>?_
   refine x8 (by kernel_rfl) ?_
   exact ⟨Sv1008,wj s d [1,0] [2,1]⟩
  rintro a w ⟨Sv1449,s,d⟩
  refine tn (cd s u rfl (fun u=>?_) fun u=>?_)
  ·refine sz0 1 s rfl fun a s=>?_
   obtain rfl:=oi u
   have h1553:=hd1208 _ rfl
   subst h1553
   exact wp_ret (j3 (r9 (j3 (j3 (r9 (j3 (rt s rfl (d.ret rfl))))))))
  refine sk (sz0 1 s rfl fun a s=>?_)
  refine wp_block (u7 (fun sv1709 a w=>∃ Sv1811,Sl 84 [(1,pt b5),(3,iv sv608),(4,pt b1427),(5,iv sv1709)] a∧Wd ⟨w0,S0,[]⟩ Sv1811 [.box b5 [sl (some ⟨b1418,o1419,none⟩) k3 inv1.Channels] 29,.box b1427 (C73 x1412 p1423 k1425) 73] [Sq (some ⟨b1418,o1419,none⟩) k3 inv1.Channels,Sq p1423 k1425 x1412.Epochs] w) 0 u ⟨Sv1449,wj s d [0,1] [0,1]⟩ ?_)
  repeat clear u
  rintro sv1709 a w tv1863 ⟨Sv1811,s,d⟩ u hd1862
  refine wp_seq (sz 5 [1] s d rfl rfl fun a s=>?_)
  refine cd s u rfl (fun u=>?_) fun u=>?_
  ·refine sk (wp_seq (wp_block (wp_seq ?_)))
   obtain ⟨x1917,h1915,u⟩:=bt u
   obtain ⟨b1923,o1924,q1921,c1922,h1925,h1918,h1919,h1920,h1916⟩:=d.elemV 1 rfl h1915
   have hsv1926:=s
   have hwv1927:=d
   subst h1925
   have s:=hsv1926
   have d:=hwv1927
   obtain ⟨_,_,_,_,_,_,_,_,rfl,rfl,rfl,rfl,rfl,rfl,rfl,rfl,⟨p1928,n1929,k1930,rfl,h1931⟩⟩:=h1916
   obtain rfl:=h1931.1
   have d:=(d.addE (e:=SlA p1928 _ k1930 x1917.Response.Stages) h1931).addE h1920
   obtain ⟨rv1933,h1932,u⟩:=bt u
   obtain ⟨c1959,hc1959,u⟩:=bt u
   refine y9 (fun a w=>∃ Sv1960,Sl 84 [(1,pt b5),(3,iv sv608),(4,pt b1427),(5,iv sv1709),(79,.bool c1959)] a∧Wd ⟨w0,S0,[]⟩ Sv1960 [.box b5 [sl (some ⟨b1418,o1419,none⟩) k3 inv1.Channels] 29,.box b1427 (C73 x1412 (some ⟨b1923,o1924,none⟩) k1425) 73] [Sq (some ⟨b1418,o1419,none⟩) k3 inv1.Channels,Sq (some ⟨b1923,o1924,none⟩) k1425 x1412.Epochs] w) ?_ ?_
   ·rcases Bool.eq_false_or_eq_true (!rv1933) with h1961 | h1961
    ·have h1962:=D5 hc1959 h1961
     refine h_c [0,1] [0] d rfl rfl (by kernel_rfl) rfl fun hC d=>?_
     refine gn 3 [0,1,2] [1] s hC rfl rfl rfl fun a s=>?_
     refine gx s 3 rfl trivial rfl hC runUnderlying71 sizeOf41 rfl rfl h1918 h1919 fun a s=>?_
     refine gv s 4 rfl rfl hC (fun w hC=>D9 (j:=0) (hC.ceAt 0 rfl) rfl isAgg41 sizeOf41 rfl rfl) fun a s=>?_
     refine ho 5 rfl ?_
     refine cV s d (a0N h1932 d.bdom (d.bE 1 rfl)) (d9 call65 rfl) rfl fun a w s d=>?_
     refine h_n [0,1] [0] d rfl rfl fun hC=>?_
     refine gn 2 [6,7] [] s hC rfl rfl rfl fun a s=>?_
     have s:=s.bT 60 rfl h1961
     refine gn 18 [8,9,10,11,12,13,14,15,16,17,18,19,20,21,22,23,24,25] [] s hC rfl rfl rfl fun a s=>?_
     refine gT s 26 rfl rfl hC rfl rfl h1962 fun a s=>?_
     refine x8 (by kernel_rfl) ?_
     exact ⟨Sv1811,wj s d [0,1] [2,3]⟩
    have h1969:=D6 hc1959 h1961
    obtain ⟨c1994,hc1994,h1969⟩:=O6 h1969
    rcases Bool.eq_false_or_eq_true (decide (0<sv1709)) with h1995 | h1995
    ·have h1996:=D5 hc1994 h1995
     obtain ⟨x1999,h1997,h1996⟩:=O6 h1996
     obtain ⟨q2003,c2004,h2000,h2001,h2002,h1998⟩:=d.elemK 3 rfl h1997
     obtain ⟨_,_,_,_,_,_,_,_,rfl,rfl,rfl,rfl,rfl,rfl,rfl,rfl,⟨p2005,n2006,k2007,rfl,h2008⟩⟩:=h1998
     obtain rfl:=h2008.1
     have d:=(d.addE (e:=SlA p2005 _ k2007 x1999.Response.Stages) h2008).addE h2002
     obtain ⟨x2011,h2009,h1996⟩:=O6 h1996
     obtain ⟨q2015,c2016,h2012,h2013,h2014,h2010⟩:=d.elemK 5 rfl h2009
     obtain ⟨_,_,_,_,_,_,_,_,rfl,rfl,rfl,rfl,rfl,rfl,rfl,rfl,⟨p2017,n2018,k2019,rfl,h2020⟩⟩:=h2010
     obtain rfl:=h2020.1
     have d:=(d.addE (e:=SlA p2017 _ k2019 x2011.Response.Stages) h2020).addE h2014
     refine h_c [0,1] [0,2,4] d rfl rfl (by kernel_rfl) rfl fun hC d=>?_
     refine gn 3 [0,1,2] [1] s hC rfl rfl rfl fun a s=>?_
     refine gx s 3 rfl trivial rfl hC runUnderlying71 sizeOf41 rfl rfl h1918 h1919 fun a s=>?_
     refine gv s 4 rfl rfl hC (fun w hC=>D9 (j:=0) (hC.ceAt 2 rfl) rfl isAgg41 sizeOf41 rfl rfl) fun a s=>?_
     refine ho 5 rfl ?_
     refine cV s d (a0N h1932 d.bdom (d.bE 5 rfl)) (d9 call65 rfl) rfl fun a w s d=>?_
     refine h_n [0,1] [0,2,4] d rfl rfl fun hC=>?_
     refine gn 2 [6,7] [] s hC rfl rfl rfl fun a s=>?_
     have s:=s.bF 60 rfl h1961
     refine gn 3 [8,9,10] [] s hC rfl rfl rfl fun a s=>?_
     have s:=s.bT 63 rfl h1995
     refine gn 3 [11,12,13] [1] s hC rfl rfl rfl fun a s=>?_
     refine gx s 14 rfl ⟨_,rfl,rfl⟩ rfl hC runUnderlying71 sizeOf41 rfl rfl h2000 h2001 fun a s=>?_
     refine gt s 15 rfl ⟨_,rfl,rfl⟩ rfl hC (fun w hC=>j5 (o':=q2003+0) runUnderlying41 rfl sizeOf3 rfl rfl rfl) fun a s=>?_
     refine gt s 16 rfl ⟨_,rfl,rfl⟩ rfl hC (fun w hC=>F5 (j:=0) (hC.ceAt 1 rfl) rfl isAgg3 rfl) fun a s=>?_
     refine gn 4 [17,18,19,20] [1] s hC rfl rfl rfl fun a s=>?_
     refine gx s 21 rfl ⟨_,rfl,rfl⟩ rfl hC runUnderlying71 sizeOf41 rfl rfl h2012 h2013 fun a s=>?_
     refine gt s 22 rfl ⟨_,rfl,rfl⟩ rfl hC (fun w hC=>j5 (o':=q2015+1) runUnderlying41 rfl sizeOf3 rfl rfl rfl) fun a s=>?_
     refine gt s 23 rfl ⟨_,rfl,rfl⟩ rfl hC (fun w hC=>F5 (j:=1) (hC.ceAt 0 rfl) rfl isAgg3 rfl) fun a s=>?_
     refine gt s 24 rfl ⟨_,rfl,rfl⟩ rfl hC (fun w hC=>b1M rfl rfl) fun a s=>?_
     refine gt s 25 rfl ⟨_,rfl,rfl⟩ rfl hC (fun w hC=>a5W (v:=.bool c1994) rfl rfl (vbs h1996)) fun a s=>?_
     refine gF s 26 rfl rfl hC rfl rfl h1969 fun a s=>?_
     refine x8 (by kernel_rfl) ?_
     exact ⟨Sv1811,wj s d [0,1] [6,7]⟩
    have h2027:=D6 hc1994 h1995
    refine h_c [0,1] [0] d rfl rfl (by kernel_rfl) rfl fun hC d=>?_
    refine gn 3 [0,1,2] [1] s hC rfl rfl rfl fun a s=>?_
    refine gx s 3 rfl trivial rfl hC runUnderlying71 sizeOf41 rfl rfl h1918 h1919 fun a s=>?_
    refine gv s 4 rfl rfl hC (fun w hC=>D9 (j:=0) (hC.ceAt 0 rfl) rfl isAgg41 sizeOf41 rfl rfl) fun a s=>?_
    refine ho 5 rfl ?_
    refine cV s d (a0N h1932 d.bdom (d.bE 1 rfl)) (d9 call65 rfl) rfl fun a w s d=>?_
    refine h_n [0,1] [0] d rfl rfl fun hC=>?_
    refine gn 2 [6,7] [] s hC rfl rfl rfl fun a s=>?_
    have s:=s.bF 60 rfl h1961
    refine gn 3 [8,9,10] [] s hC rfl rfl rfl fun a s=>?_
    have s:=s.bF 63 rfl h1995
    refine gn 14 [11,12,13,14,15,16,17,18,19,20,21,22,23,24] [] s hC rfl rfl rfl fun a s=>?_
    refine gt s 25 rfl ⟨_,rfl,rfl⟩ rfl hC (fun w hC=>a5V (v:=.bool c1994) rfl rfl (vbs h2027)) fun a s=>?_
    refine gF s 26 rfl rfl hC rfl rfl h1969 fun a s=>?_
    refine x8 (by kernel_rfl) ?_
    exact ⟨Sv1811,wj s d [0,1] [2,3]⟩
   rintro a w ⟨Sv1960,s,d⟩
   refine tn (cd s u rfl (fun u=>?_) fun u=>?_)
   ·refine sz0 1 s rfl fun a s=>?_
    obtain rfl:=oi u
    have h2036:=hd1862 _ rfl
    subst h2036
    have h2037:=hd1208 _ rfl
    subst h2037
    exact wp_ret (r9 (j3 (j3 (r9 (r9 (j3 (j3 (r9 (j3 (rt s rfl (d.ret rfl)))))))))))
   refine wp_skip (l9 (tn (wp_region_lit (rn0 2 s rfl fun a s=>?_))))
   obtain ⟨k2039,h2038,u⟩:=bt u
   refine sv s (q8 rfl h2038) rfl fun a s=>?_
   exact nl ⟨_,io u,Sv1960,wj s d [0,1] [0,1]⟩
  obtain ⟨rv2042,u,h2043⟩:=Y7 u
  have h2043:=(hd1862 _ h2043.symm).symm
  subst h2043
  refine wp_exit (j4 (j4 (o9 (l9 (tn (wp_region_lit (rn0 2 s rfl fun a s=>?_)))))))
  obtain ⟨i2041,h2040,u⟩:=bt u
  refine sv s (q8 rfl h2040) rfl fun a s=>?_
  exact nl ⟨_,io u,Sv1811,wj s d [0] [0]⟩
 obtain ⟨rv2044,u,h2045⟩:=Y7 u
 have h2045:=(hd1208 _ h2045.symm).symm
 subst h2045
 refine wp_exit (j4 (j4 (o9 (tn (sz 5 [0] s d rfl rfl fun a s=>?_)))))
 obtain rfl:=oi u
 exact q1 s rfl (d.ret rfl)
theorem a8q {w0 S0 p2 k3 p6 k7 a1 b5 r} (u:a2V a1 b5=some r) (hS:Dm S0 w0) (h4:(Sq p2 k3 a1.Taps).p S0 w0) (h8:(Sq p6 k7 b5.Taps).p S0 w0):Ck Tryz.prog 116 #[V138 a1 p2 k3,V138 b5 p6 k7] w0 S0 [] l7 r:=by
 refine en 66 func116 rfl hS rfl rfl rfl fun a s d=>?_
 have d:=(d.addE h4).addE h8
 refine sr (wb (a1y a1 p2 k3) s d rfl fun b9 a w s d=>?_)
 refine wb (a1y b5 p6 k7) s d rfl fun b10 a w s d=>?_
 refine rz0 1 s rfl fun a s=>?_
 refine wp_seq (sn 6 [1,0] s d rfl rfl fun a s=>?_)
 refine o7 6 (fun a w1=>w=w1∧Sl 66 [(2,pt b9),(3,pt b10),(17,.bool ((a1.Kind != b5.Kind) || (!((a1.Num.e0 == b5.Num.e0) && ((a1.Num.e1 == b5.Num.e1) && ((a1.Num.e2 == b5.Num.e2) && true))))))] a) ?_ ?_
 ·rcases Bool.eq_false_or_eq_true (a1.Kind != b5.Kind) with h11 | h11
  ·have s:=s.bT 11 rfl h11
   refine rz0 6 s rfl fun a s=>?_
   exact ⟨rfl,(s.fix 17 (.bool ((a1.Kind != b5.Kind) || (!((a1.Num.e0 == b5.Num.e0) && ((a1.Num.e1 == b5.Num.e1) && ((a1.Num.e2 == b5.Num.e2) && true)))))) rfl (or_t h11)).weaken _ ⟨rfl,rfl,rfl,trivial⟩⟩
  have s:=s.bF 11 rfl h11
  refine rn 4 [1,0] s d rfl rfl fun a s=>?_
  refine y8 s (a7v (by kernel_rfl) rfl rfl (a1J runUnderlying136 sizeOf3 (EqA.cons1 isAgg3 rfl rfl (F4 runUnderlying3) (EqA.cons1 isAgg3 rfl rfl (F4 runUnderlying3) (EqA.cons1 isAgg3 rfl rfl (F4 runUnderlying3) EqA.nil))))) ⟨_,rfl,rfl⟩ rfl rfl fun a s=>?_
  refine rz0 1 s rfl fun a s=>?_
  exact ⟨rfl,(s.fix 17 (.bool ((a1.Kind != b5.Kind) || (!((a1.Num.e0 == b5.Num.e0) && ((a1.Num.e1 == b5.Num.e1) && ((a1.Num.e2 == b5.Num.e2) && true)))))) rfl (or_f h11)).weaken _ ⟨rfl,rfl,rfl,trivial⟩⟩
 rintro a w1 ⟨h281,s⟩
 subst h281
 refine mv s rfl rfl fun a s=>?_
 refine o7 6 (fun a w1=>w=w1∧Sl 66 [(2,pt b9),(3,pt b10),(24,.bool (((a1.Kind != b5.Kind) || (!((a1.Num.e0 == b5.Num.e0) && ((a1.Num.e1 == b5.Num.e1) && ((a1.Num.e2 == b5.Num.e2) && true))))) || (!((a1.Den.e0 == b5.Den.e0) && ((a1.Den.e1 == b5.Den.e1) && ((a1.Den.e2 == b5.Den.e2) && true))))))] a) ?_ ?_
 ·rcases Bool.eq_false_or_eq_true ((a1.Kind != b5.Kind) || (!((a1.Num.e0 == b5.Num.e0) && ((a1.Num.e1 == b5.Num.e1) && ((a1.Num.e2 == b5.Num.e2) && true))))) with h12 | h12
  ·have s:=s.bT 18 rfl h12
   refine rz0 6 s rfl fun a s=>?_
   exact ⟨rfl,(s.fix 24 (.bool (((a1.Kind != b5.Kind) || (!((a1.Num.e0 == b5.Num.e0) && ((a1.Num.e1 == b5.Num.e1) && ((a1.Num.e2 == b5.Num.e2) && true))))) || (!((a1.Den.e0 == b5.Den.e0) && ((a1.Den.e1 == b5.Den.e1) && ((a1.Den.e2 == b5.Den.e2) && true)))))) rfl (or_t h12)).weaken _ ⟨rfl,rfl,rfl,trivial⟩⟩
  have s:=s.bF 18 rfl h12
  refine rn 4 [1,0] s d rfl rfl fun a s=>?_
  refine y8 s (a7v (by kernel_rfl) rfl rfl (a1J runUnderlying136 sizeOf3 (EqA.cons1 isAgg3 rfl rfl (F4 runUnderlying3) (EqA.cons1 isAgg3 rfl rfl (F4 runUnderlying3) (EqA.cons1 isAgg3 rfl rfl (F4 runUnderlying3) EqA.nil))))) ⟨_,rfl,rfl⟩ rfl rfl fun a s=>?_
  refine rz0 1 s rfl fun a s=>?_
  exact ⟨rfl,(s.fix 24 (.bool (((a1.Kind != b5.Kind) || (!((a1.Num.e0 == b5.Num.e0) && ((a1.Num.e1 == b5.Num.e1) && ((a1.Num.e2 == b5.Num.e2) && true))))) || (!((a1.Den.e0 == b5.Den.e0) && ((a1.Den.e1 == b5.Den.e1) && ((a1.Den.e2 == b5.Den.e2) && true)))))) rfl (or_f h12)).weaken _ ⟨rfl,rfl,rfl,trivial⟩⟩
 rintro a w1 ⟨h280,s⟩
 subst h280
 refine mv s rfl rfl fun a s=>?_
 refine rO 6 25 [1,0] s d rfl rfl rfl rfl rfl fun a s=>?_
 refine mv s rfl rfl fun a s=>?_
 refine rO 6 32 [1,0] s d rfl rfl rfl rfl rfl fun a s=>?_
 refine mv s rfl rfl fun a s=>?_
 refine rO 8 39 [1,0] s d rfl rfl rfl rfl rfl fun a s=>?_
 refine nl (cd s u rfl (fun u=>?_) fun u=>?_)
 ·refine sz0 1 s rfl fun a s=>?_
  obtain rfl:=oi u
  exact wp_ret (j3 (rt s rfl (d.ret rfl)))
 refine sk (wp_seq (sz0 1 s rfl fun a s=>?_))
 refine wp_block (u7 (fun sv116 a w=>∃ Sv180,Sl 66 [(2,pt b9),(3,pt b10),(5,iv sv116)] a∧Wd ⟨w0,S0,[]⟩ Sv180 [.box b9 (a1y a1 p2 k3) 138,.box b10 (a1y b5 p6 k7) 138] [Sq p2 k3 a1.Taps,Sq p6 k7 b5.Taps] w) 0 u ⟨S0,wj s d [1,0] [1,0]⟩ ?_)
 repeat clear u
 rintro sv116 a w tv213 ⟨Sv180,s,d⟩ u hd212
 refine wp_seq (sz 5 [0] s d rfl rfl fun a s=>?_)
 refine cd s u rfl (fun u=>?_) fun u=>?_
 ·refine sk (wp_seq (wp_block (wp_seq ?_)))
  obtain ⟨x248,h246,u⟩:=bt u
  obtain ⟨b254,o255,q252,c253,h256,h249,h250,h251,h247⟩:=d.elemV 0 rfl h246
  have hsv257:=s
  have hwv258:=d
  subst h256
  have s:=hsv257
  have d:=hwv258
  obtain ⟨_,rfl,rfl⟩:=h247
  have d:=d.addE h251
  obtain ⟨x261,h259,u⟩:=bt u
  obtain ⟨b267,o268,q265,c266,h269,h262,h263,h264,h260⟩:=d.elemV 2 rfl h259
  have hsv270:=s
  have hwv271:=d
  subst h269
  have s:=hsv270
  have d:=hwv271
  obtain ⟨_,rfl,rfl⟩:=h260
  have d:=d.addE h264
  refine y9 (fun a w=>∃ Sv272,Sl 66 [(2,pt b9),(3,pt b10),(5,iv sv116),(65,.bool (x248 != x261))] a∧Wd ⟨w0,S0,[]⟩ Sv272 [.box b9 (a1y a1 (some ⟨b254,o255,none⟩) k3) 138,.box b10 (a1y b5 (some ⟨b267,o268,none⟩) k7) 138] [Sq (some ⟨b254,o255,none⟩) k3 a1.Taps,Sq (some ⟨b267,o268,none⟩) k7 b5.Taps] w) ?_ ?_
  ·refine h_c [0,1] [0,1] d rfl rfl (by kernel_rfl) rfl fun hC d=>?_
   refine gn 3 [0,1,2] [0] s hC rfl rfl rfl fun a s=>?_
   refine gx s 3 rfl trivial rfl hC runUnderlying22 sizeOf3 rfl rfl h249 h250 fun a s=>?_
   refine gv s 4 rfl rfl hC (fun w hC=>F5 (j:=0) (hC.ceAt 1 rfl) rfl isAgg3 rfl) fun a s=>?_
   refine gn 3 [5,6,7] [1] s hC rfl rfl rfl fun a s=>?_
   refine gx s 8 rfl trivial rfl hC runUnderlying22 sizeOf3 rfl rfl h262 h263 fun a s=>?_
   refine gv s 9 rfl rfl hC (fun w hC=>F5 (j:=0) (hC.ceAt 0 rfl) rfl isAgg3 rfl) fun a s=>?_
   refine gv s 10 rfl rfl hC (fun w hC=>y_neq rfl rfl) fun a s=>?_
   refine x8 (by kernel_rfl) ?_
   exact ⟨Sv180,wj s d [0,1] [2,3]⟩
  rintro a w ⟨Sv272,s,d⟩
  refine tn (cd s u rfl (fun u=>?_) fun u=>?_)
  ·refine sz0 1 s rfl fun a s=>?_
   obtain rfl:=oi u
   have h275:=hd212 _ rfl
   subst h275
   exact wp_ret (r9 (j3 (j3 (r9 (j3 (rt s rfl (d.ret rfl)))))))
  refine wp_skip (l9 (tn (wp_region_lit (rn0 2 s rfl fun a s=>?_))))
  obtain ⟨i277,h276,u⟩:=bt u
  refine sv s (q8 rfl h276) rfl fun a s=>?_
  exact nl ⟨_,io u,Sv272,wj s d [0,1] [0,1]⟩
 obtain ⟨rv278,u,h279⟩:=Y7 u
 have h279:=(hd212 _ h279.symm).symm
 subst h279
 refine wp_exit (j4 (j4 (o9 (tn (sz0 1 s rfl fun a s=>?_)))))
 obtain rfl:=oi u
 exact q1 s rfl (d.ret rfl)
theorem b1j {w0 S0 p2 k3 p6 k7 a1 b5 r} (u:a6q a1 b5=some r) (hS:Dm S0 w0) (h4:(Sq p2 k3 a1.Stages).p S0 w0) (h8:(Sq p6 k7 b5.Stages).p S0 w0):Ck Tryz.prog 70 #[.agg #[sl p2 k3 a1.Stages],.agg #[sl p6 k7 b5.Stages]] w0 S0 [] l7 r:=by
 refine en 32 func70 rfl hS rfl rfl rfl fun a s d=>?_
 have d:=(d.addE h4).addE h8
 refine sr (wb [sl p2 k3 a1.Stages] s d rfl fun b9 a w s d=>?_)
 refine wb [sl p6 k7 b5.Stages] s d rfl fun b10 a w s d=>?_
 refine rz0 1 s rfl fun a s=>?_
 refine wp_seq (sz 7 [1,0] s d rfl rfl fun a s=>?_)
 refine cd s u rfl (fun u=>?_) fun u=>?_
 ·refine sz0 1 s rfl fun a s=>?_
  obtain rfl:=oi u
  exact wp_ret (j3 (rt s rfl (d.ret rfl)))
 refine sk (wp_seq (sz0 1 s rfl fun a s=>?_))
 refine wp_block (u7 (fun sv141 a w=>∃ Sv225,Sl 32 [(2,pt b9),(3,pt b10),(5,iv sv141)] a∧Wd ⟨w0,S0,[]⟩ Sv225 [.box b9 [sl p2 k3 a1.Stages] 39,.box b10 [sl p6 k7 b5.Stages] 39] [Sq p2 k3 a1.Stages,Sq p6 k7 b5.Stages] w) 0 u ⟨S0,wj s d [1,0] [1,0]⟩ ?_)
 repeat clear u
 rintro sv141 a w tv268 ⟨Sv225,s,d⟩ u hd267
 refine wp_seq (sz 5 [0] s d rfl rfl fun a s=>?_)
 refine cd s u rfl (fun u=>?_) fun u=>?_
 ·refine sk (wp_seq (wp_block (wp_seq ?_)))
  obtain ⟨x313,h311,u⟩:=bt u
  obtain ⟨b319,o320,q317,c318,h321,h314,h315,h316,h312⟩:=d.elemV 0 rfl h311
  have hsv322:=s
  have hwv323:=d
  subst h321
  have s:=hsv322
  have d:=hwv323
  obtain ⟨_,_,_,_,_,_,_,_,_,_,rfl,rfl,rfl,rfl,rfl,rfl,rfl,rfl,⟨p324,n325,k326,rfl,h327⟩,rfl,rfl⟩:=h312
  obtain rfl:=h327.1
  have d:=(d.addE (e:=SlA p324 _ k326 x313.Taps) h327).addE h316
  obtain ⟨x330,h328,u⟩:=bt u
  obtain ⟨b336,o337,q334,c335,h338,h331,h332,h333,h329⟩:=d.elemV 3 rfl h328
  have hsv339:=s
  have hwv340:=d
  subst h338
  have s:=hsv339
  have d:=hwv340
  obtain ⟨_,_,_,_,_,_,_,_,_,_,rfl,rfl,rfl,rfl,rfl,rfl,rfl,rfl,⟨p341,n342,k343,rfl,h344⟩,rfl,rfl⟩:=h329
  obtain rfl:=h344.1
  have d:=(d.addE (e:=SlA p341 _ k343 x330.Taps) h344).addE h333
  obtain ⟨rv346,h345,u⟩:=bt u
  refine y9 (fun a w=>∃ Sv347,Sl 32 [(2,pt b9),(3,pt b10),(5,iv sv141),(31,.bool (!rv346))] a∧Wd ⟨w0,S0,[]⟩ Sv347 [.box b9 [sl (some ⟨b319,o320,none⟩) k3 a1.Stages] 39,.box b10 [sl (some ⟨b336,o337,none⟩) k7 b5.Stages] 39] [Sq (some ⟨b319,o320,none⟩) k3 a1.Stages,Sq (some ⟨b336,o337,none⟩) k7 b5.Stages] w) ?_ ?_
  ·refine h_c [0,1] [0,2] d rfl rfl (by kernel_rfl) rfl fun hC d=>?_
   refine gn 3 [0,1,2] [0] s hC rfl rfl rfl fun a s=>?_
   refine gx s 3 rfl trivial rfl hC runUnderlying37 sizeOf138 rfl rfl h314 h315 fun a s=>?_
   refine gv s 4 rfl rfl hC (fun w hC=>D9 (j:=0) (hC.ceAt 1 rfl) rfl isAgg138 sizeOf138 rfl rfl) fun a s=>?_
   refine gn 3 [5,6,7] [1] s hC rfl rfl rfl fun a s=>?_
   refine gx s 8 rfl trivial rfl hC runUnderlying37 sizeOf138 rfl rfl h331 h332 fun a s=>?_
   refine gv s 9 rfl rfl hC (fun w hC=>D9 (j:=0) (hC.ceAt 0 rfl) rfl isAgg138 sizeOf138 rfl rfl) fun a s=>?_
   refine ho 10 rfl ?_
   refine cV s d (a8q h345 d.bdom (d.bE 3 rfl) (d.bE 1 rfl)) (d9 call116 rfl) rfl fun a w s d=>?_
   refine h_n [0,1] [0,2] d rfl rfl fun hC=>?_
   refine gv s 11 rfl rfl hC (fun w hC=>a9Q rfl) fun a s=>?_
   refine x8 (by kernel_rfl) ?_
   exact ⟨Sv225,wj s d [0,1] [4,5]⟩
  rintro a w ⟨Sv347,s,d⟩
  refine tn (cd s u rfl (fun u=>?_) fun u=>?_)
  ·refine sz0 1 s rfl fun a s=>?_
   obtain rfl:=oi u
   have h356:=hd267 _ rfl
   subst h356
   exact wp_ret (r9 (j3 (j3 (r9 (j3 (rt s rfl (d.ret rfl)))))))
  refine wp_skip (l9 (tn (wp_region_lit (rn0 2 s rfl fun a s=>?_))))
  obtain ⟨i358,h357,u⟩:=bt u
  refine sv s (q8 rfl h357) rfl fun a s=>?_
  exact nl ⟨_,io u,Sv347,wj s d [0,1] [0,1]⟩
 obtain ⟨rv359,u,h360⟩:=Y7 u
 have h360:=(hd267 _ h360.symm).symm
 subst h360
 refine wp_exit (j4 (j4 (o9 (tn (sz0 1 s rfl fun a s=>?_)))))
 obtain rfl:=oi u
 exact q1 s rfl (d.ret rfl)
theorem a8r {w0 S0 p2 k3 p6 k7 a1 b5 r} (u:a0k a1 b5=some r) (hS:Dm S0 w0) (h4:(Sq p2 k3 a1.Response.Stages).p S0 w0) (h8:(Sq p6 k7 b5.Response.Stages).p S0 w0):Ck Tryz.prog 26 #[V41 a1 p2 k3,V41 b5 p6 k7] w0 S0 [] l7 r:=by
 refine en 38 func26 rfl hS rfl rfl rfl fun a s d=>?_
 have d:=(d.addE h4).addE h8
 refine sr (wb (C41 a1 p2 k3) s d rfl fun b9 a w s d=>?_)
 refine wb (C41 b5 p6 k7) s d rfl fun b10 a w s d=>?_
 refine rz0 1 s rfl fun a s=>?_
 refine sn 6 [1,0] s d rfl rfl fun a s=>?_
 refine rA 6 10 [1,0] s d rfl rfl rfl rfl rfl fun a s=>?_
 refine mv s rfl rfl fun a s=>?_
 refine o7 6 (fun a w1=>w=w1∧Sl 38 [(2,pt b9),(3,pt b10),(23,.bool (((a1.From == b5.From) && (a1.To == b5.To)) && ((a1.Rate.Num == b5.Rate.Num) && ((a1.Rate.Den == b5.Rate.Den) && true))))] a) ?_ ?_
 ·rcases Bool.eq_false_or_eq_true ((a1.From == b5.From) && (a1.To == b5.To)) with h12 | h12
  ·have s:=s.bT 17 rfl h12
   refine rn 4 [1,0] s d rfl rfl fun a s=>?_
   refine y8 s (a1Q (by kernel_rfl) rfl rfl (P6 runUnderlying34 (by kernel_rfl) (EqF.cons1 rfl isAgg3 rfl rfl (F4 runUnderlying3) (EqF.cons1 rfl isAgg3 rfl rfl (F4 runUnderlying3) EqF.nil)))) ⟨_,rfl,rfl⟩ rfl rfl fun a s=>?_
   refine rz0 1 s rfl fun a s=>?_
   exact ⟨rfl,(s.fix 23 (.bool (((a1.From == b5.From) && (a1.To == b5.To)) && ((a1.Rate.Num == b5.Rate.Num) && ((a1.Rate.Den == b5.Rate.Den) && true)))) rfl (a3i h12)).weaken _ ⟨rfl,rfl,rfl,trivial⟩⟩
  have s:=s.bF 17 rfl h12
  refine rz0 6 s rfl fun a s=>?_
  exact ⟨rfl,(s.fix 23 (.bool (((a1.From == b5.From) && (a1.To == b5.To)) && ((a1.Rate.Num == b5.Rate.Num) && ((a1.Rate.Den == b5.Rate.Den) && true)))) rfl (a3h h12)).weaken _ ⟨rfl,rfl,rfl,trivial⟩⟩
 rintro a w1 ⟨h34,s⟩
 subst h34
 refine mv s rfl rfl fun a s=>?_
 refine o7 6 (fun a w1=>w=w1∧Sl 38 [(2,pt b9),(3,pt b10),(30,.bool ((((a1.From == b5.From) && (a1.To == b5.To)) && ((a1.Rate.Num == b5.Rate.Num) && ((a1.Rate.Den == b5.Rate.Den) && true))) && ((a1.Position.X == b5.Position.X) && ((a1.Position.Y == b5.Position.Y) && ((a1.Position.Z == b5.Position.Z) && true)))))] a) ?_ ?_
 ·rcases Bool.eq_false_or_eq_true (((a1.From == b5.From) && (a1.To == b5.To)) && ((a1.Rate.Num == b5.Rate.Num) && ((a1.Rate.Den == b5.Rate.Den) && true))) with h13 | h13
  ·have s:=s.bT 24 rfl h13
   refine rn 4 [1,0] s d rfl rfl fun a s=>?_
   refine y8 s (a1Q (by kernel_rfl) rfl rfl (P6 runUnderlying36 (by kernel_rfl) (EqF.cons1 rfl isAgg3 rfl rfl (F4 runUnderlying3) (EqF.cons1 rfl isAgg3 rfl rfl (F4 runUnderlying3) (EqF.cons1 rfl isAgg3 rfl rfl (F4 runUnderlying3) EqF.nil))))) ⟨_,rfl,rfl⟩ rfl rfl fun a s=>?_
   refine rz0 1 s rfl fun a s=>?_
   exact ⟨rfl,(s.fix 30 (.bool ((((a1.From == b5.From) && (a1.To == b5.To)) && ((a1.Rate.Num == b5.Rate.Num) && ((a1.Rate.Den == b5.Rate.Den) && true))) && ((a1.Position.X == b5.Position.X) && ((a1.Position.Y == b5.Position.Y) && ((a1.Position.Z == b5.Position.Z) && true))))) rfl (a3i h13)).weaken _ ⟨rfl,rfl,rfl,trivial⟩⟩
  have s:=s.bF 24 rfl h13
  refine rz0 6 s rfl fun a s=>?_
  exact ⟨rfl,(s.fix 30 (.bool ((((a1.From == b5.From) && (a1.To == b5.To)) && ((a1.Rate.Num == b5.Rate.Num) && ((a1.Rate.Den == b5.Rate.Den) && true))) && ((a1.Position.X == b5.Position.X) && ((a1.Position.Y == b5.Position.Y) && ((a1.Position.Z == b5.Position.Z) && true))))) rfl (a3h h13)).weaken _ ⟨rfl,rfl,rfl,trivial⟩⟩
 rintro a w1 ⟨h33,s⟩
 subst h33
 refine mv s rfl rfl fun a s=>?_
 obtain ⟨c23,hc23,u⟩:=bt u
 refine o7 6 (fun a w=>∃ Sv24,Sl 38 [(37,.bool c23)] a∧Wd ⟨w0,S0,[]⟩ Sv24 [] [] w) ?_ ?_
 ·rcases Bool.eq_false_or_eq_true ((((a1.From == b5.From) && (a1.To == b5.To)) && ((a1.Rate.Num == b5.Rate.Num) && ((a1.Rate.Den == b5.Rate.Den) && true))) && ((a1.Position.X == b5.Position.X) && ((a1.Position.Y == b5.Position.Y) && ((a1.Position.Z == b5.Position.Z) && true)))) with h22 | h22
  ·have s:=s.bT 31 rfl h22
   have u:=D5 hc23 h22
   refine rn 4 [1,0] s d rfl rfl fun a s=>?_
   obtain ⟨rv26,h25,u⟩:=bt u
   refine q9 s (b1j h25 d.bdom (d.bE 1 rfl) (d.bE 0 rfl)) (d9 call70 rfl) ⟨_,rfl,rfl⟩ rfl rfl ?_
   rintro v30 Sv27 w a h28 rfl s
   have d:=d.callB h28
   refine sv s (G8 rfl rfl) rfl fun a s=>?_
   refine wpList_nil ?_
   obtain rfl:=oi u
   exact tn ⟨S0,wj s d [] []⟩
  have s:=s.bF 31 rfl h22
  have u:=D6 hc23 h22
  refine rn0 6 s rfl fun a s=>?_
  refine wpList_nil ?_
  obtain rfl:=oi u
  exact tn ⟨S0,wj s d [] []⟩
 rintro a w ⟨Sv24,s,d⟩
 refine rz0 1 s rfl fun a s=>?_
 obtain rfl:=oi u
 exact q1 s rfl (d.ret rfl)
theorem b1l {w0 S0 p2 k3 e1 r} (u:a6u e1=some r) (hS:Dm S0 w0) (h4:(Sq p2 k3 e1.Response.Stages).p S0 w0):Ck Tryz.prog 117 #[V41 e1 p2 k3] w0 S0 [] l7 r:=by
 refine en 6 func117 rfl hS rfl rfl rfl fun a s d=>?_
 have d:=d.addE h4
 refine sr (wb (C41 e1 p2 k3) s d rfl fun b5 a w s d=>?_)
 refine rz0 1 s rfl fun a s=>?_
 refine sn 1 [0] s d rfl rfl fun a s=>?_
 refine sv s (z8 (vs:=[]) Bld41 rfl rfl) rfl fun a s=>?_
 obtain ⟨rv7,h6,u⟩:=bt u
 have d:=d.addE (e:=SlA (α:=Stage) none 0 0 []) M8
 refine cV s d (a8r h6 d.bdom (d.bE 1 rfl) (d.bE 0 rfl)) (d9 call26 rfl) rfl fun a w s d=>?_
 refine rz0 1 s rfl fun a s=>?_
 obtain rfl:=oi u
 exact q1 s rfl (d.ret rfl)
theorem b1k {w0 S0 p2 k3 p6 k7 inv1 c5 r} (u:a6t inv1 c5=some r) (hS:Dm S0 w0) (h4:(Sq p2 k3 inv1.Channels).p S0 w0) (h8:(Sq p6 k7 c5.Epoch.Response.Stages).p S0 w0):Ck Tryz.prog 72 #[.agg #[sl p2 k3 inv1.Channels],V43 c5 p6 k7] w0 S0 [] l7 r:=by
 refine en 42 func72 rfl hS rfl rfl rfl fun a s d=>?_
 have d:=(d.addE h4).addE h8
 refine sr (wb [sl p2 k3 inv1.Channels] s d rfl fun b9 a w s d=>?_)
 refine wb (C43 c5 p6 k7) s d rfl fun b10 a w s d=>?_
 refine rz0 1 s rfl fun a s=>?_
 refine wp_seq (sn 1 [1] s d rfl rfl fun a s=>?_)
 obtain ⟨rv12,h11,u⟩:=bt u
 refine cV s d (a7c h11 d.bdom (d.bE 1 rfl)) (d9 call18 rfl) rfl fun a w s d=>?_
 refine rn0 2 s rfl fun a s=>?_
 obtain ⟨c28,hc28,u⟩:=bt u
 refine o7 5 (fun a w=>∃ Sv29,Sl 42 [(3,pt b10),(13,.bool c28)] a∧Wd ⟨w0,S0,[]⟩ Sv29 [.box b10 (C43 c5 p6 k7) 43] [Sq p6 k7 c5.Epoch.Response.Stages] w) ?_ ?_
 ·rcases Bool.eq_false_or_eq_true (!rv12) with h27 | h27
  ·have s:=s.bT 8 rfl h27
   have u:=D5 hc28 h27
   refine rn0 5 s rfl fun a s=>?_
   refine wpList_nil ?_
   obtain rfl:=oi u
   exact tn ⟨S0,wj s d [0] [0]⟩
  have s:=s.bF 8 rfl h27
  have u:=D6 hc28 h27
  refine rn 2 [0] s d rfl rfl fun a s=>?_
  obtain ⟨rv31,h30,u⟩:=bt u
  refine q9 s (M5 h30 d.bdom) (d9 call64 rfl) ⟨_,rfl,rfl⟩ rfl rfl ?_
  rintro v35 Sv32 w a h33 rfl s
  have d:=d.callB h33
  refine rn0 2 s rfl fun a s=>?_
  refine wpList_nil ?_
  obtain rfl:=oi u
  exact tn ⟨S0,wj s d [0] [0]⟩
 rintro a w ⟨Sv29,s,d⟩
 refine mv s rfl rfl fun a s=>?_
 obtain ⟨c47,hc47,u⟩:=bt u
 refine o7 5 (fun a w=>∃ Sv48,Sl 42 [(3,pt b10),(19,.bool c47)] a∧Wd ⟨w0,S0,[]⟩ Sv48 [.box b10 (C43 c5 p6 k7) 43] [Sq p6 k7 c5.Epoch.Response.Stages] w) ?_ ?_
 ·rcases Bool.eq_false_or_eq_true c28 with h46 | h46
  ·have s:=s.bT 14 rfl h46
   have u:=D5 hc47 h46
   refine rn0 5 s rfl fun a s=>?_
   refine wpList_nil ?_
   obtain rfl:=oi u
   exact tn ⟨Sv29,wj s d [0] [0]⟩
  have s:=s.bF 14 rfl h46
  have u:=D6 hc47 h46
  refine rn 2 [0] s d rfl rfl fun a s=>?_
  obtain ⟨rv50,h49,u⟩:=bt u
  refine q9 s (a0R h49 d.bdom) (d9 call62 rfl) ⟨_,rfl,rfl⟩ rfl rfl ?_
  rintro v54 Sv51 w a h52 rfl s
  have d:=d.callB h52
  refine rn0 2 s rfl fun a s=>?_
  refine wpList_nil ?_
  obtain rfl:=oi u
  exact tn ⟨Sv29,wj s d [0] [0]⟩
 rintro a w ⟨Sv48,s,d⟩
 refine nl (cd s u rfl (fun u=>?_) fun u=>?_)
 ·refine sz0 1 s rfl fun a s=>?_
  obtain rfl:=oi u
  exact wp_ret (j3 (rt s rfl (d.ret rfl)))
 refine sk (wp_seq (sz 3 [0] s d rfl rfl fun a s=>?_))
 refine cd s u rfl (fun u=>?_) fun u=>?_
 ·refine sn 2 [0] s d rfl rfl fun a s=>?_
  obtain ⟨rv70,h69,u⟩:=bt u
  refine cV s d (b1l h69 d.bdom (d.bE 0 rfl)) (d9 call117 rfl) rfl fun a w s d=>?_
  refine rz0 1 s rfl fun a s=>?_
  obtain rfl:=oi u
  exact wp_ret (j3 (rt s rfl (d.ret rfl)))
 refine sk (sn 2 [0] s d rfl rfl fun a s=>?_)
 obtain ⟨rv78,h77,u⟩:=bt u
 refine cV s d (a0N h77 d.bdom (d.bE 0 rfl)) (d9 call65 rfl) rfl fun a w s d=>?_
 refine mv s rfl rfl fun a s=>?_
 refine o7 12 (fun a w1=>w=w1∧Sl 42 [(41,.bool (rv78 && ((c5.Kind == 2) || (c5.From == c5.Epoch.From))))] a) ?_ ?_
 ·rcases Bool.eq_false_or_eq_true rv78 with h86 | h86
  ·have s:=s.bT 29 rfl h86
   refine rn 4 [0] s d rfl rfl fun a s=>?_
   refine rO 7 33 [0,0] s d rfl rfl rfl rfl rfl fun a s=>?_
   refine rz0 1 s rfl fun a s=>?_
   exact ⟨rfl,(s.fix 41 (.bool (rv78 && ((c5.Kind == 2) || (c5.From == c5.Epoch.From)))) rfl (a3i h86)).weaken _ ⟨rfl,trivial⟩⟩
  have s:=s.bF 29 rfl h86
  refine rz0 12 s rfl fun a s=>?_
  exact ⟨rfl,(s.fix 41 (.bool (rv78 && ((c5.Kind == 2) || (c5.From == c5.Epoch.From)))) rfl (a3h h86)).weaken _ ⟨rfl,trivial⟩⟩
 rintro a w1 ⟨h89,s⟩
 subst h89
 refine rz0 1 s rfl fun a s=>?_
 obtain rfl:=oi u
 exact q1 s rfl (d.ret rfl)
abbrev b0j:List Value:=[.slice none ([]:List Channel).length 0]
theorem a4v {w0 S0 p2 k3 inv1 r} (u:a3e inv1=some r) (hS:Dm S0 w0) (h4:(Sq p2 k3 inv1.Channels).p S0 w0):Ck Tryz.prog 73 #[.agg #[sl p2 k3 inv1.Channels]] w0 S0 [] a5o r:=by
 refine en 54 func73 rfl hS rfl rfl rfl fun a s d=>?_
 have d:=d.addE h4
 refine sr (wb [sl p2 k3 inv1.Channels] s d rfl fun b5 a w s d=>?_)
 refine wa b0j s d zeroValue29 fun b6 a w s d=>?_
 refine nl (sr (wa b0j s d zeroValue29 fun b7 a w s d=>?_))
 refine nl (wp_seq (sz0 1 s rfl fun a s=>?_))
 obtain ⟨e680,h1264,u⟩:=bt u
 refine x9 (fun a w=>∃ c681 p682 k683 Sv684,Sl 54 [(2,pt b6),(3,pt b7)] a∧Wd ⟨w0,S0,[]⟩ Sv684 [.box b6 b0j 29,.box b7 [sl p682 k683 e680] 29,.row p682 e680.length k683 c681 73 5] [Sq none 0 ([]:List Channel),j6 c681 e680] w) ?_ ?_
 ·refine wp_block ?_
  have d:=(d.nilRow Channel 73).addE (e:=SlA (α:=Channel) none 0 0 []) M8
  refine u7 (fun sv8 a w=>∃ c453 p454 k455 Sv456,Sl 54 [(1,pt b5),(2,pt b6),(3,pt b7),(4,iv sv8.2)] a∧Wd ⟨w0,S0,[]⟩ Sv456 [.box b5 [sl p2 k3 inv1.Channels] 29,.box b6 b0j 29,.box b7 [sl p454 k455 sv8.1] 29,.row p454 sv8.1.length k455 c453 73 5] [Sq p2 k3 inv1.Channels,Sq none 0 ([]:List Channel),j6 c453 sv8.1] w) (([]:List Channel),0) h1264 ⟨[],none,0,S0,wj s d [3,2,1,0] [2,0,1]⟩ ?_
  clear h1264
  repeat clear u
  rintro sv8 a w tv678 ⟨c453,p454,k455,Sv456,s,d⟩ u hd677
  refine wp_seq (sz 5 [0] s d rfl rfl fun a s=>?_)
  refine cd s u rfl (fun u=>?_) fun u=>?_
  ·refine sk (wp_seq (wp_block (sn 3 [0] s d rfl rfl fun a s=>?_)))
   obtain ⟨x906,h904,u⟩:=bt u
   obtain ⟨b912,o913,q910,c911,h914,h907,h908,h909,h905⟩:=d.elemV 0 rfl h904
   have hsv915:=s
   have hwv916:=d
   subst h914
   have s:=hsv915
   have d:=hwv916
   obtain ⟨_,_,_,_,_,rfl,rfl,rfl,rfl,rfl,⟨p917,n918,k919,rfl,h920⟩⟩:=h905
   obtain rfl:=h920.1
   have d:=(d.addE (e:=SlA p917 _ k919 x906.Epochs) h920).addE h909
   refine sv s (o8 runUnderlying27 sizeOf73 rfl rfl h907.1 h907.2 h908) rfl fun a s=>?_
   refine sv s (j5 (o':=q910+0) runUnderlying73 rfl sizeOf32 rfl rfl rfl) rfl fun a s=>?_
   refine sv s (D9 (j:=0) (d.ceAt 0 rfl) rfl isAgg32 sizeOf32 rfl rfl) rfl fun a s=>?_
   refine sv s (z8 (vs:=[(0,V32 x906.Source)]) b2v rfl rfl) rfl fun a s=>?_
   refine wa Z2 s d zeroValue73 fun b921 a w s d=>?_
   refine ws (C73 ⟨x906.Source,([]:List Epoch)⟩ none 0) s d 0 rfl rfl rfl sizeOf73 fun a w s d=>?_
   refine nl (wp_seq (sz0 1 s rfl fun a s=>?_))
   obtain ⟨e1108,h1262,u⟩:=bt u
   refine x9 (fun a w=>∃ c1109 p1110 k1111 Sv1112,Sl 54 [(1,pt b5),(2,pt b6),(3,pt b7),(4,iv sv8.2),(5,pt b921)] a∧Wd ⟨w0,S0,[]⟩ Sv1112 [.box b5 [sl (some ⟨b912,o913,none⟩) k3 inv1.Channels] 29,.box b6 b0j 29,.box b7 [sl p454 k455 sv8.1] 29,.box b921 (C73 ⟨x906.Source,e1108⟩ p1110 k1111) 73,.row p454 sv8.1.length k455 c453 73 5,.row p1110 e1108.length k1111 c1109 41 8] [Sq (some ⟨b912,o913,none⟩) k3 inv1.Channels,Sq none 0 ([]:List Channel),j6 c453 sv8.1,j6 c1109 e1108] w) ?_ ?_
   ·refine wp_block ?_
    have d:=d.nilRow Epoch 41
    refine u7 (fun sv922 a w=>∃ c1043 p1044 k1045 Sv1046,Sl 54 [(1,pt b5),(2,pt b6),(3,pt b7),(4,iv sv8.2),(5,pt b921),(6,iv sv922.2)] a∧Wd ⟨w0,S0,[]⟩ Sv1046 [.box b5 [sl (some ⟨b912,o913,none⟩) k3 inv1.Channels] 29,.box b6 b0j 29,.box b7 [sl p454 k455 sv8.1] 29,.box b921 (C73 ⟨x906.Source,sv922.1⟩ p1044 k1045) 73,.row p454 sv8.1.length k455 c453 73 5,.row p1044 sv922.1.length k1045 c1043 41 8] [Sq (some ⟨b912,o913,none⟩) k3 inv1.Channels,Sq none 0 ([]:List Channel),j6 c453 sv8.1,j6 c1043 sv922.1] w) (([]:List Epoch),0) h1262 ⟨[],none,0,Sv456,wj s d [2,3,4,1,5,0] [3,4,5,0]⟩ ?_
    clear h1262
    repeat clear u
    rintro sv922 a w tv1106 ⟨c1043,p1044,k1045,Sv1046,s,d⟩ u hd1105
    refine wp_seq (sn 4 [0] s d rfl rfl fun a s=>?_)
    obtain ⟨x1115,h1113,u⟩:=bt u
    obtain ⟨q1119,c1120,h1116,h1117,h1118,h1114⟩:=d.elemK 0 rfl h1113
    obtain ⟨_,_,_,_,_,rfl,rfl,rfl,rfl,rfl,⟨p1121,n1122,k1123,rfl,h1124⟩⟩:=h1114
    obtain rfl:=h1124.1
    have d:=(d.addE (e:=SlA p1121 _ k1123 x1115.Epochs) h1124).addE h1118
    refine sv s (o8 runUnderlying27 sizeOf73 rfl rfl h1116.1 h1116.2 h1117) rfl fun a s=>?_
    refine sv s (j5 (o':=q1119+4) runUnderlying73 rfl sizeOf71 rfl rfl rfl) rfl fun a s=>?_
    refine sv s (F5 (j:=4) (d.ceAt 0 rfl) rfl isAgg71 rfl) rfl fun a s=>?_
    refine rz0 2 s rfl fun a s=>?_
    refine cd s u rfl (fun u=>?_) fun u=>?_
    ·refine sk (wp_seq (wp_block ?_))
     obtain ⟨x1172,h1170,u⟩:=bt u
     obtain ⟨q1176,c1177,h1173,h1174,h1175,h1171⟩:=d.elemK 2 rfl h1170
     obtain ⟨_,_,_,_,_,rfl,rfl,rfl,rfl,rfl,⟨p1178,n1179,k1180,rfl,h1181⟩⟩:=h1171
     obtain rfl:=h1181.1
     have d:=(d.addE (e:=SlA p1178 _ k1180 x1172.Epochs) h1181).addE h1175
     obtain ⟨x1184,h1182,u⟩:=bt u
     obtain ⟨b1190,o1191,q1188,c1189,h1192,h1185,h1186,h1187,h1183⟩:=d.elemV 1 rfl h1182
     have hsv1193:=s
     have hwv1194:=d
     subst h1192
     have s:=hsv1193
     have d:=hwv1194
     obtain ⟨_,_,_,_,_,_,_,_,rfl,rfl,rfl,rfl,rfl,rfl,rfl,rfl,⟨p1195,n1196,k1197,rfl,h1198⟩⟩:=h1183
     obtain rfl:=h1198.1
     have d:=(d.addE (e:=SlA p1195 _ k1197 x1184.Response.Stages) h1198).addE h1187
     obtain ⟨rv1200,h1199,u⟩:=bt u
     obtain ⟨l1208,h1207,u⟩:=bt u
     refine y9 (fun a w=>∃ Sv1212 c1211 k1210 p1209,Sl 54 [(1,pt b5),(2,pt b6),(3,pt b7),(4,iv sv8.2),(5,pt b921),(6,iv sv922.2)] a∧Wd ⟨w0,S0,[]⟩ Sv1212 [.box b5 [sl (some ⟨b912,o913,none⟩) k3 inv1.Channels] 29,.box b6 b0j 29,.box b7 [sl p454 k455 sv8.1] 29,.box b921 (C73 ⟨x906.Source,l1208⟩ p1209 k1210) 73,.row p454 sv8.1.length k455 c453 73 5,.row p1209 l1208.length k1210 c1211 41 8] [Sq (some ⟨b912,o913,none⟩) k3 inv1.Channels,Sq none 0 ([]:List Channel),j6 c453 sv8.1,j6 c1211 l1208] w) ?_ ?_
     ·refine h_c [0,1,2,4] [0,2,4] d rfl rfl (by kernel_rfl) rfl fun hC d=>?_
      refine gn 4 [0,2,3,4] [0] s hC rfl rfl rfl fun a s=>?_
      refine gx s 5 rfl trivial rfl hC runUnderlying27 sizeOf73 rfl rfl h1173 h1174 fun a s=>?_
      refine gv s 6 rfl rfl hC (fun w hC=>j5 (o':=q1176+4) runUnderlying73 rfl sizeOf71 rfl rfl rfl) fun a s=>?_
      refine gv s 7 rfl rfl hC (fun w hC=>F5 (j:=4) (hC.ceAt 1 rfl) rfl isAgg71 rfl) fun a s=>?_
      refine gm s 8 rfl rfl rfl hC fun a s=>?_
      refine gx s 9 rfl trivial rfl hC runUnderlying71 sizeOf41 rfl rfl h1185 h1186 fun a s=>?_
      refine gv s 10 rfl rfl hC (fun w hC=>D9 (j:=0) (hC.ceAt 0 rfl) rfl isAgg41 sizeOf41 rfl rfl) fun a s=>?_
      refine a4O (rs:=[1,11]) (by kernel_rfl) rfl ?_
      refine U8.cons rfl ?_ ?_
      ·refine sv s (V5 (d.ownAt 3 rfl) rfl isAgg71 rfl) rfl fun a s=>?_
       refine h_n [0,1,2,4] [0,2,4] d rfl rfl fun hC=>?_
       refine ho 11 rfl ?_
       refine cR s (Y8 h1199 d.dom (d.envAt 1 rfl)) (d9 call45 rfl) rfl ?_
       rintro v1216 Sv1213 w a h1214 ⟨p1201,k1202,c1204,rfl,h1217,h1203⟩ s
       have d:=(d.callN h1214 h1217).addE (e:=j6 c1204 rv1200.Response.Stages) h1203
       refine h_n [1,2,3,5] [1,3,5] d rfl rfl fun hC=>?_
       refine ho 12 rfl ?_
       obtain ⟨Sv1219,d⟩:=A9 (α:=Stage) d 0 rfl 0 rfl
       refine y7 (α:=Epoch) (vs:=[V41 rv1200 p1201 k1202]) (cs:=(C41 rv1200 p1201 k1202)) (xs:=([rv1200]:List Epoch)) s d a5I rfl rfl rfl rfl rfl rfl ⟨⟨_,_,_,_,_,_,_,_,rfl,rfl,rfl,rfl,rfl,rfl,rfl,rfl,⟨_,_,_,rfl,d.envAt 0 rfl⟩⟩,rfl⟩ rfl trivial rfl fun b1206 a w s d=>?_
       refine h_n [1,2,3,5] [3,5,7] d rfl rfl fun hC=>?_
       refine h_d [1,2,3,5,0] [3,5,7] [0,1,2,3] [0,1,2] d rfl rfl rfl rfl fun hC=>?_
       refine ho 13 rfl ?_
       refine I4 (α:=Epoch) s d a5I 6 rfl rfl rfl 12 rfl 0 rfl 0 rfl h1207 rfl trivial ?_
       intro p1209 k1210 c1211 a w s d
       refine h_n [1,2,3,5,0] [4,6,8] d rfl rfl fun hC=>?_
       refine gv s 14 rfl rfl hC (fun w hC=>j5 (o':=4) runUnderlying73 rfl sizeOf71 rfl rfl rfl) fun a s=>?_
       refine ho 15 rfl ?_
       refine ws (C73 ⟨x906.Source,l1208⟩ p1209 k1210) s d 4 rfl rfl rfl sizeOf71 fun a w s d=>?_
       refine h_n [1,2,3,5,0] [4,6,8] d rfl rfl fun hC=>?_
       refine x8 (by kernel_rfl) ?_
       exact ⟨Sv1219,c1211,k1210,p1209,wj s d [1,2,3,4,5,6] [10,11,12,0]⟩
      refine U8.cons rfl ?_ ?_
      ·refine cR s (Y8 h1199 d.dom (d.envAt 1 rfl)) (d9 call45 rfl) rfl ?_
       rintro v1223 Sv1220 w a h1221 ⟨p1201,k1202,c1204,rfl,h1224,h1203⟩ s
       have d:=(d.callN h1221 h1224).addE (e:=j6 c1204 rv1200.Response.Stages) h1203
       refine h_n [1,2,3,5] [1,3,5] d rfl rfl fun hC=>?_
       refine a4O (rs:=[1,12]) (by kernel_rfl) rfl ?_
       refine U8.cons rfl ?_ ?_
       ·refine sv s (V5 (d.ownAt 4 rfl) rfl isAgg71 rfl) rfl fun a s=>?_
        refine h_n [1,2,3,5] [1,3,5] d rfl rfl fun hC=>?_
        refine ho 12 rfl ?_
        obtain ⟨Sv1226,d⟩:=A9 (α:=Stage) d 0 rfl 0 rfl
        refine y7 (α:=Epoch) (vs:=[V41 rv1200 p1201 k1202]) (cs:=(C41 rv1200 p1201 k1202)) (xs:=([rv1200]:List Epoch)) s d a5I rfl rfl rfl rfl rfl rfl ⟨⟨_,_,_,_,_,_,_,_,rfl,rfl,rfl,rfl,rfl,rfl,rfl,rfl,⟨_,_,_,rfl,d.envAt 0 rfl⟩⟩,rfl⟩ rfl trivial rfl fun b1206 a w s d=>?_
        refine h_n [1,2,3,5] [3,5,7] d rfl rfl fun hC=>?_
        refine h_d [1,2,3,5,0] [3,5,7] [0,1,2,3] [0,1,2] d rfl rfl rfl rfl fun hC=>?_
        refine ho 13 rfl ?_
        refine I4 (α:=Epoch) s d a5I 6 rfl rfl rfl 12 rfl 0 rfl 0 rfl h1207 rfl trivial ?_
        intro p1209 k1210 c1211 a w s d
        refine h_n [1,2,3,5,0] [4,6,8] d rfl rfl fun hC=>?_
        refine gv s 14 rfl rfl hC (fun w hC=>j5 (o':=4) runUnderlying73 rfl sizeOf71 rfl rfl rfl) fun a s=>?_
        refine ho 15 rfl ?_
        refine ws (C73 ⟨x906.Source,l1208⟩ p1209 k1210) s d 4 rfl rfl rfl sizeOf71 fun a w s d=>?_
        refine h_n [1,2,3,5,0] [4,6,8] d rfl rfl fun hC=>?_
        refine x8 (by kernel_rfl) ?_
        exact ⟨Sv1226,c1211,k1210,p1209,wj s d [1,2,3,4,5,6] [10,11,12,0]⟩
       refine U8.cons rfl ?_ ?_
       ·obtain ⟨Sv1227,d⟩:=A9 (α:=Stage) d 0 rfl 0 rfl
        refine y7 (α:=Epoch) (vs:=[V41 rv1200 p1201 k1202]) (cs:=(C41 rv1200 p1201 k1202)) (xs:=([rv1200]:List Epoch)) s d a5I rfl rfl rfl rfl rfl rfl ⟨⟨_,_,_,_,_,_,_,_,rfl,rfl,rfl,rfl,rfl,rfl,rfl,rfl,⟨_,_,_,rfl,d.envAt 0 rfl⟩⟩,rfl⟩ rfl trivial rfl fun b1206 a w s d=>?_
        refine h_n [1,2,3,5] [3,5,7] d rfl rfl fun hC=>?_
        refine h_d [1,2,3,5,0] [3,5,7] [0,1,2,3] [0,1,2] d rfl rfl rfl rfl fun hC=>?_
        refine ho 1 rfl ?_
        refine sv s (V5 (d.ownAt 4 rfl) rfl isAgg71 rfl) rfl fun a s=>?_
        refine h_n [1,2,3,5,0] [3,5,7] d rfl rfl fun hC=>?_
        refine ho 13 rfl ?_
        refine I4 (α:=Epoch) s d a5I 6 rfl rfl rfl 12 rfl 0 rfl 0 rfl h1207 rfl trivial ?_
        intro p1209 k1210 c1211 a w s d
        refine h_n [1,2,3,5,0] [4,6,8] d rfl rfl fun hC=>?_
        refine gv s 14 rfl rfl hC (fun w hC=>j5 (o':=4) runUnderlying73 rfl sizeOf71 rfl rfl rfl) fun a s=>?_
        refine ho 15 rfl ?_
        refine ws (C73 ⟨x906.Source,l1208⟩ p1209 k1210) s d 4 rfl rfl rfl sizeOf71 fun a w s d=>?_
        refine h_n [1,2,3,5,0] [4,6,8] d rfl rfl fun hC=>?_
        refine x8 (by kernel_rfl) ?_
        exact ⟨Sv1227,c1211,k1210,p1209,wj s d [1,2,3,4,5,6] [10,11,12,0]⟩
       exact U8.nil
      exact U8.nil
     rintro a w ⟨Sv1212,c1211,k1210,p1209,s,d⟩
     refine l9 (tn (wp_region_lit (rn0 2 s rfl fun a s=>?_)))
     obtain ⟨k1250,h1249,u⟩:=bt u
     refine sv s (q8 rfl h1249) rfl fun a s=>?_
     exact nl ⟨_,io u,c1211,p1209,k1210,Sv1212,wj s d [0,1,2,3,4,5] [0,1,2,3]⟩
    refine wp_exit (j4 (j4 (o9 ?_)))
    obtain rfl:=oi u
    have h1251:=hd1105 _ rfl
    subst h1251
    exact tn ⟨c1043,p1044,k1045,Sv1046,wj s d [0,1,2,3,4,5] [2,3,4,5]⟩
   rintro a w ⟨c1109,p1110,k1111,Sv1112,s,d⟩
   refine tn (wp_region_lit (rn 3 [2,3] s d rfl rfl fun a s=>?_))
   obtain ⟨Sv1254,d⟩:=A9 (α:=Epoch) d 5 rfl 3 rfl
   refine y7 (α:=Channel) (vs:=[V73 ⟨x906.Source,e1108⟩ p1110 k1111]) (cs:=(C73 ⟨x906.Source,e1108⟩ p1110 k1111)) (xs:=([(⟨x906.Source,e1108⟩:Channel)]:List Channel)) s d a6R rfl rfl rfl rfl rfl rfl ⟨⟨_,_,_,_,_,rfl,rfl,rfl,rfl,rfl,⟨_,_,_,rfl,d.envAt 0 rfl⟩⟩,rfl⟩ rfl trivial rfl fun b1253 a w s d=>?_
   obtain ⟨l1256,h1255,u⟩:=bt u
   refine I4 (α:=Channel) s d a6R 5 rfl rfl rfl 4 rfl 0 rfl 0 rfl h1255 rfl trivial ?_
   intro p1257 k1258 c1259 a w s d
   refine sv s (j5 (o':=0) runUnderlying29 rfl sizeOf27 rfl rfl rfl) rfl fun a s=>?_
   refine ws [sl p1257 k1258 l1256] s d 3 rfl rfl rfl sizeOf27 fun a w s d=>?_
   refine wpList_nil ?_
   refine l9 (tn (wp_region_lit (rn0 2 s rfl fun a s=>?_)))
   obtain ⟨i1261,h1260,u⟩:=bt u
   refine sv s (q8 rfl h1260) rfl fun a s=>?_
   exact nl ⟨_,io u,c1259,p1257,k1258,Sv1254,wj s d [1,2,3,5] [3,4,0]⟩
  refine wp_exit (j4 (j4 (o9 ?_)))
  obtain rfl:=oi u
  have h1263:=hd677 _ rfl
  subst h1263
  exact tn ⟨c453,p454,k455,Sv456,wj s d [1,2,3] [1,2]⟩
 rintro a w ⟨c681,p682,k683,Sv684,s,d⟩
 refine tn (sn 1 [1] s d rfl rfl fun a s=>?_)
 refine ws [sl p682 k683 e680] s d 0 rfl rfl rfl sizeOf29 fun a w s d=>?_
 refine nl ?_
 obtain rfl:=oi u
 exact wp_ret (a6w s rfl (F7 d 0 rfl rfl isAgg29 sizeOf29 rfl) (d.ret ⟨p682,k683,c681,rfl,(d.outs [2] (by decide) rfl),(d.envAt 1 rfl)⟩))
abbrev b0E (w0:World) (X:List Nat) (r:(Int × Int)):Rd:=fun S w v=>v=.tuple #[iv r.1,iv r.2]
theorem b0D {w0 S0 p2 k3 p6 k7 inv1 c5 r} (u:a5s inv1 c5=some r) (hS:Dm S0 w0) (h4:(Sq p2 k3 inv1.Channels).p S0 w0) (h8:(Sq p6 k7 c5.Epoch.Response.Stages).p S0 w0):Ck Tryz.prog 74 #[.agg #[sl p2 k3 inv1.Channels],V43 c5 p6 k7] w0 S0 [] b0E r:=by
 refine en 51 func74 rfl hS rfl rfl rfl fun a s d=>?_
 have d:=(d.addE h4).addE h8
 refine sr (wb [sl p2 k3 inv1.Channels] s d rfl fun b9 a w s d=>?_)
 refine wb (C43 c5 p6 k7) s d rfl fun b10 a w s d=>?_
 refine rz0 2 s rfl fun a s=>?_
 refine wp_seq (sz0 1 s rfl fun a s=>?_)
 refine wp_block (u7 (fun sv511 a w=>∃ Sv843,Sl 51 [(2,pt b9),(3,pt b10),(6,iv sv511)] a∧Wd ⟨w0,S0,[]⟩ Sv843 [.box b9 [sl p2 k3 inv1.Channels] 29,.box b10 (C43 c5 p6 k7) 43] [Sq p2 k3 inv1.Channels,Sq p6 k7 c5.Epoch.Response.Stages] w) 0 u ⟨S0,wj s d [1,0] [1,0]⟩ ?_)
 repeat clear u
 rintro sv511 a w tv1010 ⟨Sv843,s,d⟩ u hd1009
 refine wp_seq (sz 5 [0] s d rfl rfl fun a s=>?_)
 refine cd s u rfl (fun u=>?_) fun u=>?_
 ·refine sk (wp_seq (wp_block (wp_seq (wp_seq ?_))))
  obtain ⟨x1179,h1177,u⟩:=bt u
  obtain ⟨b1185,o1186,q1183,c1184,h1187,h1180,h1181,h1182,h1178⟩:=d.elemV 0 rfl h1177
  have hsv1188:=s
  have hwv1189:=d
  subst h1187
  have s:=hsv1188
  have d:=hwv1189
  obtain ⟨_,_,_,_,_,rfl,rfl,rfl,rfl,rfl,⟨p1190,n1191,k1192,rfl,h1193⟩⟩:=h1178
  obtain rfl:=h1193.1
  have d:=(d.addE (e:=SlA p1190 _ k1192 x1179.Epochs) h1193).addE h1182
  refine y9 (fun a w=>∃ Sv1194,Sl 51 [(2,pt b9),(3,pt b10),(6,iv sv511),(23,.bool (!((x1179.Source.Network == c5.Source.Network) && ((x1179.Source.Station == c5.Source.Station) && ((x1179.Source.Location == c5.Source.Location) && ((x1179.Source.Channel == c5.Source.Channel) && true))))))] a∧Wd ⟨w0,S0,[]⟩ Sv1194 [.box b9 [sl (some ⟨b1185,o1186,none⟩) k3 inv1.Channels] 29,.box b10 (C43 c5 p6 k7) 43] [Sq (some ⟨b1185,o1186,none⟩) k3 inv1.Channels,Sq p6 k7 c5.Epoch.Response.Stages] w) ?_ ?_
  ·refine h_c [0,1] [0] d rfl rfl (by kernel_rfl) rfl fun hC d=>?_
   refine gn 3 [0,1,2] [0] s hC rfl rfl rfl fun a s=>?_
   refine gx s 3 rfl trivial rfl hC runUnderlying27 sizeOf73 rfl rfl h1180 h1181 fun a s=>?_
   refine gv s 4 rfl rfl hC (fun w hC=>j5 (o':=q1183+0) runUnderlying73 rfl sizeOf32 rfl rfl rfl) fun a s=>?_
   refine gv s 5 rfl rfl hC (fun w hC=>D9 (j:=0) (hC.ceAt 0 rfl) rfl isAgg32 sizeOf32 rfl rfl) fun a s=>?_
   refine gn 2 [6,7] [1] s hC rfl rfl rfl fun a s=>?_
   refine gv s 8 rfl rfl hC (fun w hC=>a7v (by kernel_rfl) rfl rfl (P6 runUnderlying32 (by kernel_rfl) (EqF.cons1 rfl isAgg9 rfl rfl (J3 runUnderlying9) (EqF.cons1 rfl isAgg9 rfl rfl (J3 runUnderlying9) (EqF.cons1 rfl isAgg9 rfl rfl (J3 runUnderlying9) (EqF.cons1 rfl isAgg9 rfl rfl (J3 runUnderlying9) EqF.nil)))))) fun a s=>?_
   refine x8 (by kernel_rfl) ?_
   exact ⟨Sv843,wj s d [0,1] [2,3]⟩
  rintro a w ⟨Sv1194,s,d⟩
  refine tn (cd s u rfl (fun u=>?_) fun u=>?_)
  ·refine wp_exit (j4 (o9 (tn (wp_region_lit (rn0 2 s rfl fun a s=>?_)))))
   obtain ⟨i1198,h1197,u⟩:=bt u
   refine sv s (q8 rfl h1197) rfl fun a s=>?_
   exact nl ⟨_,io u,Sv1194,wj s d [0,1] [0,1]⟩
  refine sk (wp_seq (sz0 1 s rfl fun a s=>?_))
  refine wp_block (u7 (fun sv1342 a w=>∃ Sv1436,Sl 51 [(2,pt b9),(3,pt b10),(6,iv sv511),(7,iv sv1342)] a∧Wd ⟨w0,S0,[]⟩ Sv1436 [.box b9 [sl (some ⟨b1185,o1186,none⟩) k3 inv1.Channels] 29,.box b10 (C43 c5 p6 k7) 43] [Sq (some ⟨b1185,o1186,none⟩) k3 inv1.Channels,Sq p6 k7 c5.Epoch.Response.Stages] w) 0 u ⟨Sv1194,wj s d [0,1] [0,1]⟩ ?_)
  repeat clear u
  rintro sv1342 a w tv1484 ⟨Sv1436,s,d⟩ u hd1483
  refine wp_seq (sn 4 [0] s d rfl rfl fun a s=>?_)
  obtain ⟨x1487,h1485,u⟩:=bt u
  obtain ⟨q1491,c1492,h1488,h1489,h1490,h1486⟩:=d.elemK 0 rfl h1485
  obtain ⟨_,_,_,_,_,rfl,rfl,rfl,rfl,rfl,⟨p1493,n1494,k1495,rfl,h1496⟩⟩:=h1486
  obtain rfl:=h1496.1
  have d:=(d.addE (e:=SlA p1493 _ k1495 x1487.Epochs) h1496).addE h1490
  refine sv s (o8 runUnderlying27 sizeOf73 rfl rfl h1488.1 h1488.2 h1489) rfl fun a s=>?_
  refine sv s (j5 (o':=q1491+4) runUnderlying73 rfl sizeOf71 rfl rfl rfl) rfl fun a s=>?_
  refine sv s (F5 (j:=4) (d.ceAt 0 rfl) rfl isAgg71 rfl) rfl fun a s=>?_
  refine rz0 2 s rfl fun a s=>?_
  refine cd s u rfl (fun u=>?_) fun u=>?_
  ·refine sk (wp_seq (wp_block (wp_seq ?_)))
   obtain ⟨x1534,h1532,u⟩:=bt u
   obtain ⟨q1538,c1539,h1535,h1536,h1537,h1533⟩:=d.elemK 2 rfl h1532
   obtain ⟨_,_,_,_,_,rfl,rfl,rfl,rfl,rfl,⟨p1540,n1541,k1542,rfl,h1543⟩⟩:=h1533
   obtain rfl:=h1543.1
   have d:=(d.addE (e:=SlA p1540 _ k1542 x1534.Epochs) h1543).addE h1537
   obtain ⟨x1546,h1544,u⟩:=bt u
   obtain ⟨b1552,o1553,q1550,c1551,h1554,h1547,h1548,h1549,h1545⟩:=d.elemV 1 rfl h1544
   have hsv1555:=s
   have hwv1556:=d
   subst h1554
   have s:=hsv1555
   have d:=hwv1556
   obtain ⟨_,_,_,_,_,_,_,_,rfl,rfl,rfl,rfl,rfl,rfl,rfl,rfl,⟨p1557,n1558,k1559,rfl,h1560⟩⟩:=h1545
   obtain rfl:=h1560.1
   have d:=(d.addE (e:=SlA p1557 _ k1559 x1546.Response.Stages) h1560).addE h1549
   refine y9 (fun a w=>∃ Sv1561,Sl 51 [(2,pt b9),(3,pt b10),(6,iv sv511),(7,iv sv1342),(47,.bool (x1546.From == c5.From))] a∧Wd ⟨w0,S0,[]⟩ Sv1561 [.box b9 [sl (some ⟨b1185,o1186,none⟩) k3 inv1.Channels] 29,.box b10 (C43 c5 p6 k7) 43] [Sq (some ⟨b1185,o1186,none⟩) k3 inv1.Channels,Sq p6 k7 c5.Epoch.Response.Stages] w) ?_ ?_
   ·refine h_c [0,1] [0,2,4] d rfl rfl (by kernel_rfl) rfl fun hC d=>?_
    refine gn 3 [0,1,2] [0] s hC rfl rfl rfl fun a s=>?_
    refine gx s 3 rfl trivial rfl hC runUnderlying27 sizeOf73 rfl rfl h1535 h1536 fun a s=>?_
    refine gv s 4 rfl rfl hC (fun w hC=>j5 (o':=q1538+4) runUnderlying73 rfl sizeOf71 rfl rfl rfl) fun a s=>?_
    refine gv s 5 rfl rfl hC (fun w hC=>F5 (j:=4) (hC.ceAt 1 rfl) rfl isAgg71 rfl) fun a s=>?_
    refine gm s 6 rfl rfl rfl hC fun a s=>?_
    refine gx s 7 rfl trivial rfl hC runUnderlying71 sizeOf41 rfl rfl h1547 h1548 fun a s=>?_
    refine gv s 8 rfl rfl hC (fun w hC=>j5 (o':=q1550+0) runUnderlying41 rfl sizeOf3 rfl rfl rfl) fun a s=>?_
    refine gv s 9 rfl rfl hC (fun w hC=>F5 (j:=0) (hC.ceAt 0 rfl) rfl isAgg3 rfl) fun a s=>?_
    refine gn 3 [10,11,12] [1] s hC rfl rfl rfl fun a s=>?_
    refine x8 (by kernel_rfl) ?_
    exact ⟨Sv1436,wj s d [0,1] [6,7]⟩
   rintro a w ⟨Sv1561,s,d⟩
   refine tn (cd s u rfl (fun u=>?_) fun u=>?_)
   ·refine sz0 4 s rfl fun a s=>?_
    obtain rfl:=oi u
    have h1564:=hd1483 _ rfl
    subst h1564
    have h1565:=hd1009 _ rfl
    subst h1565
    exact wp_ret (r9 (j3 (j3 (r9 (j3 (r9 (j3 (j3 (r9 (j3 (a1p s rfl (H7 rfl) (H7 rfl) (d.ret rfl))))))))))))
   refine wp_skip (l9 (tn (wp_region_lit (rn0 2 s rfl fun a s=>?_))))
   obtain ⟨k1567,h1566,u⟩:=bt u
   refine sv s (q8 rfl h1566) rfl fun a s=>?_
   exact nl ⟨_,io u,Sv1561,wj s d [0,1] [0,1]⟩
  obtain ⟨rv1569,u,h1570⟩:=Y7 u
  have h1570:=(hd1483 _ h1570.symm).symm
  subst h1570
  refine wp_exit (j4 (j4 (o9 (tn (sz0 3 s rfl fun a s=>?_)))))
  obtain rfl:=oi u
  have h1568:=hd1009 _ rfl
  subst h1568
  exact wp_ret (r9 (j3 (j3 (r9 (j3 (a1p s rfl (H7 rfl) (H7 rfl) (d.ret rfl)))))))
 obtain ⟨rv1571,u,h1572⟩:=Y7 u
 have h1572:=(hd1009 _ h1572.symm).symm
 subst h1572
 refine wp_exit (j4 (j4 (o9 (tn (sz0 2 s rfl fun a s=>?_)))))
 obtain rfl:=oi u
 exact wp_ret (a1p s rfl (H7 rfl) (H7 rfl) (d.ret rfl))
theorem a8V {w0 S0 p2 k3 p6 k7 l1 e5 r} (u:a3I l1 e5=some r) (hS:Dm S0 w0) (h4:(Sq p2 k3 l1).p S0 w0) (h8:(Sq p6 k7 e5.Response.Stages).p S0 w0):Ck Tryz.prog 75 #[sl p2 k3 l1,V41 e5 p6 k7] w0 S0 [] l7 r:=by
 refine en 30 func75 rfl hS rfl rfl rfl fun a s d=>?_
 have d:=(d.addE h4).addE h8
 refine sr (wb (C41 e5 p6 k7) s d rfl fun b9 a w s d=>?_)
 refine rz0 1 s rfl fun a s=>?_
 refine wp_seq (sz0 1 s rfl fun a s=>?_)
 refine wp_block (u7 (fun sv120 a w=>∃ Sv192,Sl 30 [(0,sl p2 k3 l1),(3,pt b9),(5,iv sv120)] a∧Wd ⟨w0,S0,[]⟩ Sv192 [.box b9 (C41 e5 p6 k7) 41] [Sq p2 k3 l1,Sq p6 k7 e5.Response.Stages] w) 0 u ⟨S0,wj s d [0] [1,0]⟩ ?_)
 repeat clear u
 rintro sv120 a w tv229 ⟨Sv192,s,d⟩ u hd228
 refine wp_seq (sz0 4 s rfl fun a s=>?_)
 refine cd s u rfl (fun u=>?_) fun u=>?_
 ·refine sk (wp_seq (wp_block (wp_seq ?_)))
  obtain ⟨x268,h266,u⟩:=bt u
  obtain ⟨b274,o275,q272,c273,h276,h269,h270,h271,h267⟩:=d.elemV 0 rfl h266
  have hsv277:=s
  have hwv278:=d
  subst h276
  have s:=hsv277
  have d:=hwv278
  obtain ⟨_,_,_,_,_,_,_,_,rfl,rfl,rfl,rfl,rfl,rfl,rfl,rfl,⟨p279,n280,k281,rfl,h282⟩⟩:=h267
  obtain rfl:=h282.1
  have d:=(d.addE (e:=SlA p279 _ k281 x268.Response.Stages) h282).addE h271
  obtain ⟨c295,hc295,u⟩:=bt u
  refine y9 (fun a w=>∃ Sv296,Sl 30 [(0,sl (some ⟨b274,o275,none⟩) k3 l1),(3,pt b9),(5,iv sv120),(29,.bool c295)] a∧Wd ⟨w0,S0,[]⟩ Sv296 [.box b9 (C41 e5 p6 k7) 41] [Sq (some ⟨b274,o275,none⟩) k3 l1,Sq p6 k7 e5.Response.Stages] w) ?_ ?_
  ·rcases Bool.eq_false_or_eq_true (decide (x268.From<e5.To)) with h297 | h297
   ·have h298:=D5 hc295 h297
    obtain ⟨x301,h299,h298⟩:=O6 h298
    obtain ⟨q305,c306,h302,h303,h304,h300⟩:=d.elemK 2 rfl h299
    obtain ⟨_,_,_,_,_,_,_,_,rfl,rfl,rfl,rfl,rfl,rfl,rfl,rfl,⟨p307,n308,k309,rfl,h310⟩⟩:=h300
    obtain rfl:=h310.1
    have d:=(d.addE (e:=SlA p307 _ k309 x301.Response.Stages) h310).addE h304
    refine h_c [0] [0,2] d rfl rfl (by kernel_rfl) rfl fun hC d=>?_
    refine gn 2 [0,1] [] s hC rfl rfl rfl fun a s=>?_
    refine gx s 2 rfl trivial rfl hC runUnderlying71 sizeOf41 rfl rfl h269 h270 fun a s=>?_
    refine gv s 3 rfl rfl hC (fun w hC=>j5 (o':=q272+0) runUnderlying41 rfl sizeOf3 rfl rfl rfl) fun a s=>?_
    refine gv s 4 rfl rfl hC (fun w hC=>F5 (j:=0) (hC.ceAt 1 rfl) rfl isAgg3 rfl) fun a s=>?_
    refine gn 4 [5,6,7,8] [0] s hC rfl rfl rfl fun a s=>?_
    have s:=s.bT 20 rfl h297
    refine gn 4 [9,10,11,12] [0] s hC rfl rfl rfl fun a s=>?_
    refine gx s 13 rfl ⟨_,rfl,rfl⟩ rfl hC runUnderlying71 sizeOf41 rfl rfl h302 h303 fun a s=>?_
    refine gt s 14 rfl ⟨_,rfl,rfl⟩ rfl hC (fun w hC=>j5 (o':=q305+1) runUnderlying41 rfl sizeOf3 rfl rfl rfl) fun a s=>?_
    refine gt s 15 rfl ⟨_,rfl,rfl⟩ rfl hC (fun w hC=>F5 (j:=1) (hC.ceAt 0 rfl) rfl isAgg3 rfl) fun a s=>?_
    refine gt s 16 rfl ⟨_,rfl,rfl⟩ rfl hC (fun w hC=>b1M rfl rfl) fun a s=>?_
    refine gT s 17 rfl rfl hC rfl rfl h298 fun a s=>?_
    refine x8 (by kernel_rfl) ?_
    exact ⟨Sv192,wj s d [0] [4,5]⟩
   have h311:=D6 hc295 h297
   refine h_c [0] [0] d rfl rfl (by kernel_rfl) rfl fun hC d=>?_
   refine gn 2 [0,1] [] s hC rfl rfl rfl fun a s=>?_
   refine gx s 2 rfl trivial rfl hC runUnderlying71 sizeOf41 rfl rfl h269 h270 fun a s=>?_
   refine gv s 3 rfl rfl hC (fun w hC=>j5 (o':=q272+0) runUnderlying41 rfl sizeOf3 rfl rfl rfl) fun a s=>?_
   refine gv s 4 rfl rfl hC (fun w hC=>F5 (j:=0) (hC.ceAt 0 rfl) rfl isAgg3 rfl) fun a s=>?_
   refine gn 4 [5,6,7,8] [0] s hC rfl rfl rfl fun a s=>?_
   have s:=s.bF 20 rfl h297
   refine gn 8 [9,10,11,12,13,14,15,16] [] s hC rfl rfl rfl fun a s=>?_
   refine gF s 17 rfl rfl hC rfl rfl h311 fun a s=>?_
   refine x8 (by kernel_rfl) ?_
   exact ⟨Sv192,wj s d [0] [2,3]⟩
  rintro a w ⟨Sv296,s,d⟩
  refine tn (cd s u rfl (fun u=>?_) fun u=>?_)
  ·refine sz0 1 s rfl fun a s=>?_
   obtain rfl:=oi u
   have h314:=hd228 _ rfl
   subst h314
   exact wp_ret (r9 (j3 (j3 (r9 (j3 (rt s rfl (d.ret rfl)))))))
  refine wp_skip (l9 (tn (wp_region_lit (rn0 2 s rfl fun a s=>?_))))
  obtain ⟨i316,h315,u⟩:=bt u
  refine sv s (q8 rfl h315) rfl fun a s=>?_
  exact nl ⟨_,io u,Sv296,wj s d [0] [0,1]⟩
 obtain ⟨rv317,u,h318⟩:=Y7 u
 have h318:=(hd228 _ h318.symm).symm
 subst h318
 refine wp_exit (j4 (j4 (o9 (tn (sz0 1 s rfl fun a s=>?_)))))
 obtain rfl:=oi u
 exact q1 s rfl (d.ret rfl)
theorem b2f {w0 S0 p2 k3 p6 k7 l1 e5 r} (u:a7D l1 e5=some r) (hS:Dm S0 w0) (h4:(Sq p2 k3 l1).p S0 w0) (h8:(Sq p6 k7 e5.Response.Stages).p S0 w0):Ck Tryz.prog 76 #[sl p2 k3 l1,V41 e5 p6 k7] w0 S0 [] H9 r:=by
 refine en 36 func76 rfl hS rfl rfl rfl fun a s d=>?_
 have d:=(d.addE h4).addE h8
 refine sr (wb (C41 e5 p6 k7) s d rfl fun b9 a w s d=>?_)
 refine rz0 1 s rfl fun a s=>?_
 refine sz0 1 s rfl fun a s=>?_
 refine wp_seq ?_
 obtain ⟨e82,h173,u⟩:=bt u
 refine x9 (fun a w=>∃ Sv83,Sl 36 [(0,sl p2 k3 l1),(3,pt b9),(5,iv e82)] a∧Wd ⟨w0,S0,[]⟩ Sv83 [.box b9 (C41 e5 p6 k7) 41] [Sq p2 k3 l1,Sq p6 k7 e5.Response.Stages] w) ?_ ?_
 ·refine wp_block (u7 (fun sv10 a w=>∃ Sv56,Sl 36 [(0,sl p2 k3 l1),(3,pt b9),(5,iv sv10)] a∧Wd ⟨w0,S0,[]⟩ Sv56 [.box b9 (C41 e5 p6 k7) 41] [Sq p2 k3 l1,Sq p6 k7 e5.Response.Stages] w) 0 h173 ⟨S0,wj s d [0] [1,0]⟩ ?_)
  clear h173
  repeat clear u
  rintro sv10 a w tv80 ⟨Sv56,s,d⟩ u hd79
  refine wp_seq (wp_seq ?_)
  obtain ⟨c101,hc101,u⟩:=bt u
  refine y9 (fun a w=>∃ Sv102,Sl 36 [(0,sl p2 k3 l1),(3,pt b9),(5,iv sv10),(20,.bool c101)] a∧Wd ⟨w0,S0,[]⟩ Sv102 [.box b9 (C41 e5 p6 k7) 41] [Sq p2 k3 l1,Sq p6 k7 e5.Response.Stages] w) ?_ ?_
  ·rcases Bool.eq_false_or_eq_true (decide (sv10<(l1.length:Int))) with h103 | h103
   ·have h104:=D5 hc101 h103
    obtain ⟨x107,h105,h104⟩:=O6 h104
    obtain ⟨b113,o114,q111,c112,h115,h108,h109,h110,h106⟩:=d.elemV 0 rfl h105
    have hsv116:=s
    have hwv117:=d
    subst h115
    have s:=hsv116
    have d:=hwv117
    obtain ⟨_,_,_,_,_,_,_,_,rfl,rfl,rfl,rfl,rfl,rfl,rfl,rfl,⟨p118,n119,k120,rfl,h121⟩⟩:=h106
    obtain rfl:=h121.1
    have d:=(d.addE (e:=SlA p118 _ k120 x107.Response.Stages) h121).addE h110
    refine h_c [0] [0] d rfl rfl (by kernel_rfl) rfl fun hC d=>?_
    refine gn 5 [0,1,2,3,4] [] s hC rfl rfl rfl fun a s=>?_
    have s:=s.bT 11 rfl h103
    refine gn 2 [5,6] [] s hC rfl rfl rfl fun a s=>?_
    refine gx s 7 rfl ⟨_,rfl,rfl⟩ rfl hC runUnderlying71 sizeOf41 rfl rfl h108 h109 fun a s=>?_
    refine gt s 8 rfl ⟨_,rfl,rfl⟩ rfl hC (fun w hC=>j5 (o':=q111+0) runUnderlying41 rfl sizeOf3 rfl rfl rfl) fun a s=>?_
    refine gt s 9 rfl ⟨_,rfl,rfl⟩ rfl hC (fun w hC=>F5 (j:=0) (hC.ceAt 0 rfl) rfl isAgg3 rfl) fun a s=>?_
    refine gn 3 [10,11,12] [0] s hC rfl rfl rfl fun a s=>?_
    refine gT s 13 rfl rfl hC rfl rfl h104 fun a s=>?_
    refine x8 (by kernel_rfl) ?_
    exact ⟨Sv56,wj s d [0] [2,3]⟩
   have h122:=D6 hc101 h103
   refine h_c [0] [] d rfl rfl (by kernel_rfl) rfl fun hC d=>?_
   refine gn 5 [0,1,2,3,4] [] s hC rfl rfl rfl fun a s=>?_
   have s:=s.bF 11 rfl h103
   refine gn 8 [5,6,7,8,9,10,11,12] [] s hC rfl rfl rfl fun a s=>?_
   refine gF s 13 rfl rfl hC rfl rfl h122 fun a s=>?_
   refine x8 (by kernel_rfl) ?_
   exact ⟨Sv56,wj s d [0] [0,1]⟩
  rintro a w ⟨Sv102,s,d⟩
  refine tn (cd s u rfl (fun u=>?_) fun u=>?_)
  ·refine sk (wp_block (wp_region_lit (rn0 2 s rfl fun a s=>?_)))
   obtain ⟨k128,h127,u⟩:=bt u
   refine sv s (q8 rfl h127) rfl fun a s=>?_
   refine wpList_nil ?_
   exact l9 (tn ⟨_,io u,Sv102,wj s d [0] [0,1]⟩)
  refine wp_exit (j4 (j4 (o9 ?_)))
  obtain rfl:=oi u
  have h129:=hd79 _ rfl
  subst h129
  exact tn ⟨Sv102,wj s d [0] [0,1]⟩
 rintro a w ⟨Sv83,s,d⟩
 refine tn (sn0 2 s rfl fun a s=>?_)
 obtain ⟨l135,h130,u⟩:=bt u
 obtain ⟨p133,k134,h131,h132⟩:=a7J (d.envAt 0 rfl) h130
 have d:=d.addE h131
 refine sv s (R9 runUnderlying71 sizeOf41 rfl (by exact rfl) ⟨_,rfl⟩ h132) rfl fun a s=>?_
 obtain ⟨l137,h136,u⟩:=bt u
 have d:=d.nilRow Epoch 41
 refine P9 (α:=Epoch) s d a5I 0 rfl rfl rfl 0 rfl 1 rfl h136 rfl trivial ?_
 intro p138 k139 c140 a w s d
 refine rz0 1 s rfl fun a s=>?_
 refine wp_seq ?_
 obtain ⟨rv142,h141,u⟩:=bt u
 obtain ⟨l150,h149,u⟩:=bt u
 obtain ⟨l159,h154,u⟩:=bt u
 obtain ⟨p157,k158,h155,h156⟩:=a7J (d.envAt 3 rfl) h154
 have d:=d.addE h155
 obtain ⟨l161,h160,u⟩:=bt u
 refine y9 (fun a w=>∃ Sv165 c164 k163 p162,Sl 36 [(4,sl p162 k163 l161)] a∧Wd ⟨w0,S0,[]⟩ Sv165 [.row p162 l161.length k163 c164 41 8] [j6 c164 l161] w) ?_ ?_
 ·refine h_c [1] [] d rfl rfl (by kernel_rfl) rfl fun hC d=>?_
  refine gn 4 [0,1,5,6] [0] s hC rfl rfl rfl fun a s=>?_
  refine gv s 7 rfl rfl hC (fun w hC=>R9 runUnderlying71 sizeOf41 rfl ⟨_,rfl⟩ (by exact rfl) h156) fun a s=>?_
  refine ho 2 rfl ?_
  refine cR s (Y8 h141 d.dom (d.envAt 5 rfl)) (d9 call45 rfl) rfl ?_
  rintro v169 Sv166 w a h167 ⟨p143,k144,c146,rfl,h170,h145⟩ s
  have d:=(d.callN h167 h170).addE (e:=j6 c146 rv142.Response.Stages) h145
  refine h_n [2] [] d rfl rfl fun hC=>?_
  refine ho 3 rfl ?_
  obtain ⟨Sv172,d⟩:=A9 (α:=Stage) d 0 rfl 0 rfl
  refine y7 (α:=Epoch) (vs:=[V41 rv142 p143 k144]) (cs:=(C41 rv142 p143 k144)) (xs:=([rv142]:List Epoch)) s d a5I rfl rfl rfl rfl rfl rfl ⟨⟨_,_,_,_,_,_,_,_,rfl,rfl,rfl,rfl,rfl,rfl,rfl,rfl,⟨_,_,_,rfl,d.envAt 0 rfl⟩⟩,rfl⟩ rfl trivial rfl fun b148 a w s d=>?_
  refine h_n [2] [] d rfl rfl fun hC=>?_
  refine h_d [2,0] [] [0] [] d rfl rfl rfl rfl fun hC=>?_
  refine ho 4 rfl ?_
  refine I4 (α:=Epoch) s d a5I 1 rfl rfl rfl 4 rfl 0 rfl 0 rfl h149 rfl trivial ?_
  intro p151 k152 c153 a w s d
  refine h_n [2,0] [] d rfl rfl fun hC=>?_
  refine ho 8 rfl ?_
  refine P9 (α:=Epoch) s d a5I 1 rfl rfl rfl 0 rfl 4 rfl h160 rfl trivial ?_
  intro p162 k163 c164 a w s d
  refine h_n [2,0] [] d rfl rfl fun hC=>?_
  refine gv s 9 rfl rfl hC (fun w hC=>M7 rfl) fun a s=>?_
  refine x8 (by kernel_rfl) ?_
  exact ⟨Sv172,c164,k163,p162,wj s d [1] [0]⟩
 rintro a w ⟨Sv165,c164,k163,p162,s,d⟩
 refine tn ?_
 obtain rfl:=oi u
 exact q1 s rfl (d.ret ⟨p162,k163,c164,rfl,(d.outs [0] (by decide) rfl),(d.envAt 0 rfl)⟩)
abbrev a7e (w0:World) (X:List Nat) (r:(Inventory × Int)):Rd:=fun S w v=>∃ p0_0 k0_0,v=.tuple #[.agg #[sl p0_0 k0_0 r.1.Channels],iv r.2]∧(Sq p0_0 k0_0 r.1.Channels).p S w
abbrev a4a:List Value:=[.slice none ([]:List Channel).length 0]
theorem a0U {w0 S0 p2 k3 p6 k7 inv1 c5 r} (u:a0p inv1 c5=some r) (hS:Dm S0 w0) (h4:(Sq p2 k3 inv1.Channels).p S0 w0) (h8:(Sq p6 k7 c5.Epoch.Response.Stages).p S0 w0):Ck Tryz.prog 33 #[.agg #[sl p2 k3 inv1.Channels],V43 c5 p6 k7] w0 S0 [] a7e r:=by
 refine en 157 func33 rfl hS rfl rfl rfl fun a s d=>?_
 have d:=(d.addE h4).addE h8
 refine sr (wb [sl p2 k3 inv1.Channels] s d rfl fun b9 a w s d=>?_)
 refine wb (C43 c5 p6 k7) s d rfl fun b10 a w s d=>?_
 refine wa a4a s d zeroValue29 fun b11 a w s d=>?_
 refine rz0 1 s rfl fun a s=>?_
 refine wp_seq (sn 2 [2,1] s d rfl rfl fun a s=>?_)
 obtain ⟨rv13,h12,u⟩:=bt u
 refine cV s d (b1k h12 d.bdom (d.bE 1 rfl) (d.bE 0 rfl)) (d9 call72 rfl) rfl fun a w s d=>?_
 refine rz0 1 s rfl fun a s=>?_
 refine cd s u rfl (fun u=>?_) fun u=>?_
 ·refine sr (sv s (z8 (vs:=[]) a4V rfl rfl) rfl fun a s=>?_)
  refine ws a4a s d 0 rfl rfl rfl sizeOf29 fun a w s d=>?_
  refine rz0 1 s rfl fun a s=>?_
  obtain rfl:=oi u
  have d:=d.addE (e:=SlA (α:=Channel) none 0 0 []) M8
  exact wp_ret (j3 (a1p s rfl (F7 d 0 rfl rfl isAgg29 sizeOf29 rfl) (H7 rfl) (d.ret ⟨none,0,rfl,(d.envAt 0 rfl)⟩)))
 refine sk (sn 1 [2] s d rfl rfl fun a s=>?_)
 obtain ⟨rv23,h22,u⟩:=bt u
 refine cR s (a4v h22 d.dom (d.envAt 1 rfl)) (d9 call73 rfl) rfl ?_
 rintro v31 Sv28 w a h29 ⟨p24,k25,c27,rfl,h32,h26⟩ s
 have d:=(d.callN h29 h32).addE (e:=j6 c27 rv23.Channels) h26
 refine wa a4a s d zeroValue29 fun b34 a w s d=>?_
 refine ws [sl p24 k25 rv23.Channels] s d 0 rfl rfl rfl sizeOf29 fun a w s d=>?_
 refine nl (sn 2 [0,3] s d rfl rfl fun a s=>?_)
 obtain ⟨rv36,h35,u⟩:=bt u
 refine cV s d (b0D h35 d.bdom (d.bRow 1 rfl 0 rfl) (d.bE 1 rfl)) (d9 call74 rfl) rfl fun a w s d=>?_
 refine rz0 5 s rfl fun a s=>?_
 refine wp_seq (sz 3 [3] s d rfl rfl fun a s=>?_)
 refine x9 (fun a w=>∃ (x106:(List Channel)) (c102 p103 k104 Sv105:_),a0T c5 rv36 x106=some r∧Sl 157 [(3,pt b10),(4,pt b11),(6,pt b34),(7,iv rv36.1)] a∧Wd ⟨w0,S0,[]⟩ Sv105 [.box b10 (C43 c5 p6 k7) 43,.box b11 a4a 29,.box b34 [sl p103 k104 x106] 29,.row p103 x106.length k104 c102 73 5] [Sq p6 k7 c5.Epoch.Response.Stages,Sq none 0 ([]:List Channel),j6 c102 x106] w) ?_ ?_
 ·refine cd s u rfl (fun u=>?_) fun u=>?_
  ·refine wp_seq (sz0 2 s rfl fun a s=>?_)
   refine cd s u rfl (fun u=>?_) fun u=>?_
   ·refine sr (sv s (z8 (vs:=[]) a4V rfl rfl) rfl fun a s=>?_)
    refine ws a4a s d 2 rfl rfl rfl sizeOf29 fun a w s d=>?_
    refine rz0 1 s rfl fun a s=>?_
    obtain rfl:=oi u
    have d:=d.addE (e:=SlA (α:=Channel) none 0 0 []) M8
    exact wp_ret (j3 (j3 (j3 (a1p s rfl (F7 d 2 rfl rfl isAgg29 sizeOf29 rfl) (H7 rfl) (d.ret ⟨none,0,rfl,(d.envAt 0 rfl)⟩)))))
   refine sk (sn 3 [0] s d rfl rfl fun a s=>?_)
   obtain ⟨x631,h629,u⟩:=bt u
   obtain ⟨b638,q635,c636,h639,h632,h633,h637,h630⟩:=d.elemRV (α:=Channel) 1 rfl 0 rfl h629
   have hsv640:=s
   have hwv641:=d
   subst h639
   have s:=hsv640
   have d:=hwv641
   obtain ⟨_,_,_,_,_,rfl,rfl,rfl,rfl,rfl,⟨p642,n643,k644,rfl,h645⟩⟩:=h630
   obtain rfl:=h645.1
   have d:=d.addE (e:=SlA p642 _ k644 x631.Epochs) h645
   refine sv s (o8 runUnderlying27 sizeOf73 rfl rfl h632.1 h632.2 h633) rfl fun a s=>?_
   refine sv s (j5 (o':=q635+4) runUnderlying73 rfl sizeOf71 rfl rfl rfl) rfl fun a s=>?_
   refine sv s (K5 (j:=4) (d.ownAt 1 rfl) rfl isAgg71 h637 rfl) rfl fun a s=>?_
   refine rz0 1 s rfl fun a s=>?_
   obtain ⟨l651,h646,u⟩:=bt u
   obtain ⟨p649,k650,h647,h648⟩:=a7J (d.envAt 0 rfl) h646
   have d:=d.addE h647
   obtain ⟨l653,h652,u⟩:=bt u
   obtain ⟨l662,h657,u⟩:=bt u
   obtain ⟨p660,k661,h658,h659⟩:=a7J (d.envAt 1 rfl) h657
   have d:=d.addE h658
   obtain ⟨l664,h663,u⟩:=bt u
   obtain ⟨x670,h668,u⟩:=bt u
   obtain ⟨q674,c675,h671,h672,h676,h669⟩:=d.elemRK (α:=Channel) 1 rfl 3 rfl h668
   obtain ⟨_,_,_,_,_,rfl,rfl,rfl,rfl,rfl,⟨p677,n678,k679,rfl,h680⟩⟩:=h669
   obtain rfl:=h680.1
   have d:=d.addE (e:=SlA p677 _ k679 x670.Epochs) h680
   obtain ⟨l682,h681,u⟩:=bt u
   refine y9 (fun a w=>∃ Sv685 c683,Sl 157 [(3,pt b10),(4,pt b11),(6,pt b34),(7,iv rv36.1)] a∧Wd ⟨w0,S0,[]⟩ Sv685 [.box b10 (C43 c5 p6 k7) 43,.box b11 a4a 29,.box b34 [sl (ad b638) k25 l682] 29,.row (ad b638) l682.length k25 c683 73 5] [Sq p6 k7 c5.Epoch.Response.Stages,Sq none 0 ([]:List Channel),j6 c683 l682] w) ?_ ?_
   ·refine h_c [0,2,3,4] [] d rfl rfl (by kernel_rfl) rfl fun hC d=>?_
    refine gn 5 [0,1,2,3,4] [0] s hC rfl rfl rfl fun a s=>?_
    refine gv s 5 rfl rfl hC (fun w hC=>R9 runUnderlying71 sizeOf41 rfl (by exact rfl) ⟨_,rfl⟩ h648) fun a s=>?_
    refine gn 3 [7,8,9] [] s hC rfl rfl rfl fun a s=>?_
    refine gv s 10 rfl rfl hC (fun w hC=>R9 runUnderlying71 sizeOf41 rfl ⟨_,rfl⟩ (by exact rfl) h659) fun a s=>?_
    refine ho 6 rfl ?_
    have d:=d.nilRow Epoch 41
    refine P9 (α:=Epoch) s d a5I 0 rfl rfl rfl 0 rfl 3 rfl h652 rfl trivial ?_
    intro p654 k655 c656 a w s d
    refine h_n [1,3,4,5] [] d rfl rfl fun hC=>?_
    refine ho 11 rfl ?_
    refine P9 (α:=Epoch) s d a5I 0 rfl rfl rfl 0 rfl 3 rfl h663 rfl trivial ?_
    intro p665 k666 c667 a w s d
    refine h_n [1,3,4,5] [] d rfl rfl fun hC=>?_
    refine gx s 12 rfl trivial rfl hC runUnderlying27 sizeOf73 rfl rfl h671 h672 fun a s=>?_
    refine gv s 13 rfl rfl hC (fun w hC=>j5 (o':=q674+4) runUnderlying73 rfl sizeOf71 rfl rfl rfl) fun a s=>?_
    refine ho 14 rfl ?_
    obtain ⟨Sv686,d⟩:=A9 (α:=Epoch) d 0 rfl 0 rfl
    refine a5l (α:=Channel) (f:=4) (m:=1) s d 1 rfl 8 rfl h672 rfl rfl sizeOf71 rfl rfl rfl h681 (fun es he=>by rw [h676] at he;subst he;exact ⟨_,_,_,_,_,rfl,rfl,rfl,rfl,rfl,⟨_,_,_,rfl,d.envAt 0 rfl⟩⟩) trivial ?_
    intro c683 a w s d
    have h684:=Y0 h681
    try have s:=s.fl 36 rfl h684
    refine h_n [0,2,3,4] [] d rfl rfl fun hC=>?_
    refine x8 (by kernel_rfl) ?_
    have d:=(d.fixB 0 0 rfl rfl h684).addE (e:=SlA (α:=Channel) none 0 0 []) M8
    exact ⟨Sv686,c683,wj s d [3,2,0,1] [11,0,1]⟩
   rintro a w ⟨Sv685,c683,s,d⟩
   exact tn ⟨l682,c683,(ad b638),k25,Sv685,u,wj s d [0,1,2,3] [0,1,2]⟩
  refine sk ?_
  have d:=d.addE (e:=SlA (α:=Channel) none 0 0 []) M8
  exact ⟨rv23.Channels,c27,p24,k25,Sv28,u,wj s d [3,2,0,1] [2,0,1]⟩
 rintro a w ⟨x106,c102,p103,k104,Sv105,u,s,d⟩
 refine tn (wp_seq (sz 3 [0] s d rfl rfl fun a s=>?_))
 refine cd s u rfl (fun u=>?_) fun u=>?_
 ·refine wp_seq (sn 3 [2] s d rfl rfl fun a s=>?_)
  obtain ⟨x149,h147,u⟩:=bt u
  obtain ⟨b156,q153,c154,h157,h150,h151,h155,h148⟩:=d.elemRV (α:=Channel) 3 rfl 2 rfl h147
  have hsv158:=s
  have hwv159:=d
  subst h157
  have s:=hsv158
  have d:=hwv159
  obtain ⟨_,_,_,_,_,rfl,rfl,rfl,rfl,rfl,⟨p160,n161,k162,rfl,h163⟩⟩:=h148
  obtain rfl:=h163.1
  have d:=d.addE (e:=SlA p160 _ k162 x149.Epochs) h163
  refine sv s (o8 runUnderlying27 sizeOf73 rfl rfl h150.1 h150.2 h151) rfl fun a s=>?_
  refine sv s (j5 (o':=q153+4) runUnderlying73 rfl sizeOf71 rfl rfl rfl) rfl fun a s=>?_
  refine sv s (K5 (j:=4) (d.ownAt 3 rfl) rfl isAgg71 h155 rfl) rfl fun a s=>?_
  refine rz0 2 s rfl fun a s=>?_
  refine x9 (fun a w=>∃ (x184:(List Channel)) (p181 k182 Sv183:_),a5f x184=some r∧Sl 157 [(4,pt b11),(6,pt b34)] a∧Wd ⟨w0,S0,[]⟩ Sv183 [.box b11 a4a 29,.box b34 [sl p181 k182 x184] 29] [Sq none 0 ([]:List Channel),Sq p181 k182 x184] w) ?_ ?_
  ·refine cd s u rfl (fun u=>?_) fun u=>?_
   ·obtain ⟨Sv188,d⟩:=A9 (α:=Channel) d 3 rfl 3 rfl
    obtain ⟨l190,h186,u⟩:=bt u
    obtain ⟨h189,h187⟩:=sub_env3 (d.envAt 0 rfl) h186
    have d:=d.addE (e:=Sq (ad b156) l190.length l190) h189
    obtain ⟨l196,h191,u⟩:=bt u
    obtain ⟨p194,k195,h192,h193⟩:=a7J (d.envAt 1 rfl) h191
    have d:=d.addE h192
    obtain ⟨l198,h197,u⟩:=bt u
    refine y9 (fun a w=>∃ Sv201 k200 p199,Sl 157 [(4,pt b11),(6,pt b34)] a∧Wd ⟨w0,S0,[]⟩ Sv201 [.box b11 a4a 29,.box b34 [sl p199 k200 l198] 29] [Sq none 0 ([]:List Channel),Sq p199 k200 l198] w) ?_ ?_
    ·refine h_c [0,1] [] d rfl rfl (by kernel_rfl) rfl fun hC d=>?_
     refine gn 6 [0,2,3,5,7,8] [] s hC rfl rfl rfl fun a s=>?_
     refine a4O (rs:=[1,6]) (by kernel_rfl) rfl ?_
     refine U8.cons rfl ?_ ?_
     ·refine sv s (V5 (d.ownAt 2 rfl) rfl isAgg27 rfl) rfl fun a s=>?_
      refine h_n [0,1] [] d rfl rfl fun hC=>?_
      refine gv s 4 rfl rfl hC (fun w hC=>b1a runUnderlying27 sizeOf73 rfl (by exact rfl) rfl rfl h187) fun a s=>?_
      refine ho 6 rfl ?_
      refine sv s (V5 (d.ownAt 2 rfl) rfl isAgg27 rfl) rfl fun a s=>?_
      refine h_n [0,1] [] d rfl rfl fun hC=>?_
      refine gv s 9 rfl rfl hC (fun w hC=>R9 runUnderlying27 sizeOf73 rfl ⟨_,rfl⟩ (by exact rfl) h193) fun a s=>?_
      refine ho 10 rfl ?_
      refine b1K (α:=Channel) s d a6R 1 rfl 0 rfl rfl rfl h197 rfl trivial ?_
      intro p199 k200 Sv202 a w s d
      refine h_n [0,1] [] d rfl rfl fun hC=>?_
      refine gv s 11 rfl rfl hC (fun w hC=>j5 (o':=0) runUnderlying29 rfl sizeOf27 rfl rfl rfl) fun a s=>?_
      refine ho 12 rfl ?_
      refine ws [sl p199 k200 l198] s d 2 rfl rfl rfl sizeOf27 fun a w s d=>?_
      refine h_n [0,1] [] d rfl rfl fun hC=>?_
      refine x8 (by kernel_rfl) ?_
      exact ⟨Sv202,k200,p199,wj s d [1,2] [6,0]⟩
     refine U8.cons rfl ?_ ?_
     ·refine sv s (V5 (d.ownAt 2 rfl) rfl isAgg27 rfl) rfl fun a s=>?_
      refine h_n [0,1] [] d rfl rfl fun hC=>?_
      refine gv s 9 rfl rfl hC (fun w hC=>R9 runUnderlying27 sizeOf73 rfl ⟨_,rfl⟩ (by exact rfl) h193) fun a s=>?_
      refine ho 1 rfl ?_
      refine sv s (V5 (d.ownAt 2 rfl) rfl isAgg27 rfl) rfl fun a s=>?_
      refine h_n [0,1] [] d rfl rfl fun hC=>?_
      refine gv s 4 rfl rfl hC (fun w hC=>b1a runUnderlying27 sizeOf73 rfl (by exact rfl) rfl rfl h187) fun a s=>?_
      refine ho 10 rfl ?_
      refine b1K (α:=Channel) s d a6R 1 rfl 0 rfl rfl rfl h197 rfl trivial ?_
      intro p199 k200 Sv203 a w s d
      refine h_n [0,1] [] d rfl rfl fun hC=>?_
      refine gv s 11 rfl rfl hC (fun w hC=>j5 (o':=0) runUnderlying29 rfl sizeOf27 rfl rfl rfl) fun a s=>?_
      refine ho 12 rfl ?_
      refine ws [sl p199 k200 l198] s d 2 rfl rfl rfl sizeOf27 fun a w s d=>?_
      refine h_n [0,1] [] d rfl rfl fun hC=>?_
      refine x8 (by kernel_rfl) ?_
      exact ⟨Sv203,k200,p199,wj s d [1,2] [6,0]⟩
     exact U8.nil
    rintro a w ⟨Sv201,k200,p199,s,d⟩
    exact tn ⟨l198,p199,k200,Sv201,u,wj s d [0,1] [0,1]⟩
   refine sk ?_
   obtain ⟨Sv207,d⟩:=A9 (α:=Channel) d 3 rfl 3 rfl
   exact ⟨x106,(ad b156),k104,Sv207,u,wj s d [1,2] [3,0]⟩
  rintro a w ⟨x184,p181,k182,Sv183,u,s,d⟩
  refine tn (sn 1 [1] s d rfl rfl fun a s=>?_)
  refine ws [sl p181 k182 x184] s d 0 rfl rfl rfl sizeOf29 fun a w s d=>?_
  refine rz0 1 s rfl fun a s=>?_
  obtain rfl:=oi u
  exact wp_ret (j3 (a1p s rfl (F7 d 0 rfl rfl isAgg29 sizeOf29 rfl) (H7 rfl) (d.ret ⟨p181,k182,rfl,(d.envAt 1 rfl)⟩)))
 refine sk (wp_seq (sz0 2 s rfl fun a s=>?_))
 refine x9 (fun a w=>∃ (x336:(List Channel)) (i337:Int) (c332 p333 k334 Sv335:_),a2h c5 x336 i337=some r∧Sl 157 [(3,pt b10),(4,pt b11),(6,pt b34),(7,iv i337)] a∧Wd ⟨w0,S0,[]⟩ Sv335 [.box b10 (C43 c5 p6 k7) 43,.box b11 a4a 29,.box b34 [sl p333 k334 x336] 29,.row p333 x336.length k334 c332 73 5] [Sq p6 k7 c5.Epoch.Response.Stages,Sq none 0 ([]:List Channel),j6 c332 x336] w) ?_ ?_
 ·refine cd s u rfl (fun u=>?_) fun u=>?_
  ·refine sz0 1 s rfl fun a s=>?_
   refine wp_seq ?_
   obtain ⟨e521,h625,u⟩:=bt u
   refine x9 (fun a w=>∃ Sv522,Sl 157 [(3,pt b10),(4,pt b11),(6,pt b34),(7,iv e521)] a∧Wd ⟨w0,S0,[]⟩ Sv522 [.box b10 (C43 c5 p6 k7) 43,.box b11 a4a 29,.box b34 [sl p103 k104 x106] 29,.row p103 x106.length k104 c102 73 5] [Sq p6 k7 c5.Epoch.Response.Stages,Sq none 0 ([]:List Channel),j6 c102 x106] w) ?_ ?_
   ·refine wp_block (u7 (fun sv443 a w=>∃ Sv493,Sl 157 [(3,pt b10),(4,pt b11),(6,pt b34),(7,iv sv443)] a∧Wd ⟨w0,S0,[]⟩ Sv493 [.box b10 (C43 c5 p6 k7) 43,.box b11 a4a 29,.box b34 [sl p103 k104 x106] 29,.row p103 x106.length k104 c102 73 5] [Sq p6 k7 c5.Epoch.Response.Stages,Sq none 0 ([]:List Channel),j6 c102 x106] w) 0 h625 ⟨Sv105,wj s d [0,1,2,3] [0,1,2]⟩ ?_)
    clear h625
    repeat clear u
    rintro sv443 a w tv519 ⟨Sv493,s,d⟩ u hd518
    refine wp_seq (wp_seq ?_)
    obtain ⟨c542,hc542,u⟩:=bt u
    refine y9 (fun a w=>∃ Sv543,Sl 157 [(3,pt b10),(4,pt b11),(6,pt b34),(7,iv sv443),(91,.bool c542)] a∧Wd ⟨w0,S0,[]⟩ Sv543 [.box b10 (C43 c5 p6 k7) 43,.box b11 a4a 29,.box b34 [sl p103 k104 x106] 29,.row p103 x106.length k104 c102 73 5] [Sq p6 k7 c5.Epoch.Response.Stages,Sq none 0 ([]:List Channel),j6 c102 x106] w) ?_ ?_
    ·rcases Bool.eq_false_or_eq_true (decide (sv443<(x106.length:Int))) with h544 | h544
     ·have h545:=D5 hc542 h544
      obtain ⟨x548,h546,h545⟩:=O6 h545
      obtain ⟨b555,q552,c553,h556,h549,h550,h554,h547⟩:=d.elemRV (α:=Channel) 3 rfl 2 rfl h546
      have hsv557:=s
      have hwv558:=d
      subst h556
      have s:=hsv557
      have d:=hwv558
      obtain ⟨_,_,_,_,_,rfl,rfl,rfl,rfl,rfl,⟨p559,n560,k561,rfl,h562⟩⟩:=h547
      obtain rfl:=h562.1
      have d:=d.addE (e:=SlA p559 _ k561 x548.Epochs) h562
      obtain ⟨rv564,h563,h545⟩:=O6 h545
      refine h_c [0,1,2,3] [] d rfl rfl (by kernel_rfl) rfl fun hC d=>?_
      refine gn 6 [0,1,2,3,4,5] [2] s hC rfl rfl rfl fun a s=>?_
      have s:=s.bT 80 rfl h544
      refine gn 3 [6,7,8] [2] s hC rfl rfl rfl fun a s=>?_
      refine gx s 9 rfl ⟨_,rfl,rfl⟩ rfl hC runUnderlying27 sizeOf73 rfl rfl h549 h550 fun a s=>?_
      refine gt s 10 rfl ⟨_,rfl,rfl⟩ rfl hC (fun w hC=>j5 (o':=q552+0) runUnderlying73 rfl sizeOf32 rfl rfl rfl) fun a s=>?_
      refine gt s 11 rfl ⟨_,rfl,rfl⟩ rfl hC (fun w hC=>Q0 (j:=0) (hC.ownAt 3 rfl) rfl isAgg32 sizeOf32 h554 rfl rfl) fun a s=>?_
      refine gn 2 [12,13] [0] s hC rfl rfl rfl fun a s=>?_
      refine ho 14 rfl ?_
      refine q9 s (a4f h563 d.bdom) (d9 call63 rfl) ⟨_,rfl,rfl⟩ rfl rfl ?_
      rintro v568 Sv565 w a h566 rfl s
      have d:=d.callB h566
      refine h_n [0,1,2,3] [] d rfl rfl fun hC=>?_
      refine gt s 15 rfl ⟨_,rfl,rfl⟩ rfl hC (fun w hC=>b1M rfl rfl) fun a s=>?_
      refine gT s 16 rfl rfl hC rfl rfl h545 fun a s=>?_
      refine x8 (by kernel_rfl) ?_
      exact ⟨Sv493,wj s d [0,1,2,3] [1,2,3]⟩
     have h571:=D6 hc542 h544
     refine h_c [0,1,2,3] [] d rfl rfl (by kernel_rfl) rfl fun hC d=>?_
     refine gn 6 [0,1,2,3,4,5] [2] s hC rfl rfl rfl fun a s=>?_
     have s:=s.bF 80 rfl h544
     refine gn 10 [6,7,8,9,10,11,12,13,14,15] [] s hC rfl rfl rfl fun a s=>?_
     refine gF s 16 rfl rfl hC rfl rfl h571 fun a s=>?_
     refine x8 (by kernel_rfl) ?_
     exact ⟨Sv493,wj s d [0,1,2,3] [0,1,2]⟩
    rintro a w ⟨Sv543,s,d⟩
    refine tn (cd s u rfl (fun u=>?_) fun u=>?_)
    ·refine sk (wp_block (wp_region_lit (rn0 2 s rfl fun a s=>?_)))
     obtain ⟨i577,h576,u⟩:=bt u
     refine sv s (q8 rfl h576) rfl fun a s=>?_
     refine wpList_nil ?_
     exact l9 (tn ⟨_,io u,Sv543,wj s d [0,1,2,3] [0,1,2]⟩)
    refine wp_exit (j4 (j4 (o9 ?_)))
    obtain rfl:=oi u
    have h578:=hd518 _ rfl
    subst h578
    exact tn ⟨Sv543,wj s d [0,1,2,3] [0,1,2]⟩
   rintro a w ⟨Sv522,s,d⟩
   refine tn (sn 2 [2] s d rfl rfl fun a s=>?_)
   refine sv s (z8 (vs:=[]) b2v rfl rfl) rfl fun a s=>?_
   have d:=d.addE (e:=SlA (α:=Epoch) none 0 0 []) M8
   refine y7 (α:=Channel) (vs:=[.agg Z2.toArray]) (cs:=Z2) (xs:=([(⟨(⟨ByteArray.empty,ByteArray.empty,ByteArray.empty,ByteArray.empty⟩:SourceID),([]:List Epoch)⟩:Channel)]:List Channel)) s d a6R rfl rfl rfl rfl rfl rfl ⟨⟨_,_,_,_,_,rfl,rfl,rfl,rfl,rfl,⟨_,_,_,rfl,d.envAt 0 rfl⟩⟩,rfl⟩ rfl trivial rfl fun b580 a w s d=>?_
   obtain ⟨l582,h581,u⟩:=bt u
   refine I4 (α:=Channel) s d a6R 4 rfl rfl rfl 4 rfl 0 rfl 0 rfl h581 rfl trivial ?_
   intro p583 k584 c585 a w s d
   refine sv s (j5 (o':=0) runUnderlying29 rfl sizeOf27 rfl rfl rfl) rfl fun a s=>?_
   refine ws [sl p583 k584 l582] s d 3 rfl rfl rfl sizeOf27 fun a w s d=>?_
   refine nl (wp_seq ?_)
   obtain ⟨l590,h586,u⟩:=bt u
   obtain ⟨p588,k589,h587⟩:=U7 (α:=Channel) d 4 rfl h586
   obtain ⟨l595,h591,u⟩:=bt u
   obtain ⟨p593,k594,h592⟩:=U7 (α:=Channel) d 4 rfl h591
   obtain ⟨l596,h597,u⟩:=bt u
   refine y9 (fun a w=>∃ Sv600 c598,Sl 157 [(3,pt b10),(4,pt b11),(6,pt b34),(7,iv e521)] a∧Wd ⟨w0,S0,[]⟩ Sv600 [.box b10 (C43 c5 p6 k7) 43,.box b11 a4a 29,.box b34 [sl p583 k584 l596] 29,.row p583 l596.length k584 c598 73 5] [Sq p6 k7 c5.Epoch.Response.Stages,Sq none 0 ([]:List Channel),j6 c598 l596] w) ?_ ?_
   ·refine h_c [0,1,2,3] [] d rfl rfl (by kernel_rfl) rfl fun hC d=>?_
    refine gn 4 [0,1,2,3] [3] s hC rfl rfl rfl fun a s=>?_
    refine gv s 4 rfl rfl hC (fun w hC=>R9 runUnderlying27 sizeOf73 rfl ⟨_,rfl⟩ (by exact rfl) h587) fun a s=>?_
    refine gn 3 [5,6,7] [3] s hC rfl rfl rfl fun a s=>?_
    refine gv s 8 rfl rfl hC (fun w hC=>R9 runUnderlying27 sizeOf73 rfl ⟨_,rfl⟩ (by exact rfl) h592) fun a s=>?_
    refine ho 9 rfl ?_
    obtain ⟨ds_,h603⟩:=b3K (d.ownAt 4 rfl) (d.envAt 0 rfl) h591 h592
    refine b0f (α:=Channel) s d 4 rfl 0 rfl runUnderlying27 runUnderlying27 sizeOf73 (by decide) h586 h587 rfl rfl rfl h603.1 h603.2.1 h603.2.2 rfl trivial ?_
    intro c598 a w s d
    rw [Option.some.inj h597] at d
    have h599:=(a4U h586 h597)
    try have s:=s.fl 101 rfl h599
    try have s:=s.fl 106 rfl h599
    refine h_n [0,1,2,3] [] d rfl rfl fun hC=>?_
    refine x8 (by kernel_rfl) ?_
    have d:=d.fixB 3 0 rfl rfl h599
    exact ⟨Sv522,c598,wj s d [1,2,3,4] [4,5,0]⟩
   rintro a w ⟨Sv600,c598,s,d⟩
   refine tn (wp_region_lit (rn 5 [2,0] s d rfl rfl fun a s=>?_))
   refine sv s (z8 (vs:=[(0,V32 c5.Source)]) b2v rfl rfl) rfl fun a s=>?_
   obtain ⟨x606,h604,u⟩:=bt u
   obtain ⟨b613,q610,c611,h614,h607,h608,h612,h605⟩:=d.elemRV (α:=Channel) 3 rfl 2 rfl h604
   have hsv615:=s
   have hwv616:=d
   subst h614
   have s:=hsv615
   have d:=hwv616
   obtain ⟨_,_,_,_,_,rfl,rfl,rfl,rfl,rfl,⟨p617,n618,k619,rfl,h620⟩⟩:=h605
   obtain rfl:=h620.1
   have d:=d.addE (e:=SlA p617 _ k619 x606.Epochs) h620
   refine sv s (o8 runUnderlying27 sizeOf73 rfl rfl h607.1 h607.2 h608) rfl fun a s=>?_
   obtain ⟨l622,h621,u⟩:=bt u
   have d:=d.addE (e:=SlA (α:=Epoch) none 0 0 []) M8
   refine a5k (α:=Channel) s d 3 rfl 4 rfl h608 rfl rfl sizeOf73 rfl h621 ⟨_,_,_,_,_,rfl,rfl,rfl,rfl,rfl,⟨_,_,_,rfl,d.envAt 0 rfl⟩⟩ trivial ?_
   intro c623 a w s d
   have h624:=Y0 h621
   try have s:=s.fl 111 rfl h624
   have d:=d.fixB 2 0 rfl rfl h624
   exact nl ⟨l622,e521,c623,(ad b613),k584,Sv600,u,wj s d [0,1,2,3] [3,4,0]⟩
  exact sk ⟨x106,rv36.1,c102,p103,k104,Sv105,u,wj s d [0,1,2,3] [0,1,2]⟩
 rintro a w ⟨x336,i337,c332,p333,k334,Sv335,u,s,d⟩
 refine tn (wp_seq (wp_seq ?_))
 obtain ⟨x340,h338,u⟩:=bt u
 obtain ⟨b347,q344,c345,h348,h341,h342,h346,h339⟩:=d.elemRV (α:=Channel) 3 rfl 2 rfl h338
 have hsv349:=s
 have hwv350:=d
 subst h348
 have s:=hsv349
 have d:=hwv350
 obtain ⟨_,_,_,_,_,rfl,rfl,rfl,rfl,rfl,⟨p351,n352,k353,rfl,h354⟩⟩:=h339
 obtain rfl:=h354.1
 have d:=d.addE (e:=SlA p351 _ k353 x340.Epochs) h354
 obtain ⟨rv356,h355,u⟩:=bt u
 refine y9 (fun a w=>∃ Sv357,Sl 157 [(3,pt b10),(4,pt b11),(6,pt b34),(7,iv i337),(125,.bool rv356)] a∧Wd ⟨w0,S0,[]⟩ Sv357 [.box b10 (C43 c5 p6 k7) 43,.box b11 a4a 29,.box b34 [sl (ad b347) k334 x336] 29,.row (ad b347) x336.length k334 c332 73 5] [Sq p6 k7 c5.Epoch.Response.Stages,Sq none 0 ([]:List Channel),j6 c332 x336] w) ?_ ?_
 ·refine h_c [0,1,2,3] [] d rfl rfl (by kernel_rfl) rfl fun hC d=>?_
  refine gn 3 [0,1,2] [2] s hC rfl rfl rfl fun a s=>?_
  refine gx s 3 rfl trivial rfl hC runUnderlying27 sizeOf73 rfl rfl h341 h342 fun a s=>?_
  refine gv s 4 rfl rfl hC (fun w hC=>j5 (o':=q344+4) runUnderlying73 rfl sizeOf71 rfl rfl rfl) fun a s=>?_
  refine gv s 5 rfl rfl hC (fun w hC=>K5 (j:=4) (hC.ownAt 3 rfl) rfl isAgg71 h346 rfl) fun a s=>?_
  refine gn 2 [6,7] [0] s hC rfl rfl rfl fun a s=>?_
  refine ho 8 rfl ?_
  refine cV s d (a8V h355 d.bdom (d.bE 0 rfl) (d.bE 1 rfl)) (d9 call75 rfl) rfl fun a w s d=>?_
  refine h_n [0,1,2,3] [] d rfl rfl fun hC=>?_
  refine x8 (by kernel_rfl) ?_
  exact ⟨Sv335,wj s d [0,1,2,3] [1,2,3]⟩
 rintro a w ⟨Sv357,s,d⟩
 refine tn (cd s u rfl (fun u=>?_) fun u=>?_)
 ·refine sr (sv s (z8 (vs:=[]) a4V rfl rfl) rfl fun a s=>?_)
  refine ws a4a s d 1 rfl rfl rfl sizeOf29 fun a w s d=>?_
  refine rz0 1 s rfl fun a s=>?_
  obtain rfl:=oi u
  exact wp_ret (j3 (a1p s rfl (F7 d 1 rfl rfl isAgg29 sizeOf29 rfl) (H7 rfl) (d.ret ⟨none,0,rfl,(d.envAt 1 rfl)⟩)))
 refine sk (wp_seq ?_)
 obtain ⟨x368,h366,u⟩:=bt u
 obtain ⟨q372,c373,h369,h370,h374,h367⟩:=d.elemRK (α:=Channel) 3 rfl 2 rfl h366
 obtain ⟨_,_,_,_,_,rfl,rfl,rfl,rfl,rfl,⟨p375,n376,k377,rfl,h378⟩⟩:=h367
 obtain rfl:=h378.1
 have d:=d.addE (e:=SlA p375 _ k377 x368.Epochs) h378
 obtain ⟨rv380,h379,u⟩:=bt u
 obtain ⟨x387,h385,u⟩:=bt u
 obtain ⟨q391,c392,h388,h389,h393,h386⟩:=d.elemRK (α:=Channel) 3 rfl 3 rfl h385
 obtain ⟨_,_,_,_,_,rfl,rfl,rfl,rfl,rfl,⟨p394,n395,k396,rfl,h397⟩⟩:=h386
 obtain rfl:=h397.1
 have d:=d.addE (e:=SlA p394 _ k396 x387.Epochs) h397
 obtain ⟨l399,h398,u⟩:=bt u
 refine y9 (fun a w=>∃ Sv402 c400,Sl 157 [(4,pt b11),(6,pt b34),(7,iv i337)] a∧Wd ⟨w0,S0,[]⟩ Sv402 [.box b11 a4a 29,.box b34 [sl (ad b347) k334 l399] 29,.row (ad b347) l399.length k334 c400 73 5] [Sq none 0 ([]:List Channel),j6 c400 l399] w) ?_ ?_
 ·refine h_c [0,1,2] [] d rfl rfl (by kernel_rfl) rfl fun hC d=>?_
  refine gn 6 [0,1,2,3,4,5] [2,2] s hC rfl rfl rfl fun a s=>?_
  refine gx s 6 rfl trivial rfl hC runUnderlying27 sizeOf73 rfl rfl h369 h370 fun a s=>?_
  refine gn 3 [7,9,10] [0] s hC rfl rfl rfl fun a s=>?_
  refine ho 8 rfl ?_
  refine sv s (K5 (j:=4) (d.ownAt 3 rfl) rfl isAgg71 h374 rfl) rfl fun a s=>?_
  refine h_n [0,1,2] [] d rfl rfl fun hC=>?_
  refine ho 11 rfl ?_
  refine cR s (b2f h379 d.dom (d.envAt 1 rfl) (d.envAt 2 rfl)) (d9 call76 rfl) rfl ?_
  rintro v406 Sv403 w a h404 ⟨p381,k382,c384,rfl,h407,h383⟩ s
  have d:=(d.callN h404 h407).addE (e:=j6 c384 rv380) h383
  refine h_n [1,2,3] [] d rfl rfl fun hC=>?_
  refine gx s 12 rfl trivial rfl hC runUnderlying27 sizeOf73 rfl rfl h388 h389 fun a s=>?_
  refine gv s 13 rfl rfl hC (fun w hC=>j5 (o':=q391+4) runUnderlying73 rfl sizeOf71 rfl rfl rfl) fun a s=>?_
  refine ho 14 rfl ?_
  obtain ⟨Sv409,d⟩:=A9 (α:=Epoch) d 0 rfl 0 rfl
  refine a5l (α:=Channel) (f:=4) (m:=1) s d 3 rfl 6 rfl h389 rfl rfl sizeOf71 rfl rfl rfl h398 (fun es he=>by rw [h393] at he;subst he;exact ⟨_,_,_,_,_,rfl,rfl,rfl,rfl,rfl,⟨_,_,_,rfl,d.envAt 0 rfl⟩⟩) trivial ?_
  intro c400 a w s d
  have h401:=Y0 h398
  try have s:=s.fl 128 rfl h401
  try have s:=s.fl 131 rfl h401
  refine h_n [0,1,2] [] d rfl rfl fun hC=>?_
  refine x8 (by kernel_rfl) ?_
  have d:=d.fixB 2 0 rfl rfl h401
  exact ⟨Sv409,c400,wj s d [1,2,3] [6,0]⟩
 rintro a w ⟨Sv402,c400,s,d⟩
 refine tn (wp_seq (sn 5 [1] s d rfl rfl fun a s=>?_))
 obtain ⟨c424,hc424,u⟩:=bt u
 refine o7 9 (fun a w=>∃ Sv425,Sl 157 [(4,pt b11),(6,pt b34),(154,.bool c424)] a∧Wd ⟨w0,S0,[]⟩ Sv425 [.box b11 a4a 29,.box b34 [sl (ad b347) k334 l399] 29,.row (ad b347) l399.length k334 c400 73 5] [Sq none 0 ([]:List Channel),j6 c400 l399] w) ?_ ?_
 ·rcases Bool.eq_false_or_eq_true (decide (128<(l399.length:Int))) with h423 | h423
  ·have s:=s.bT 145 rfl h423
   have u:=D5 hc424 h423
   refine rn0 9 s rfl fun a s=>?_
   refine wpList_nil ?_
   obtain rfl:=oi u
   exact tn ⟨Sv402,wj s d [0,1,2] [0,1]⟩
  have s:=s.bF 145 rfl h423
  have u:=D6 hc424 h423
  refine rn 3 [1] s d rfl rfl fun a s=>?_
  obtain ⟨x428,h426,u⟩:=bt u
  obtain ⟨q432,c433,h429,h430,h434,h427⟩:=d.elemRK (α:=Channel) 2 rfl 1 rfl h426
  obtain ⟨_,_,_,_,_,rfl,rfl,rfl,rfl,rfl,⟨p435,n436,k437,rfl,h438⟩⟩:=h427
  obtain rfl:=h438.1
  have d:=d.addE (e:=SlA p435 _ k437 x428.Epochs) h438
  refine y8 s (o8 runUnderlying27 sizeOf73 rfl rfl h429.1 h429.2 h430) ⟨_,rfl,rfl⟩ rfl rfl fun a s=>?_
  refine y8 s (j5 (o':=q432+4) runUnderlying73 rfl sizeOf71 rfl rfl rfl) ⟨_,rfl,rfl⟩ rfl rfl fun a s=>?_
  refine y8 s (K5 (j:=4) (d.ownAt 2 rfl) rfl isAgg71 h434 rfl) ⟨_,rfl,rfl⟩ rfl rfl fun a s=>?_
  refine rn0 3 s rfl fun a s=>?_
  refine wpList_nil ?_
  obtain rfl:=oi u
  exact tn ⟨Sv402,wj s d [0,1,2] [1,2]⟩
 rintro a w ⟨Sv425,s,d⟩
 refine nl (cd s u rfl (fun u=>?_) fun u=>?_)
 ·refine sr (sv s (z8 (vs:=[]) a4V rfl rfl) rfl fun a s=>?_)
  refine ws a4a s d 0 rfl rfl rfl sizeOf29 fun a w s d=>?_
  refine rz0 1 s rfl fun a s=>?_
  obtain rfl:=oi u
  exact wp_ret (j3 (a1p s rfl (F7 d 0 rfl rfl isAgg29 sizeOf29 rfl) (H7 rfl) (d.ret ⟨none,0,rfl,(d.envAt 0 rfl)⟩)))
 refine sk (sn 1 [1] s d rfl rfl fun a s=>?_)
 refine ws [sl (ad b347) k334 l399] s d 0 rfl rfl rfl sizeOf29 fun a w s d=>?_
 refine rz0 1 s rfl fun a s=>?_
 obtain rfl:=oi u
 obtain ⟨Sv441,d⟩:=A9 (α:=Channel) d 2 rfl 1 rfl
 exact wp_ret (a1p s rfl (F7 d 0 rfl rfl isAgg29 sizeOf29 rfl) (H7 rfl) (d.ret ⟨(ad b347),k334,rfl,(d.envAt 0 rfl)⟩))
abbrev a6l (w0:World) (X:List Nat) (b2:Nat) (r:(Inventory × Dice)):(Nat→Prop)→World→Value→Prop:=fun S w v=>∃ p0_0 k0_0 pq0_0 kq0_0,v=.agg #[sl p0_0 k0_0 r.1.Channels]∧Outs X w0 S w [.box b2 (C94 r.2 pq0_0 kq0_0) 94]∧(Sq p0_0 k0_0 r.1.Channels).p S w∧(Sq pq0_0 kq0_0 r.2.L).p S w
abbrev a8B:List Value:=[.slice none ([]:List Channel).length 0]
theorem a6k {w0 S0 b2 p3 k4 d1 n6 r} (u:X9 d1 n6=some r) (hS:Dm S0 w0) (hin:Ins S0 w0 [.box b2 (C94 d1 p3 k4) 94]) (h5:(Sq p3 k4 d1.L).p S0 w0):Calls Tryz.prog 12 #[pt b2,iv n6] w0 (Ret (H8 [.box b2 (C94 d1 p3 k4) 94]) w0 S0 (a6l w0 (H8 [.box b2 (C94 d1 p3 k4) 94]) b2 r)):=by
 refine enI 29 func12 rfl hS hin rfl rfl rfl fun a s d=>?_
 have d:=d.addE h5
 refine sr (wa a8B s d zeroValue29 fun b7 a w s d=>?_)
 refine nl (sr (wa a8B s d zeroValue29 fun b8 a w s d=>?_))
 refine nl (wp_seq (sn0 3 s rfl fun a s=>?_))
 obtain ⟨rv10,h9,u⟩:=bt u
 refine cR s (o6 h9 d.dom (d.ins [2] (by decide) rfl) (d.envAt 0 rfl)) (d9 call23 rfl) rfl ?_
 rintro v17 Sv14 w a h15 ⟨p11,k12,rfl,h18,h13⟩ s
 have d:=(d.callO [2] [0,1] (by decide) rfl h15 h18).addE (e:=Sq p11 k12 rv10.2.L) h13
 refine rz0 1 s rfl fun a s=>?_
 obtain ⟨e106,h232,u⟩:=bt u
 refine x9 (fun a w=>∃ p107 k108 p109 k110 Sv111,Sl 29 [(4,pt b7),(5,pt b8)] a∧Wd ⟨w0,S0,H8 [.box b2 (C94 d1 p3 k4) 94]⟩ Sv111 [.box b2 [sl p107 k108 e106.1,iv e106.2.1] 94,.box b7 a8B 29,.box b8 [sl p109 k110 e106.2.2] 29] [Sq p107 k108 e106.1,Sq none 0 ([]:List Channel),Sq p109 k110 e106.2.2] w) ?_ ?_
 ·refine wp_block ?_
  have d:=d.addE (e:=SlA (α:=Channel) none 0 0 []) M8
  refine u7 (fun sv20 a w=>∃ p74 k75 p76 k77 Sv78,Sl 29 [(0,pt b2),(4,pt b7),(5,pt b8),(6,iv sv20.2.2.2)] a∧Wd ⟨w0,S0,H8 [.box b2 (C94 d1 p3 k4) 94]⟩ Sv78 [.box b2 [sl p74 k75 sv20.1,iv sv20.2.1] 94,.box b7 a8B 29,.box b8 [sl p76 k77 sv20.2.2.1] 29] [Sq p74 k75 sv20.1,Sq none 0 ([]:List Channel),Sq p76 k77 sv20.2.2.1] w) (rv10.2.L,rv10.2.At,([]:List Channel),rv10.1) h232 ⟨p11,k12,none,0,Sv14,wj s d [0,2,1] [1,0,0]⟩ ?_
  clear h232
  repeat clear u
  rintro sv20 a w tv104 ⟨p74,k75,p76,k77,Sv78,s,d⟩ u hd103
  refine wp_seq (sz0 2 s rfl fun a s=>?_)
  refine cd s u rfl (fun u=>?_) fun u=>?_
  ·refine sk (wp_seq (wp_block (wp_seq ?_)))
   obtain ⟨rv136,h135,u⟩:=bt u
   obtain ⟨rv145,h144,u⟩:=bt u
   refine y9 (fun a w=>∃ Sv150 b149 k142 k147 p141 p146,Sl 29 [(0,pt b2),(4,pt b7),(5,pt b8),(6,iv sv20.2.2.2),(7,pt b149),(8,iv rv145.2)] a∧Wd ⟨w0,S0,H8 [.box b2 (C94 d1 p3 k4) 94]⟩ Sv150 [.box b2 (C94 rv136.2 p141 k142) 94,.box b7 a8B 29,.box b8 [sl p76 k77 sv20.2.2.1] 29,.box b149 [sl p146 k147 rv145.1.Channels] 29] [Sq p141 k142 rv136.2.L,Sq none 0 ([]:List Channel),Sq p76 k77 sv20.2.2.1,Sq p146 k147 rv145.1.Channels] w) ?_ ?_
   ·refine h_c [1,2] [] d rfl rfl (by kernel_rfl) rfl fun hC d=>?_
    refine gn 3 [0,1,2] [1,1] s hC rfl rfl rfl fun a s=>?_
    refine a4O (rs:=[3,8]) (by kernel_rfl) rfl ?_
    refine U8.cons rfl ?_ ?_
    ·refine cR s (a0L h135 d.dom (d.ins [0] (by decide) rfl) (d.envAt 0 rfl) (d.envAt 2 rfl)) (d9 call13 rfl) rfl ?_
     rintro v154 Sv151 w a h152 ⟨p137,k138,c140,p141,k142,rfl,h155,h139,h143⟩ s
     have d:=((d.callO [0] [1,2] (by decide) rfl h152 h155).addE (e:=j6 c140 rv136.1.Epoch.Response.Stages) h139).addE (e:=Sq p141 k142 rv136.2.L) h143
     refine h_n [2,3] [] d rfl rfl fun hC=>?_
     refine a4O (rs:=[4,8]) (by kernel_rfl) rfl ?_
     refine U8.cons rfl ?_ ?_
     ·obtain ⟨Sv157,d⟩:=A9 (α:=Stage) d 0 rfl 1 rfl
      refine cR s (a0U h144 d.dom (d.envAt 5 rfl) (d.envAt 0 rfl)) (d9 call33 rfl) rfl ?_
      rintro v161 Sv158 w a h159 ⟨p146,k147,rfl,h148⟩ s
      have d:=(d.call h159).addE (e:=Sq p146 k147 rv145.1.Channels) h148
      refine h_n [1,2] [] d rfl rfl fun hC=>?_
      refine gn 3 [5,6,7] [] s hC rfl rfl rfl fun a s=>?_
      refine ho 8 rfl ?_
      refine wa a8B s d zeroValue29 fun b149 a w s d=>?_
      refine h_n [2,3] [] d rfl rfl fun hC=>?_
      refine ho 9 rfl ?_
      refine ws [sl p146 k147 rv145.1.Channels] s d 0 rfl rfl rfl sizeOf29 fun a w s d=>?_
      refine h_n [2,3] [] d rfl rfl fun hC=>?_
      refine gv s 10 rfl rfl hC (fun w hC=>M7 rfl) fun a s=>?_
      refine x8 (by kernel_rfl) ?_
      exact ⟨Sv158,b149,k142,k147,p141,p146,wj s d [1,2,3,0] [2,5,6,0]⟩
     refine U8.cons rfl ?_ ?_
     ·refine wa a8B s d zeroValue29 fun b149 a w s d=>?_
      refine h_n [3,4] [] d rfl rfl fun hC=>?_
      refine ho 4 rfl ?_
      obtain ⟨Sv164,d⟩:=A9 (α:=Stage) d 1 rfl 1 rfl
      refine cR s (a0U h144 d.dom (d.envAt 5 rfl) (d.envAt 0 rfl)) (d9 call33 rfl) rfl ?_
      rintro v168 Sv165 w a h166 ⟨p146,k147,rfl,h148⟩ s
      have d:=(d.call h166).addE (e:=Sq p146 k147 rv145.1.Channels) h148
      refine h_n [2,3] [] d rfl rfl fun hC=>?_
      refine gn 3 [5,6,7] [] s hC rfl rfl rfl fun a s=>?_
      refine ho 9 rfl ?_
      refine ws [sl p146 k147 rv145.1.Channels] s d 0 rfl rfl rfl sizeOf29 fun a w s d=>?_
      refine h_n [2,3] [] d rfl rfl fun hC=>?_
      refine gv s 10 rfl rfl hC (fun w hC=>M7 rfl) fun a s=>?_
      refine x8 (by kernel_rfl) ?_
      exact ⟨Sv165,b149,k142,k147,p141,p146,wj s d [1,2,3,0] [2,5,6,0]⟩
     exact U8.nil
    refine U8.cons rfl ?_ ?_
    ·refine wa a8B s d zeroValue29 fun b149 a w s d=>?_
     refine h_n [2,3] [] d rfl rfl fun hC=>?_
     refine ho 3 rfl ?_
     refine cR s (a0L h135 d.dom (d.ins [1] (by decide) rfl) (d.envAt 0 rfl) (d.envAt 2 rfl)) (d9 call13 rfl) rfl ?_
     rintro v174 Sv171 w a h172 ⟨p137,k138,c140,p141,k142,rfl,h175,h139,h143⟩ s
     have d:=((d.callO [1] [0,2,3] (by decide) rfl h172 h175).addE (e:=j6 c140 rv136.1.Epoch.Response.Stages) h139).addE (e:=Sq p141 k142 rv136.2.L) h143
     refine h_n [3,4] [] d rfl rfl fun hC=>?_
     refine ho 4 rfl ?_
     obtain ⟨Sv177,d⟩:=A9 (α:=Stage) d 0 rfl 1 rfl
     refine cR s (a0U h144 d.dom (d.envAt 5 rfl) (d.envAt 0 rfl)) (d9 call33 rfl) rfl ?_
     rintro v181 Sv178 w a h179 ⟨p146,k147,rfl,h148⟩ s
     have d:=(d.call h179).addE (e:=Sq p146 k147 rv145.1.Channels) h148
     refine h_n [2,3] [] d rfl rfl fun hC=>?_
     refine gn 3 [5,6,7] [] s hC rfl rfl rfl fun a s=>?_
     refine ho 9 rfl ?_
     refine ws [sl p146 k147 rv145.1.Channels] s d 1 rfl rfl rfl sizeOf29 fun a w s d=>?_
     refine h_n [2,3] [] d rfl rfl fun hC=>?_
     refine gv s 10 rfl rfl hC (fun w hC=>M7 rfl) fun a s=>?_
     refine x8 (by kernel_rfl) ?_
     exact ⟨Sv178,b149,k142,k147,p141,p146,wj s d [0,2,3,1] [2,5,6,0]⟩
    exact U8.nil
   rintro a w ⟨Sv150,b149,k142,k147,p141,p146,s,d⟩
   refine tn (sz0 2 s rfl fun a s=>?_)
   refine x9 (fun a w=>∃ (x227:(List Channel)) (p224 k225 Sv226:_),Y3 sv20 rv136 x227=some tv104∧Sl 29 [(0,pt b2),(4,pt b7),(5,pt b8),(6,iv sv20.2.2.2)] a∧Wd ⟨w0,S0,H8 [.box b2 (C94 d1 p3 k4) 94]⟩ Sv226 [.box b2 (C94 rv136.2 p141 k142) 94,.box b7 a8B 29,.box b8 [sl p224 k225 x227] 29] [Sq p141 k142 rv136.2.L,Sq none 0 ([]:List Channel),Sq p224 k225 x227] w) ?_ ?_
   ·refine cd s u rfl (fun u=>?_) fun u=>?_
    ·refine wp_region_lit (sv s (a1a (d.ownAt 3 rfl) rfl isAgg29 sizeOf29 rfl rfl) rfl fun a s=>?_)
     refine ws [sl p146 k147 rv145.1.Channels] s d 2 rfl rfl rfl sizeOf29 fun a w s d=>?_
     exact nl ⟨rv145.1.Channels,p146,k147,Sv150,u,wj s d [0,1,2] [0,1,3]⟩
    exact sk ⟨sv20.2.2.1,p76,k77,Sv150,u,wj s d [0,1,2] [0,1,2]⟩
   rintro a w ⟨x227,p224,k225,Sv226,u,s,d⟩
   refine l9 (tn (wp_region_lit (rn0 2 s rfl fun a s=>?_)))
   obtain ⟨i229,h228,u⟩:=bt u
   refine sv s (q8 rfl h228) rfl fun a s=>?_
   exact nl ⟨_,io u,p141,k142,p224,k225,Sv226,wj s d [0,1,2] [0,1,2]⟩
  refine wp_exit (j4 (j4 (o9 ?_)))
  obtain rfl:=oi u
  have h231:=hd103 _ rfl
  subst h231
  exact tn ⟨p74,k75,p76,k77,Sv78,wj s d [0,1,2] [0,1,2]⟩
 rintro a w ⟨p107,k108,p109,k110,Sv111,s,d⟩
 refine tn (sn 1 [2] s d rfl rfl fun a s=>?_)
 refine ws [sl p109 k110 e106.2.2] s d 1 rfl rfl rfl sizeOf29 fun a w s d=>?_
 refine nl ?_
 obtain rfl:=oi u
 exact wp_ret (a6w s rfl (F7 d 1 rfl rfl isAgg29 sizeOf29 rfl) (d.ret ⟨p109,k110,p107,k108,rfl,(d.outs [0] (by decide) rfl),(d.envAt 2 rfl),(d.envAt 0 rfl)⟩))
abbrev a9v (w0:World) (X:List Nat) (r:(Inventory × Bool)):Rd:=fun S w v=>∃ p0_0 k0_0,v=.tuple #[.agg #[sl p0_0 k0_0 r.1.Channels],.bool r.2]∧(Sq p0_0 k0_0 r.1.Channels).p S w
abbrev b0i:List Value:=[.slice none ([]:List Channel).length 0]
theorem a4i {w0 S0 p2 k3 p4 k5 h1 n8 r} (u:a1L h1 n8=some r) (hS:Dm S0 w0) (h6:(Sq p2 k3 h1.Base.Channels).p S0 w0) (h7:(Sq p4 k5 h1.Changes).p S0 w0):Ck Tryz.prog 69 #[V65 h1 p2 k3 p4 k5,iv n8] w0 S0 [] a9v r:=by
 refine en 33 func69 rfl hS rfl rfl rfl fun a s d=>?_
 have d:=(d.addE h6).addE h7
 refine sr (wb (C65 h1 p2 k3 p4 k5) s d rfl fun b9 a w s d=>?_)
 refine wa b0i s d zeroValue29 fun b10 a w s d=>?_
 refine rz0 1 s rfl fun a s=>?_
 refine sn 2 [1] s d rfl rfl fun a s=>?_
 obtain ⟨rv12,h11,u⟩:=bt u
 refine cR s (a4v h11 d.dom (d.envAt 1 rfl)) (d9 call73 rfl) rfl ?_
 rintro v20 Sv17 w a h18 ⟨p13,k14,c16,rfl,h21,h15⟩ s
 have d:=(d.callN h18 h21).addE (e:=j6 c16 rv12.Channels) h15
 refine wa b0i s d zeroValue29 fun b23 a w s d=>?_
 refine ws [sl p13 k14 rv12.Channels] s d 0 rfl rfl rfl sizeOf29 fun a w s d=>?_
 refine nl (wp_seq (sz0 1 s rfl fun a s=>?_))
 refine wp_block ?_
 obtain ⟨Sv211,d⟩:=A9 (α:=Channel) d 1 rfl 0 rfl
 have d:=d.addE (e:=SlA (α:=Channel) none 0 0 []) M8
 refine u7 (fun sv118 a w=>∃ p178 k179 Sv180,Sl 33 [(1,iv n8),(2,pt b9),(4,pt b10),(6,pt b23),(7,iv sv118.2)] a∧Wd ⟨w0,S0,[]⟩ Sv180 [.box b9 (C65 h1 p2 k3 p4 k5) 65,.box b10 b0i 29,.box b23 [sl p178 k179 sv118.1] 29] [Sq p2 k3 h1.Base.Channels,Sq p4 k5 h1.Changes,Sq none 0 ([]:List Channel),Sq p178 k179 sv118.1] w) (rv12.Channels,0) u ⟨p13,k14,Sv211,wj s d [2,1,0] [4,3,0,1]⟩ ?_
 repeat clear u
 rintro sv118 a w tv210 ⟨p178,k179,Sv180,s,d⟩ u hd209
 refine wp_seq (sz0 3 s rfl fun a s=>?_)
 refine cd s u rfl (fun u=>?_) fun u=>?_
 ·refine sk (wp_seq (wp_block (wp_seq ?_)))
  obtain ⟨x243,h241,u⟩:=bt u
  obtain ⟨b249,o250,q247,c248,h251,h244,h245,h246,h242⟩:=d.elemV 1 rfl h241
  have hsv252:=s
  have hwv253:=d
  subst h251
  have s:=hsv252
  have d:=hwv253
  obtain ⟨_,_,_,_,_,_,_,_,_,_,_,_,_,_,rfl,rfl,rfl,rfl,rfl,rfl,rfl,rfl,rfl,rfl,rfl,rfl,rfl,rfl,⟨p254,n255,k256,rfl,h257⟩⟩:=h242
  obtain rfl:=h257.1
  have d:=(d.addE (e:=SlA p254 _ k256 x243.Epoch.Response.Stages) h257).addE h246
  obtain ⟨rv259,h258,u⟩:=bt u
  refine y9 (fun a w=>∃ Sv264 b263 k261 p260,Sl 33 [(1,iv n8),(2,pt b9),(4,pt b10),(6,pt b23),(7,iv sv118.2),(8,pt b263),(9,iv rv259.2)] a∧Wd ⟨w0,S0,[]⟩ Sv264 [.box b9 (C65 h1 p2 k3 (some ⟨b249,o250,none⟩) k5) 65,.box b10 b0i 29,.box b23 [sl p178 k179 sv118.1] 29,.box b263 [sl p260 k261 rv259.1.Channels] 29] [Sq p2 k3 h1.Base.Channels,Sq (some ⟨b249,o250,none⟩) k5 h1.Changes,Sq none 0 ([]:List Channel),Sq p178 k179 sv118.1,Sq p260 k261 rv259.1.Channels] w) ?_ ?_
  ·refine h_c [0,1,2] [0] d rfl rfl (by kernel_rfl) rfl fun hC d=>?_
   refine gn 4 [0,1,2,3] [2,0] s hC rfl rfl rfl fun a s=>?_
   refine gx s 4 rfl trivial rfl hC runUnderlying63 sizeOf43 rfl rfl h244 h245 fun a s=>?_
   refine gv s 5 rfl rfl hC (fun w hC=>D9 (j:=0) (hC.ceAt 0 rfl) rfl isAgg43 sizeOf43 rfl rfl) fun a s=>?_
   refine a4O (rs:=[6,10]) (by kernel_rfl) rfl ?_
   refine U8.cons rfl ?_ ?_
   ·refine cR s (a0U h258 d.dom (d.envAt 5 rfl) (d.envAt 1 rfl)) (d9 call33 rfl) rfl ?_
    rintro v268 Sv265 w a h266 ⟨p260,k261,rfl,h262⟩ s
    have d:=(d.call h266).addE (e:=Sq p260 k261 rv259.1.Channels) h262
    refine h_n [0,1,2] [1] d rfl rfl fun hC=>?_
    refine gn 3 [7,8,9] [] s hC rfl rfl rfl fun a s=>?_
    refine ho 10 rfl ?_
    refine wa b0i s d zeroValue29 fun b263 a w s d=>?_
    refine h_n [1,2,3] [1] d rfl rfl fun hC=>?_
    refine ho 11 rfl ?_
    refine ws [sl p260 k261 rv259.1.Channels] s d 0 rfl rfl rfl sizeOf29 fun a w s d=>?_
    refine h_n [1,2,3] [1] d rfl rfl fun hC=>?_
    refine gv s 12 rfl rfl hC (fun w hC=>M7 rfl) fun a s=>?_
    refine x8 (by kernel_rfl) ?_
    exact ⟨Sv265,b263,k261,p260,wj s d [1,2,3,0] [3,4,5,6,0]⟩
   refine U8.cons rfl ?_ ?_
   ·refine wa b0i s d zeroValue29 fun b263 a w s d=>?_
    refine h_n [1,2,3] [0] d rfl rfl fun hC=>?_
    refine ho 6 rfl ?_
    refine cR s (a0U h258 d.dom (d.envAt 5 rfl) (d.envAt 1 rfl)) (d9 call33 rfl) rfl ?_
    rintro v274 Sv271 w a h272 ⟨p260,k261,rfl,h262⟩ s
    have d:=(d.call h272).addE (e:=Sq p260 k261 rv259.1.Channels) h262
    refine h_n [1,2,3] [1] d rfl rfl fun hC=>?_
    refine gn 3 [7,8,9] [] s hC rfl rfl rfl fun a s=>?_
    refine ho 11 rfl ?_
    refine ws [sl p260 k261 rv259.1.Channels] s d 0 rfl rfl rfl sizeOf29 fun a w s d=>?_
    refine h_n [1,2,3] [1] d rfl rfl fun hC=>?_
    refine gv s 12 rfl rfl hC (fun w hC=>M7 rfl) fun a s=>?_
    refine x8 (by kernel_rfl) ?_
    exact ⟨Sv271,b263,k261,p260,wj s d [1,2,3,0] [3,4,5,6,0]⟩
   exact U8.nil
  rintro a w ⟨Sv264,b263,k261,p260,s,d⟩
  refine tn (wp_seq (sz0 2 s rfl fun a s=>?_))
  refine cd s u rfl (fun u=>?_) fun u=>?_
  ·refine sr (sv s (z8 (vs:=[]) a4V rfl rfl) rfl fun a s=>?_)
   refine ws b0i s d 1 rfl rfl rfl sizeOf29 fun a w s d=>?_
   refine rz0 1 s rfl fun a s=>?_
   obtain rfl:=oi u
   have h297:=hd209 _ rfl
   subst h297
   exact wp_ret (j3 (r9 (j3 (j3 (r9 (j3 (a1p s rfl (F7 d 1 rfl rfl isAgg29 sizeOf29 rfl) (H7 rfl) (d.ret ⟨none,0,rfl,(d.envAt 2 rfl)⟩))))))))
  refine sk (wp_region_lit (sv s (a1a (d.ownAt 3 rfl) rfl isAgg29 sizeOf29 rfl rfl) rfl fun a s=>?_))
  refine ws [sl p260 k261 rv259.1.Channels] s d 2 rfl rfl rfl sizeOf29 fun a w s d=>?_
  refine wpList_nil ?_
  refine l9 (tn (wp_region_lit (rn0 2 s rfl fun a s=>?_)))
  obtain ⟨i299,h298,u⟩:=bt u
  refine sv s (q8 rfl h298) rfl fun a s=>?_
  exact nl ⟨_,io u,p260,k261,Sv264,wj s d [0,1,2] [0,1,2,4]⟩
 obtain ⟨rv300,u,h301⟩:=Y7 u
 have h301:=(hd209 _ h301.symm).symm
 subst h301
 refine wp_exit (j4 (j4 (o9 (tn (sn 1 [2] s d rfl rfl fun a s=>?_)))))
 refine ws [sl p178 k179 sv118.1] s d 1 rfl rfl rfl sizeOf29 fun a w s d=>?_
 refine rz0 1 s rfl fun a s=>?_
 obtain rfl:=oi u
 exact wp_ret (a1p s rfl (F7 d 1 rfl rfl isAgg29 sizeOf29 rfl) (H7 rfl) (d.ret ⟨p178,k179,rfl,(d.envAt 3 rfl)⟩))
theorem a7f {w0 S0 p2 k3 p4 k5 h1 r} (u:a4D h1=some r) (hS:Dm S0 w0) (h6:(Sq p2 k3 h1.Base.Channels).p S0 w0) (h7:(Sq p4 k5 h1.Changes).p S0 w0):Ck Tryz.prog 37 #[V65 h1 p2 k3 p4 k5] w0 S0 [] l7 r:=by
 refine en 24 func37 rfl hS rfl rfl rfl fun a s d=>?_
 have d:=(d.addE h6).addE h7
 refine sr (wb (C65 h1 p2 k3 p4 k5) s d rfl fun b8 a w s d=>?_)
 refine rz0 1 s rfl fun a s=>?_
 refine wp_seq (sn 2 [0] s d rfl rfl fun a s=>?_)
 obtain ⟨rv10,h9,u⟩:=bt u
 refine cV s d (a7c h9 d.bdom (d.bE 1 rfl)) (d9 call18 rfl) rfl fun a w s d=>?_
 refine rn0 2 s rfl fun a s=>?_
 refine rO 5 9 [0] s d rfl rfl rfl rfl rfl fun a s=>?_
 refine nl (cd s u rfl (fun u=>?_) fun u=>?_)
 ·refine sz0 1 s rfl fun a s=>?_
  obtain rfl:=oi u
  exact wp_ret (j3 (rt s rfl (d.ret rfl)))
 refine sk (sn 4 [0,0] s d rfl rfl fun a s=>?_)
 obtain ⟨rv21,h20,u⟩:=bt u
 refine cR s (a4i h20 d.dom (d.envAt 1 rfl) (d.envAt 0 rfl)) (d9 call69 rfl) rfl ?_
 rintro v28 Sv25 w a h26 ⟨p22,k23,rfl,h24⟩ s
 have d:=(d.call h26).addE (e:=Sq p22 k23 rv21.1.Channels) h24
 refine rn0 3 s rfl fun a s=>?_
 refine wa [.slice none ([]:List Channel).length 0] s d zeroValue29 fun b31 a w s d=>?_
 refine ws [sl p22 k23 rv21.1.Channels] s d 0 rfl rfl rfl sizeOf29 fun a w s d=>?_
 refine rz0 1 s rfl fun a s=>?_
 refine sz0 2 s rfl fun a s=>?_
 obtain rfl:=oi u
 exact q1 s rfl (d.ret rfl)
abbrev E22_0:List Value:=[.slice none ([]:List Channel).length 0]
theorem a9u {w0 S0 p2 k3 p4 k5 h1 n8 r} (u:a2I h1 n8=some r) (hS:Dm S0 w0) (h6:(Sq p2 k3 h1.Base.Channels).p S0 w0) (h7:(Sq p4 k5 h1.Changes).p S0 w0):Ck Tryz.prog 22 #[V65 h1 p2 k3 p4 k5,iv n8] w0 S0 [] a7e r:=by
 refine en 26 func22 rfl hS rfl rfl rfl fun a s d=>?_
 have d:=(d.addE h6).addE h7
 refine sr (wb (C65 h1 p2 k3 p4 k5) s d rfl fun b9 a w s d=>?_)
 refine wa E22_0 s d zeroValue29 fun b10 a w s d=>?_
 refine rz0 1 s rfl fun a s=>?_
 refine wp_seq (sn 1 [1] s d rfl rfl fun a s=>?_)
 obtain ⟨rv12,h11,u⟩:=bt u
 refine cV s d (a7f h11 d.bdom (d.bE 1 rfl) (d.bE 0 rfl)) (d9 call37 rfl) rfl fun a w s d=>?_
 refine rz0 1 s rfl fun a s=>?_
 refine cd s u rfl (fun u=>?_) fun u=>?_
 ·refine sr (sv s (z8 (vs:=[]) a4V rfl rfl) rfl fun a s=>?_)
  refine ws E22_0 s d 0 rfl rfl rfl sizeOf29 fun a w s d=>?_
  refine rz0 1 s rfl fun a s=>?_
  obtain rfl:=oi u
  have d:=d.addE (e:=SlA (α:=Channel) none 0 0 []) M8
  exact wp_ret (j3 (a1p s rfl (F7 d 0 rfl rfl isAgg29 sizeOf29 rfl) (H7 rfl) (d.ret ⟨none,0,rfl,(d.envAt 0 rfl)⟩)))
 refine sk (wp_seq (sn 4 [1] s d rfl rfl fun a s=>?_))
 obtain ⟨rv22,h21,u⟩:=bt u
 refine cV s d (M5 h21 d.bdom) (d9 call64 rfl) rfl fun a w s d=>?_
 refine rz0 1 s rfl fun a s=>?_
 refine cd s u rfl (fun u=>?_) fun u=>?_
 ·refine sr (sv s (z8 (vs:=[]) a4V rfl rfl) rfl fun a s=>?_)
  refine ws E22_0 s d 0 rfl rfl rfl sizeOf29 fun a w s d=>?_
  refine rz0 1 s rfl fun a s=>?_
  obtain rfl:=oi u
  have d:=d.addE (e:=SlA (α:=Channel) none 0 0 []) M8
  exact wp_ret (j3 (a1p s rfl (F7 d 0 rfl rfl isAgg29 sizeOf29 rfl) (H7 rfl) (d.ret ⟨none,0,rfl,(d.envAt 0 rfl)⟩)))
 refine sk (sn 2 [1] s d rfl rfl fun a s=>?_)
 obtain ⟨rv32,h31,u⟩:=bt u
 refine cR s (a4i h31 d.dom (d.envAt 1 rfl) (d.envAt 0 rfl)) (d9 call69 rfl) rfl ?_
 rintro v39 Sv36 w a h37 ⟨p33,k34,rfl,h35⟩ s
 have d:=(d.call h37).addE (e:=Sq p33 k34 rv32.1.Channels) h35
 refine rn0 3 s rfl fun a s=>?_
 refine wa E22_0 s d zeroValue29 fun b42 a w s d=>?_
 refine ws [sl p33 k34 rv32.1.Channels] s d 0 rfl rfl rfl sizeOf29 fun a w s d=>?_
 refine rz0 1 s rfl fun a s=>?_
 refine sn 1 [0] s d rfl rfl fun a s=>?_
 refine ws [sl p33 k34 rv32.1.Channels] s d 1 rfl rfl rfl sizeOf29 fun a w s d=>?_
 refine rz0 1 s rfl fun a s=>?_
 obtain rfl:=oi u
 exact wp_ret (a1p s rfl (F7 d 1 rfl rfl isAgg29 sizeOf29 rfl) (H7 rfl) (d.ret ⟨p33,k34,rfl,(d.envAt 0 rfl)⟩))
abbrev a9T (w0:World) (X:List Nat) (r:(History × Int)):Rd:=fun S w v=>∃ p0_0 k0_0 c0_0 p0_1 k0_1 c0_1,v=.tuple #[V65 r.1 p0_0 k0_0 p0_1 k0_1,iv r.2]∧Outs X w0 S w [.row p0_0 r.1.Base.Channels.length k0_0 c0_0 73 5,.row p0_1 r.1.Changes.length k0_1 c0_1 43 14]∧(j6 c0_0 r.1.Base.Channels).p S w∧(j6 c0_1 r.1.Changes).p S w
theorem a4J {w0 S0 p2 k3 p4 k5 p9 k10 h1 c8 r} (u:a1m h1 c8=some r) (hS:Dm S0 w0) (h6:(Sq p2 k3 h1.Base.Channels).p S0 w0) (h7:(Sq p4 k5 h1.Changes).p S0 w0) (h11:(Sq p9 k10 c8.Epoch.Response.Stages).p S0 w0):Ck Tryz.prog 41 #[V65 h1 p2 k3 p4 k5,V43 c8 p9 k10] w0 S0 [] a9T r:=by
 refine en 51 func41 rfl hS rfl rfl rfl fun a s d=>?_
 have d:=((d.addE h6).addE h7).addE h11
 refine sr (wb (C65 h1 p2 k3 p4 k5) s d rfl fun b12 a w s d=>?_)
 refine wb (C43 c8 p9 k10) s d rfl fun b13 a w s d=>?_
 refine wa Z21 s d zeroValue65 fun b14 a w s d=>?_
 refine rz0 1 s rfl fun a s=>?_
 refine wp_seq (sn 1 [2] s d rfl rfl fun a s=>?_)
 obtain ⟨rv16,h15,u⟩:=bt u
 refine cV s d (a7f h15 d.bdom (d.bE 2 rfl) (d.bE 1 rfl)) (d9 call37 rfl) rfl fun a w s d=>?_
 refine rz0 1 s rfl fun a s=>?_
 refine cd s u rfl (fun u=>?_) fun u=>?_
 ·refine sr (sv s (z8 (vs:=[]) b0h rfl rfl) rfl fun a s=>?_)
  refine ws Z21 s d 0 rfl rfl rfl sizeOf65 fun a w s d=>?_
  refine rz0 1 s rfl fun a s=>?_
  obtain rfl:=oi u
  have d:=(d.nilRow Channel 73).nilRow Change 43
  exact wp_ret (j3 (a1p s rfl (F7 d 2 rfl rfl isAgg65 sizeOf65 rfl) (H7 rfl) (d.ret ⟨none,0,[],none,0,[],rfl,(d.outs [1,0] (by decide) rfl),(d.envAt 1 rfl),(d.envAt 0 rfl)⟩)))
 refine sk (wp_seq (sz 4 [2] s d rfl rfl fun a s=>?_))
 refine cd s u rfl (fun u=>?_) fun u=>?_
 ·refine sr (sv s (z8 (vs:=[]) b0h rfl rfl) rfl fun a s=>?_)
  refine ws Z21 s d 0 rfl rfl rfl sizeOf65 fun a w s d=>?_
  refine rz0 1 s rfl fun a s=>?_
  obtain rfl:=oi u
  have d:=(d.nilRow Channel 73).nilRow Change 43
  exact wp_ret (j3 (a1p s rfl (F7 d 2 rfl rfl isAgg65 sizeOf65 rfl) (H7 rfl) (d.ret ⟨none,0,[],none,0,[],rfl,(d.outs [1,0] (by decide) rfl),(d.envAt 1 rfl),(d.envAt 0 rfl)⟩)))
 refine sk (sn 4 [2,2] s d rfl rfl fun a s=>?_)
 obtain ⟨rv28,h27,u⟩:=bt u
 refine cR s (a4i h27 d.dom (d.envAt 2 rfl) (d.envAt 1 rfl)) (d9 call69 rfl) rfl ?_
 rintro v35 Sv32 w a h33 ⟨p29,k30,rfl,h31⟩ s
 have d:=(d.call h33).addE (e:=Sq p29 k30 rv28.1.Channels) h31
 refine rn0 3 s rfl fun a s=>?_
 refine wa [.slice none ([]:List Channel).length 0] s d zeroValue29 fun b38 a w s d=>?_
 refine ws [sl p29 k30 rv28.1.Channels] s d 0 rfl rfl rfl sizeOf29 fun a w s d=>?_
 refine rz0 1 s rfl fun a s=>?_
 refine wp_seq (sn 2 [0,2] s d rfl rfl fun a s=>?_)
 obtain ⟨rv40,h39,u⟩:=bt u
 refine cR s (a0U h39 d.dom (d.envAt 0 rfl) (d.envAt 1 rfl)) (d9 call33 rfl) rfl ?_
 rintro v47 Sv44 w a h45 ⟨p41,k42,rfl,h43⟩ s
 have d:=(d.call h45).addE (e:=Sq p41 k42 rv40.1.Channels) h43
 refine rn0 3 s rfl fun a s=>?_
 refine wa [.slice none ([]:List Channel).length 0] s d zeroValue29 fun b50 a w s d=>?_
 refine ws [sl p41 k42 rv40.1.Channels] s d 0 rfl rfl rfl sizeOf29 fun a w s d=>?_
 refine rz0 1 s rfl fun a s=>?_
 refine sz0 2 s rfl fun a s=>?_
 refine cd s u rfl (fun u=>?_) fun u=>?_
 ·refine sr (sv s (z8 (vs:=[]) b0h rfl rfl) rfl fun a s=>?_)
  refine mv s rfl rfl fun a s=>?_
  refine ws Z21 s d 2 rfl rfl rfl sizeOf65 fun a w s d=>?_
  refine rz0 1 s rfl fun a s=>?_
  obtain rfl:=oi u
  have d:=(d.nilRow Channel 73).nilRow Change 43
  exact wp_ret (j3 (a1p s rfl (F7 d 4 rfl rfl isAgg65 sizeOf65 rfl) (H7 rfl) (d.ret ⟨none,0,[],none,0,[],rfl,(d.outs [1,0] (by decide) rfl),(d.envAt 1 rfl),(d.envAt 0 rfl)⟩)))
 refine sk (sn 2 [3] s d rfl rfl fun a s=>?_)
 obtain ⟨rv54,h53,u⟩:=bt u
 refine cR s (Y8 h53 d.dom (d.envAt 2 rfl)) (d9 call45 rfl) rfl ?_
 rintro v62 Sv59 w a h60 ⟨p55,k56,c58,rfl,h63,h57⟩ s
 have d:=(d.callN h60 h63).addE (e:=j6 c58 rv54.Response.Stages) h57
 refine sv s (j5 (o':=6) runUnderlying43 rfl sizeOf41 rfl rfl rfl) rfl fun a s=>?_
 refine ws (C43 ⟨c8.Kind,c8.Source,c8.From,rv54⟩ p55 k56) s d 4 rfl rfl rfl sizeOf41 fun a w s d=>?_
 refine nl (wp_seq ?_)
 obtain ⟨rv66,h65,u⟩:=bt u
 obtain ⟨l72,h71,u⟩:=bt u
 obtain ⟨l79,h78,u⟩:=bt u
 refine y9 (fun a w=>∃ Sv83 c70 c82 k68 k81 p67 p80,Sl 51 [(4,pt b14),(5,iv 0)] a∧Wd ⟨w0,S0,[]⟩ Sv83 [.box b14 [sl p67 k68 rv66.Channels,sl p80 k81 l79] 65,.row p67 rv66.Channels.length k68 c70 73 5,.row p80 l79.length k81 c82 43 14] [j6 c70 rv66.Channels,j6 c82 l79] w) ?_ ?_
 ·refine h_c [1,2,4,5] [] d rfl rfl (by kernel_rfl) rfl fun hC d=>?_
  refine gn 5 [0,1,3,4,6] [3,3,2] s hC rfl rfl rfl fun a s=>?_
  refine a4O (rs:=[2,7]) (by kernel_rfl) rfl ?_
  refine U8.cons rfl ?_ ?_
  ·refine cR s (a4v h65 d.dom (d.envAt 5 rfl)) (d9 call73 rfl) rfl ?_
   rintro v87 Sv84 w a h85 ⟨p67,k68,c70,rfl,h88,h69⟩ s
   have d:=(d.callN h85 h88).addE (e:=j6 c70 rv66.Channels) h69
   refine h_n [2,3,5,6] [] d rfl rfl fun hC=>?_
   refine h_d [2,3,5,6,0] [] [0,1,2,3] [] d rfl rfl rfl rfl fun hC=>?_
   refine a4O (rs:=[5,7]) (by kernel_rfl) rfl ?_
   refine U8.cons rfl ?_ ?_
   ·have d:=d.nilRow Change 43
    refine P9 (α:=Change) s d El63 0 rfl rfl rfl 0 rfl 6 rfl h71 rfl trivial ?_
    intro p73 k74 c75 a w s d
    refine h_n [3,4,6,7,1] [] d rfl rfl fun hC=>?_
    refine ho 7 rfl ?_
    obtain ⟨Sv90,d⟩:=A9 (α:=Stage) d 2 rfl 3 rfl
    refine y7 (α:=Change) (vs:=[V43 ⟨c8.Kind,c8.Source,c8.From,rv54⟩ p55 k56]) (cs:=(C43 ⟨c8.Kind,c8.Source,c8.From,rv54⟩ p55 k56)) (xs:=([(⟨c8.Kind,c8.Source,c8.From,rv54⟩:Change)]:List Change)) s d El63 rfl rfl rfl rfl rfl rfl ⟨⟨_,_,_,_,_,_,_,_,_,_,_,_,_,_,rfl,rfl,rfl,rfl,rfl,rfl,rfl,rfl,rfl,rfl,rfl,rfl,rfl,rfl,⟨_,_,_,rfl,d.envAt 0 rfl⟩⟩,rfl⟩ rfl trivial rfl fun b77 a w s d=>?_
    refine h_n [3,4,6,7,2] [] d rfl rfl fun hC=>?_
    refine h_d [3,4,6,7,2,0] [] [0,1,2,3,4] [] d rfl rfl rfl rfl fun hC=>?_
    refine ho 8 rfl ?_
    refine I4 (α:=Change) s d El63 1 rfl rfl rfl 2 rfl 0 rfl 0 rfl h78 rfl trivial ?_
    intro p80 k81 c82 a w s d
    refine h_n [3,4,6,7,2,0] [] d rfl rfl fun hC=>?_
    refine gv s 9 rfl rfl hC (fun w hC=>z8 (vs:=[(0,.agg #[sl p67 k68 rv66.Channels]),(1,sl p80 k81 l79)]) b0h rfl rfl) fun a s=>?_
    refine ho 10 rfl ?_
    refine ws [sl p67 k68 rv66.Channels,sl p80 k81 l79] s d 5 rfl rfl rfl sizeOf65 fun a w s d=>?_
    refine h_n [3,4,6,7,2,0] [] d rfl rfl fun hC=>?_
    refine gv s 11 rfl rfl hC (fun w hC=>M7 rfl) fun a s=>?_
    refine x8 (by kernel_rfl) ?_
    exact ⟨Sv90,c70,c82,k68,k81,p67,p80,wj s d [5,2,1] [5,0]⟩
   refine U8.cons rfl ?_ ?_
   ·obtain ⟨Sv91,d⟩:=A9 (α:=Stage) d 1 rfl 1 rfl
    refine y7 (α:=Change) (vs:=[V43 ⟨c8.Kind,c8.Source,c8.From,rv54⟩ p55 k56]) (cs:=(C43 ⟨c8.Kind,c8.Source,c8.From,rv54⟩ p55 k56)) (xs:=([(⟨c8.Kind,c8.Source,c8.From,rv54⟩:Change)]:List Change)) s d El63 rfl rfl rfl rfl rfl rfl ⟨⟨_,_,_,_,_,_,_,_,_,_,_,_,_,_,rfl,rfl,rfl,rfl,rfl,rfl,rfl,rfl,rfl,rfl,rfl,rfl,rfl,rfl,⟨_,_,_,rfl,d.envAt 0 rfl⟩⟩,rfl⟩ rfl trivial rfl fun b77 a w s d=>?_
    refine h_n [2,3,5,6,1] [] d rfl rfl fun hC=>?_
    refine h_d [2,3,5,6,1,0] [] [0,1,2,3,4] [] d rfl rfl rfl rfl fun hC=>?_
    refine ho 5 rfl ?_
    have d:=d.nilRow Change 43
    refine P9 (α:=Change) s d El63 0 rfl rfl rfl 0 rfl 8 rfl h71 rfl trivial ?_
    intro p73 k74 c75 a w s d
    refine h_n [3,4,6,7,2,1] [] d rfl rfl fun hC=>?_
    refine ho 8 rfl ?_
    refine I4 (α:=Change) s d El63 0 rfl rfl rfl 0 rfl 1 rfl 2 rfl h78 rfl trivial ?_
    intro p80 k81 c82 a w s d
    refine h_n [3,4,6,7,2,1] [] d rfl rfl fun hC=>?_
    refine gv s 9 rfl rfl hC (fun w hC=>z8 (vs:=[(0,.agg #[sl p67 k68 rv66.Channels]),(1,sl p80 k81 l79)]) b0h rfl rfl) fun a s=>?_
    refine ho 10 rfl ?_
    refine ws [sl p67 k68 rv66.Channels,sl p80 k81 l79] s d 5 rfl rfl rfl sizeOf65 fun a w s d=>?_
    refine h_n [3,4,6,7,2,1] [] d rfl rfl fun hC=>?_
    refine gv s 11 rfl rfl hC (fun w hC=>M7 rfl) fun a s=>?_
    refine x8 (by kernel_rfl) ?_
    exact ⟨Sv91,c70,c82,k68,k81,p67,p80,wj s d [5,2,0] [5,0]⟩
   exact U8.nil
  refine U8.cons rfl ?_ ?_
  ·obtain ⟨Sv92,d⟩:=A9 (α:=Stage) d 0 rfl 0 rfl
   refine y7 (α:=Change) (vs:=[V43 ⟨c8.Kind,c8.Source,c8.From,rv54⟩ p55 k56]) (cs:=(C43 ⟨c8.Kind,c8.Source,c8.From,rv54⟩ p55 k56)) (xs:=([(⟨c8.Kind,c8.Source,c8.From,rv54⟩:Change)]:List Change)) s d El63 rfl rfl rfl rfl rfl rfl ⟨⟨_,_,_,_,_,_,_,_,_,_,_,_,_,_,rfl,rfl,rfl,rfl,rfl,rfl,rfl,rfl,rfl,rfl,rfl,rfl,rfl,rfl,⟨_,_,_,rfl,d.envAt 0 rfl⟩⟩,rfl⟩ rfl trivial rfl fun b77 a w s d=>?_
   refine h_n [1,2,4,5] [] d rfl rfl fun hC=>?_
   refine h_d [1,2,4,5,0] [] [0,1,2,3] [] d rfl rfl rfl rfl fun hC=>?_
   refine ho 2 rfl ?_
   refine cR s (a4v h65 d.dom (d.envAt 7 rfl)) (d9 call73 rfl) rfl ?_
   rintro v96 Sv93 w a h94 ⟨p67,k68,c70,rfl,h97,h69⟩ s
   have d:=(d.callN h94 h97).addE (e:=j6 c70 rv66.Channels) h69
   refine h_n [2,3,5,6,1] [] d rfl rfl fun hC=>?_
   refine h_d [2,3,5,6,1,0] [] [0,1,2,3,4] [] d rfl rfl rfl rfl fun hC=>?_
   refine ho 5 rfl ?_
   have d:=d.nilRow Change 43
   refine P9 (α:=Change) s d El63 0 rfl rfl rfl 0 rfl 8 rfl h71 rfl trivial ?_
   intro p73 k74 c75 a w s d
   refine h_n [3,4,6,7,2,1] [] d rfl rfl fun hC=>?_
   refine ho 8 rfl ?_
   refine I4 (α:=Change) s d El63 0 rfl rfl rfl 0 rfl 2 rfl 3 rfl h78 rfl trivial ?_
   intro p80 k81 c82 a w s d
   refine h_n [3,4,6,7,2,1] [] d rfl rfl fun hC=>?_
   refine gv s 9 rfl rfl hC (fun w hC=>z8 (vs:=[(0,.agg #[sl p67 k68 rv66.Channels]),(1,sl p80 k81 l79)]) b0h rfl rfl) fun a s=>?_
   refine ho 10 rfl ?_
   refine ws [sl p67 k68 rv66.Channels,sl p80 k81 l79] s d 5 rfl rfl rfl sizeOf65 fun a w s d=>?_
   refine h_n [3,4,6,7,2,1] [] d rfl rfl fun hC=>?_
   refine gv s 11 rfl rfl hC (fun w hC=>M7 rfl) fun a s=>?_
   refine x8 (by kernel_rfl) ?_
   exact ⟨Sv93,c70,c82,k68,k81,p67,p80,wj s d [5,1,0] [3,0]⟩
  exact U8.nil
 rintro a w ⟨Sv83,c70,c82,k68,k81,p67,p80,s,d⟩
 refine tn ?_
 obtain rfl:=oi u
 exact wp_ret (a1p s rfl (F7 d 0 rfl rfl isAgg65 sizeOf65 rfl) (H7 rfl) (d.ret ⟨p67,k68,c70,p80,k81,c82,rfl,(d.outs [1,2] (by decide) rfl),(d.envAt 0 rfl),(d.envAt 1 rfl)⟩))
abbrev a6X (w0:World) (X:List Nat) (b2:Nat) (r:(History × Dice)):(Nat→Prop)→World→Value→Prop:=fun S w v=>∃ p0_0 k0_0 p0_1 k0_1 pq0_0 kq0_0,v=V65 r.1 p0_0 k0_0 p0_1 k0_1∧Outs X w0 S w [.box b2 (C94 r.2 pq0_0 kq0_0) 94]∧(Sq p0_0 k0_0 r.1.Base.Channels).p S w∧(Sq p0_1 k0_1 r.1.Changes).p S w∧(Sq pq0_0 kq0_0 r.2.L).p S w
theorem a6W {w0 S0 b2 p3 k4 d1 n6 r} (u:a0n d1 n6=some r) (hS:Dm S0 w0) (hin:Ins S0 w0 [.box b2 (C94 d1 p3 k4) 94]) (h5:(Sq p3 k4 d1.L).p S0 w0):Calls Tryz.prog 21 #[pt b2,iv n6] w0 (Ret (H8 [.box b2 (C94 d1 p3 k4) 94]) w0 S0 (a6X w0 (H8 [.box b2 (C94 d1 p3 k4) 94]) b2 r)):=by
 refine enI 42 func21 rfl hS hin rfl rfl rfl fun a s d=>?_
 have d:=d.addE h5
 refine sr (wa Z21 s d zeroValue65 fun b7 a w s d=>?_)
 refine nl (sn0 1 s rfl fun a s=>?_)
 obtain ⟨rv9,h8,u⟩:=bt u
 refine cR s (a6k h8 d.dom (d.ins [1] (by decide) rfl) (d.envAt 0 rfl)) (d9 call12 rfl) rfl ?_
 rintro v19 Sv16 w a h17 ⟨p10,k11,p13,k14,rfl,h20,h12,h15⟩ s
 have d:=((d.callO [1] [0] (by decide) rfl h17 h20).addE (e:=Sq p10 k11 rv9.1.Channels) h12).addE (e:=Sq p13 k14 rv9.2.L) h15
 refine sv s (z8 (vs:=[(0,.agg #[sl p10 k11 rv9.1.Channels])]) b0h rfl rfl) rfl fun a s=>?_
 refine wa Z21 s d zeroValue65 fun b22 a w s d=>?_
 refine ws [sl p10 k11 rv9.1.Channels,.slice none ([]:List Change).length 0] s d 0 rfl rfl rfl sizeOf65 fun a w s d=>?_
 refine nl (wp_seq (sn0 3 s rfl fun a s=>?_))
 obtain ⟨rv24,h23,u⟩:=bt u
 refine cR s (o6 h23 d.dom (d.ins [1] (by decide) rfl) (d.envAt 0 rfl)) (d9 call23 rfl) rfl ?_
 rintro v31 Sv28 w a h29 ⟨p25,k26,rfl,h32,h27⟩ s
 have d:=(d.callO [1] [0,2] (by decide) rfl h29 h32).addE (e:=Sq p25 k26 rv24.2.L) h27
 refine rz0 1 s rfl fun a s=>?_
 obtain ⟨e184,h354,u⟩:=bt u
 refine x9 (fun a w=>∃ p185 k186 p187 k188 p189 k190 Sv191,Sl 42 [(4,pt b7),(5,pt b22)] a∧Wd ⟨w0,S0,H8 [.box b2 (C94 d1 p3 k4) 94]⟩ Sv191 [.box b2 [sl p185 k186 e184.1,iv e184.2.1] 94,.box b7 Z21 65,.box b22 [sl p187 k188 e184.2.2.1,sl p189 k190 e184.2.2.2] 65] [Sq p185 k186 e184.1,Sq none 0 ([]:List Channel),Sq none 0 ([]:List Change),Sq p187 k188 e184.2.2.1,Sq p189 k190 e184.2.2.2] w) ?_ ?_
 ·refine wp_block ?_
  have d:=(d.addE (e:=SlA (α:=Channel) none 0 0 []) M8).addE (e:=SlA (α:=Change) none 0 0 []) M8
  refine u7 (fun sv34 a w=>∃ p130 k131 p132 k133 p134 k135 Sv136,Sl 42 [(0,pt b2),(4,pt b7),(5,pt b22),(6,iv sv34.2.2.2.2)] a∧Wd ⟨w0,S0,H8 [.box b2 (C94 d1 p3 k4) 94]⟩ Sv136 [.box b2 [sl p130 k131 sv34.1,iv sv34.2.1] 94,.box b7 Z21 65,.box b22 [sl p132 k133 sv34.2.2.1,sl p134 k135 sv34.2.2.2.1] 65] [Sq p130 k131 sv34.1,Sq none 0 ([]:List Channel),Sq none 0 ([]:List Change),Sq p132 k133 sv34.2.2.1,Sq p134 k135 sv34.2.2.2.1] w) (rv24.2.L,rv24.2.At,rv9.1.Channels,([]:List Change),rv24.1) h354 ⟨p25,k26,p10,k11,none,0,Sv28,wj s d [0,2,1] [2,1,0,4,0]⟩ ?_
  clear h354
  repeat clear u
  rintro sv34 a w tv182 ⟨p130,k131,p132,k133,p134,k135,Sv136,s,d⟩ u hd181
  refine wp_seq (sz0 2 s rfl fun a s=>?_)
  refine cd s u rfl (fun u=>?_) fun u=>?_
  ·refine sk (wp_seq (wp_block (sn 4 [2,2] s d rfl rfl fun a s=>?_)))
   obtain ⟨rv236,h235,u⟩:=bt u
   refine cR s (a9u h235 d.dom (d.envAt 3 rfl) (d.envAt 4 rfl)) (d9 call22 rfl) rfl ?_
   rintro v243 Sv240 w a h241 ⟨p237,k238,rfl,h239⟩ s
   have d:=(d.call h241).addE (e:=Sq p237 k238 rv236.1.Channels) h239
   refine rn0 3 s rfl fun a s=>?_
   refine wa [.slice none ([]:List Channel).length 0] s d zeroValue29 fun b246 a w s d=>?_
   refine ws [sl p237 k238 rv236.1.Channels] s d 0 rfl rfl rfl sizeOf29 fun a w s d=>?_
   refine rz0 1 s rfl fun a s=>?_
   refine wp_seq ?_
   obtain ⟨rv248,h247,u⟩:=bt u
   obtain ⟨rv257,h256,u⟩:=bt u
   refine y9 (fun a w=>∃ Sv267 b266 c261 c265 k254 k259 k263 p253 p258 p262,Sl 42 [(0,pt b2),(4,pt b7),(5,pt b22),(6,iv sv34.2.2.2.2),(9,pt b266),(10,iv rv257.2)] a∧Wd ⟨w0,S0,H8 [.box b2 (C94 d1 p3 k4) 94]⟩ Sv267 [.box b2 (C94 rv248.2 p253 k254) 94,.box b7 Z21 65,.box b22 [sl p132 k133 sv34.2.2.1,sl p134 k135 sv34.2.2.2.1] 65,.box b266 (C65 rv257.1 p258 k259 p262 k263) 65,.row p258 rv257.1.Base.Channels.length k259 c261 73 5,.row p262 rv257.1.Changes.length k263 c265 43 14] [Sq p253 k254 rv248.2.L,Sq none 0 ([]:List Channel),Sq none 0 ([]:List Change),Sq p132 k133 sv34.2.2.1,Sq p134 k135 sv34.2.2.2.1,j6 c261 rv257.1.Base.Channels,j6 c265 rv257.1.Changes] w) ?_ ?_
   ·refine h_c [0,2,3] [] d rfl rfl (by kernel_rfl) rfl fun hC d=>?_
    refine gn 3 [0,1,2] [2,0] s hC rfl rfl rfl fun a s=>?_
    refine a4O (rs:=[3,8]) (by kernel_rfl) rfl ?_
    refine U8.cons rfl ?_ ?_
    ·refine cR s (a0L h247 d.dom (d.ins [1] (by decide) rfl) (d.envAt 1 rfl) (d.envAt 0 rfl)) (d9 call13 rfl) rfl ?_
     rintro v271 Sv268 w a h269 ⟨p249,k250,c252,p253,k254,rfl,h272,h251,h255⟩ s
     have d:=((d.callO [1] [0,2,3] (by decide) rfl h269 h272).addE (e:=j6 c252 rv248.1.Epoch.Response.Stages) h251).addE (e:=Sq p253 k254 rv248.2.L) h255
     refine h_n [2,3,4] [] d rfl rfl fun hC=>?_
     refine a4O (rs:=[4,8]) (by kernel_rfl) rfl ?_
     refine U8.cons rfl ?_ ?_
     ·obtain ⟨Sv274,d⟩:=A9 (α:=Stage) d 0 rfl 1 rfl
      refine cR s (a4J h256 d.dom (d.envAt 7 rfl) (d.envAt 8 rfl) (d.envAt 0 rfl)) (d9 call41 rfl) rfl ?_
      rintro v278 Sv275 w a h276 ⟨p258,k259,c261,p262,k263,c265,rfl,h279,h260,h264⟩ s
      have d:=((d.callN h276 h279).addE (e:=j6 c261 rv257.1.Base.Channels) h260).addE (e:=j6 c265 rv257.1.Changes) h264
      refine h_n [3,4,5] [] d rfl rfl fun hC=>?_
      refine h_d [3,4,5,0,1] [] [0,1,2] [] d rfl rfl rfl rfl fun hC=>?_
      refine gn 3 [5,6,7] [] s hC rfl rfl rfl fun a s=>?_
      refine ho 8 rfl ?_
      refine wa Z21 s d zeroValue65 fun b266 a w s d=>?_
      refine h_n [4,5,6,1,2] [] d rfl rfl fun hC=>?_
      refine ho 9 rfl ?_
      refine ws (C65 rv257.1 p258 k259 p262 k263) s d 0 rfl rfl rfl sizeOf65 fun a w s d=>?_
      refine h_n [4,5,6,1,2] [] d rfl rfl fun hC=>?_
      refine gv s 10 rfl rfl hC (fun w hC=>M7 rfl) fun a s=>?_
      refine x8 (by kernel_rfl) ?_
      exact ⟨Sv275,b266,c261,c265,k254,k259,k263,p253,p258,p262,wj s d [3,5,6,0,1,2] [3,7,8,9,10,1,0]⟩
     refine U8.cons rfl ?_ ?_
     ·refine wa Z21 s d zeroValue65 fun b266 a w s d=>?_
      refine h_n [3,4,5] [] d rfl rfl fun hC=>?_
      refine ho 4 rfl ?_
      obtain ⟨Sv281,d⟩:=A9 (α:=Stage) d 1 rfl 1 rfl
      refine cR s (a4J h256 d.dom (d.envAt 7 rfl) (d.envAt 8 rfl) (d.envAt 0 rfl)) (d9 call41 rfl) rfl ?_
      rintro v285 Sv282 w a h283 ⟨p258,k259,c261,p262,k263,c265,rfl,h286,h260,h264⟩ s
      have d:=((d.callN h283 h286).addE (e:=j6 c261 rv257.1.Base.Channels) h260).addE (e:=j6 c265 rv257.1.Changes) h264
      refine h_n [4,5,6] [] d rfl rfl fun hC=>?_
      refine h_d [4,5,6,0,1] [] [0,1,2] [] d rfl rfl rfl rfl fun hC=>?_
      refine gn 3 [5,6,7] [] s hC rfl rfl rfl fun a s=>?_
      refine ho 9 rfl ?_
      refine ws (C65 rv257.1 p258 k259 p262 k263) s d 2 rfl rfl rfl sizeOf65 fun a w s d=>?_
      refine h_n [4,5,6,0,1] [] d rfl rfl fun hC=>?_
      refine gv s 10 rfl rfl hC (fun w hC=>M7 rfl) fun a s=>?_
      refine x8 (by kernel_rfl) ?_
      exact ⟨Sv282,b266,c261,c265,k254,k259,k263,p253,p258,p262,wj s d [3,5,6,2,0,1] [3,7,8,9,10,1,0]⟩
     exact U8.nil
    refine U8.cons rfl ?_ ?_
    ·refine wa Z21 s d zeroValue65 fun b266 a w s d=>?_
     refine h_n [1,3,4] [] d rfl rfl fun hC=>?_
     refine ho 3 rfl ?_
     refine cR s (a0L h247 d.dom (d.ins [2] (by decide) rfl) (d.envAt 1 rfl) (d.envAt 0 rfl)) (d9 call13 rfl) rfl ?_
     rintro v291 Sv288 w a h289 ⟨p249,k250,c252,p253,k254,rfl,h292,h251,h255⟩ s
     have d:=((d.callO [2] [0,1,3,4] (by decide) rfl h289 h292).addE (e:=j6 c252 rv248.1.Epoch.Response.Stages) h251).addE (e:=Sq p253 k254 rv248.2.L) h255
     refine h_n [3,4,5] [] d rfl rfl fun hC=>?_
     refine ho 4 rfl ?_
     obtain ⟨Sv294,d⟩:=A9 (α:=Stage) d 0 rfl 1 rfl
     refine cR s (a4J h256 d.dom (d.envAt 7 rfl) (d.envAt 8 rfl) (d.envAt 0 rfl)) (d9 call41 rfl) rfl ?_
     rintro v298 Sv295 w a h296 ⟨p258,k259,c261,p262,k263,c265,rfl,h299,h260,h264⟩ s
     have d:=((d.callN h296 h299).addE (e:=j6 c261 rv257.1.Base.Channels) h260).addE (e:=j6 c265 rv257.1.Changes) h264
     refine h_n [4,5,6] [] d rfl rfl fun hC=>?_
     refine h_d [4,5,6,0,1] [] [0,1,2] [] d rfl rfl rfl rfl fun hC=>?_
     refine gn 3 [5,6,7] [] s hC rfl rfl rfl fun a s=>?_
     refine ho 9 rfl ?_
     refine ws (C65 rv257.1 p258 k259 p262 k263) s d 3 rfl rfl rfl sizeOf65 fun a w s d=>?_
     refine h_n [4,5,6,0,1] [] d rfl rfl fun hC=>?_
     refine gv s 10 rfl rfl hC (fun w hC=>M7 rfl) fun a s=>?_
     refine x8 (by kernel_rfl) ?_
     exact ⟨Sv295,b266,c261,c265,k254,k259,k263,p253,p258,p262,wj s d [2,5,6,3,0,1] [3,7,8,9,10,1,0]⟩
    exact U8.nil
   rintro a w ⟨Sv267,b266,c261,c265,k254,k259,k263,p253,p258,p262,s,d⟩
   refine tn (sz0 2 s rfl fun a s=>?_)
   refine x9 (fun a w=>∃ (x346:(List Channel)) (x347:(List Change)) (p341 k342 p343 k344 Sv345:_),a0o sv34 rv248 x346 x347=some tv182∧Sl 42 [(0,pt b2),(4,pt b7),(5,pt b22),(6,iv sv34.2.2.2.2)] a∧Wd ⟨w0,S0,H8 [.box b2 (C94 d1 p3 k4) 94]⟩ Sv345 [.box b2 (C94 rv248.2 p253 k254) 94,.box b7 Z21 65,.box b22 [sl p341 k342 x346,sl p343 k344 x347] 65] [Sq p253 k254 rv248.2.L,Sq none 0 ([]:List Channel),Sq none 0 ([]:List Change),Sq p341 k342 x346,Sq p343 k344 x347] w) ?_ ?_
   ·refine cd s u rfl (fun u=>?_) fun u=>?_
    ·refine wp_region_lit (sv s (a1a (d.ownAt 3 rfl) rfl isAgg65 sizeOf65 rfl rfl) rfl fun a s=>?_)
     refine ws (C65 rv257.1 p258 k259 p262 k263) s d 2 rfl rfl rfl sizeOf65 fun a w s d=>?_
     refine nl ?_
     obtain ⟨Sv351,d⟩:=A9 (α:=Channel) d 4 rfl 5 rfl
     obtain ⟨Sv352,d⟩:=A9 (α:=Change) d 4 rfl 7 rfl
     exact ⟨rv257.1.Base.Channels,rv257.1.Changes,p258,k259,p262,k263,Sv352,u,wj s d [0,1,2] [2,3,4,1,0]⟩
    exact sk ⟨sv34.2.2.1,sv34.2.2.2.1,p132,k133,p134,k135,Sv267,u,wj s d [0,1,2] [0,1,2,3,4]⟩
   rintro a w ⟨x346,x347,p341,k342,p343,k344,Sv345,u,s,d⟩
   refine l9 (tn (wp_region_lit (rn0 2 s rfl fun a s=>?_)))
   obtain ⟨i349,h348,u⟩:=bt u
   refine sv s (q8 rfl h348) rfl fun a s=>?_
   exact nl ⟨_,io u,p253,k254,p341,k342,p343,k344,Sv345,wj s d [0,1,2] [0,1,2,3,4]⟩
  refine wp_exit (j4 (j4 (o9 ?_)))
  obtain rfl:=oi u
  have h353:=hd181 _ rfl
  subst h353
  exact tn ⟨p130,k131,p132,k133,p134,k135,Sv136,wj s d [0,1,2] [0,1,2,3,4]⟩
 rintro a w ⟨p185,k186,p187,k188,p189,k190,Sv191,s,d⟩
 refine tn (sn 1 [2] s d rfl rfl fun a s=>?_)
 refine ws [sl p187 k188 e184.2.2.1,sl p189 k190 e184.2.2.2] s d 1 rfl rfl rfl sizeOf65 fun a w s d=>?_
 refine nl ?_
 obtain rfl:=oi u
 exact wp_ret (a6w s rfl (F7 d 1 rfl rfl isAgg65 sizeOf65 rfl) (d.ret ⟨p187,k188,p189,k190,p185,k186,rfl,(d.outs [0] (by decide) rfl),(d.envAt 3 rfl),(d.envAt 4 rfl),(d.envAt 0 rfl)⟩))
abbrev a9x (w0:World) (X:List Nat) (r:(Inventory × Bool)):Rd:=fun S w v=>∃ p0_0 k0_0 c0_0,v=.tuple #[.agg #[sl p0_0 k0_0 r.1.Channels],.bool r.2]∧Outs X w0 S w [.row p0_0 r.1.Channels.length k0_0 c0_0 73 5]∧(j6 c0_0 r.1.Channels).p S w
theorem a4k {w0 S0 p2 k3 p6 k7 inv1 l5 r} (u:a2K inv1 l5=some r) (hS:Dm S0 w0) (h4:(Sq p2 k3 inv1.Channels).p S0 w0) (h8:(Sq p6 k7 l5).p S0 w0):Ck Tryz.prog 71 #[.agg #[sl p2 k3 inv1.Channels],sl p6 k7 l5] w0 S0 [] a9x r:=by
 refine en 28 func71 rfl hS rfl rfl rfl fun a s d=>?_
 have d:=(d.addE h4).addE h8
 refine sr (wb [sl p2 k3 inv1.Channels] s d rfl fun b9 a w s d=>?_)
 refine wa [.slice none ([]:List Channel).length 0] s d zeroValue29 fun b10 a w s d=>?_
 refine rz0 1 s rfl fun a s=>?_
 refine sn 1 [1] s d rfl rfl fun a s=>?_
 obtain ⟨rv12,h11,u⟩:=bt u
 refine cR s (a8H h11 d.dom (d.envAt 1 rfl)) (d9 call48 rfl) rfl ?_
 rintro v20 Sv17 w a h18 ⟨p13,k14,c16,rfl,h21,h15⟩ s
 have d:=(d.callN h18 h21).addE (e:=j6 c16 rv12.Channels) h15
 refine ws [sl p13 k14 rv12.Channels] s d 2 rfl rfl rfl sizeOf29 fun a w s d=>?_
 refine nl (wp_seq (sz0 3 s rfl fun a s=>?_))
 refine wp_block ?_
 have d:=d.addE (e:=SlA (α:=Channel) none 0 0 []) M8
 refine u7 (fun sv133 a w=>∃ c204 p205 k206 Sv207,Sl 28 [(2,pt b9),(4,pt b10),(11,sl p6 k7 l5),(12,iv (l5.length:Int)),(13,iv sv133.2)] a∧Wd ⟨w0,S0,[]⟩ Sv207 [.box b9 [sl p205 k206 sv133.1] 29,.box b10 [.slice none ([]:List Channel).length 0] 29,.row p205 sv133.1.length k206 c204 73 5] [Sq p6 k7 l5,Sq none 0 ([]:List Channel),j6 c204 sv133.1] w) (rv12.Channels,0) u ⟨c16,p13,k14,Sv17,wj s d [2,1,0] [2,0,1]⟩ ?_
 repeat clear u
 rintro sv133 a w tv242 ⟨c204,p205,k206,Sv207,s,d⟩ u hd241
 refine sz0 1 s rfl fun a s=>?_
 refine wp_seq (cd s u rfl (fun u=>?_) fun u=>?_)
 ·refine sk (wp_seq (wp_block (sr ?_)))
  obtain ⟨x281,h279,u⟩:=bt u
  obtain ⟨b287,o288,q285,c286,h289,h282,h283,h284,h280⟩:=d.elemV 0 rfl h279
  have hsv290:=s
  have hwv291:=d
  subst h289
  have s:=hsv290
  have d:=hwv291
  obtain ⟨_,_,_,_,_,_,_,_,_,_,_,_,_,_,rfl,rfl,rfl,rfl,rfl,rfl,rfl,rfl,rfl,rfl,rfl,rfl,rfl,rfl,⟨p292,n293,k294,rfl,h295⟩⟩:=h280
  obtain rfl:=h295.1
  have d:=(d.addE (e:=SlA p292 _ k294 x281.Epoch.Response.Stages) h295).addE h284
  refine sv s (o8 runUnderlying63 sizeOf43 rfl rfl h282.1 h282.2 h283) rfl fun a s=>?_
  refine sv s (D9 (j:=0) (d.ceAt 0 rfl) rfl isAgg43 sizeOf43 rfl rfl) rfl fun a s=>?_
  refine wa Z18 s d zeroValue43 fun b296 a w s d=>?_
  refine ws (C43 x281 p292 k294) s d 0 rfl rfl rfl sizeOf43 fun a w s d=>?_
  refine nl (sz0 1 s rfl fun a s=>?_)
  refine sn 2 [1,0] s d rfl rfl fun a s=>?_
  obtain ⟨rv298,h297,u⟩:=bt u
  obtain ⟨Sv303,d⟩:=A9 (α:=Channel) d 3 rfl 4 rfl
  refine cR s (a3L h297 d.dom (d.envAt 0 rfl) (d.envAt 2 rfl)) (d9 call14 rfl) rfl ?_
  rintro v307 Sv304 w a h305 ⟨p299,k300,c302,rfl,h308,h301⟩ s
  have d:=(d.callN h305 h308).addE (e:=j6 c302 rv298.1.Channels) h301
  refine rn0 3 s rfl fun a s=>?_
  refine ws [sl p299 k300 rv298.1.Channels] s d 2 rfl rfl rfl sizeOf29 fun a w s d=>?_
  refine rz0 1 s rfl fun a s=>?_
  refine sz0 2 s rfl fun a s=>?_
  refine cd s u rfl (fun u=>?_) fun u=>?_
  ·refine sr (sv s (z8 (vs:=[]) a4V rfl rfl) rfl fun a s=>?_)
   refine ws [.slice none ([]:List Channel).length 0] s d 3 rfl rfl rfl sizeOf29 fun a w s d=>?_
   refine rz0 1 s rfl fun a s=>?_
   obtain rfl:=oi u
   have h312:=hd241 _ rfl
   subst h312
   have d:=d.nilRow Channel 73
   exact wp_ret (r9 (j3 (j3 (r9 (j3 (a1p s rfl (F7 d 4 rfl rfl isAgg29 sizeOf29 rfl) (H7 rfl) (d.ret ⟨none,0,[],rfl,(d.outs [0] (by decide) rfl),(d.envAt 0 rfl)⟩)))))))
  refine wp_skip (l9 (tn (wp_region_lit (rz0 2 s rfl fun a s=>?_))))
  exact ⟨_,io u,c302,p299,k300,Sv304,wj s d [2,3,0] [4,5,0]⟩
 obtain ⟨rv313,u,h314⟩:=Y7 u
 have h314:=(hd241 _ h314.symm).symm
 subst h314
 refine wp_exit (j4 (j4 (o9 (tn (sn 1 [0] s d rfl rfl fun a s=>?_)))))
 refine ws [sl p205 k206 sv133.1] s d 1 rfl rfl rfl sizeOf29 fun a w s d=>?_
 refine rz0 1 s rfl fun a s=>?_
 obtain rfl:=oi u
 exact wp_ret (a1p s rfl (F7 d 1 rfl rfl isAgg29 sizeOf29 rfl) (H7 rfl) (d.ret ⟨p205,k206,c204,rfl,(d.outs [2] (by decide) rfl),(d.envAt 2 rfl)⟩))
theorem a8X {w0 S0 p2 k3 p4 k5 h1 r} (u:a3M h1=some r) (hS:Dm S0 w0) (h6:(Sq p2 k3 h1.Base.Channels).p S0 w0) (h7:(Sq p4 k5 h1.Changes).p S0 w0):Ck Tryz.prog 32 #[V65 h1 p2 k3 p4 k5] w0 S0 [] l7 r:=by
 refine en 24 func32 rfl hS rfl rfl rfl fun a s d=>?_
 have d:=(d.addE h6).addE h7
 refine sr (wb (C65 h1 p2 k3 p4 k5) s d rfl fun b8 a w s d=>?_)
 refine rz0 1 s rfl fun a s=>?_
 refine wp_seq (sn 2 [0] s d rfl rfl fun a s=>?_)
 obtain ⟨rv10,h9,u⟩:=bt u
 refine cV s d (a1i h9 d.bdom (d.bE 1 rfl)) (d9 call55 rfl) rfl fun a w s d=>?_
 refine rn0 2 s rfl fun a s=>?_
 refine rO 5 9 [0] s d rfl rfl rfl rfl rfl fun a s=>?_
 refine nl (cd s u rfl (fun u=>?_) fun u=>?_)
 ·refine sz0 1 s rfl fun a s=>?_
  obtain rfl:=oi u
  exact wp_ret (j3 (rt s rfl (d.ret rfl)))
 refine sk (sn 4 [0,0] s d rfl rfl fun a s=>?_)
 obtain ⟨rv21,h20,u⟩:=bt u
 refine cR s (a4k h20 d.dom (d.envAt 1 rfl) (d.envAt 0 rfl)) (d9 call71 rfl) rfl ?_
 rintro v29 Sv26 w a h27 ⟨p22,k23,c25,rfl,h30,h24⟩ s
 have d:=(d.callN h27 h30).addE (e:=j6 c25 rv21.1.Channels) h24
 refine rn0 3 s rfl fun a s=>?_
 refine wa [.slice none ([]:List Channel).length 0] s d zeroValue29 fun b32 a w s d=>?_
 refine ws [sl p22 k23 rv21.1.Channels] s d 0 rfl rfl rfl sizeOf29 fun a w s d=>?_
 refine rz0 1 s rfl fun a s=>?_
 refine sz0 2 s rfl fun a s=>?_
 obtain rfl:=oi u
 exact q1 s rfl (d.ret rfl)
abbrev b1n:List Value:=[.slice none ([]:List Channel).length 0]
theorem a4P {w0 S0 p2 k3 p4 k5 h1 n8 r} (u:a0W h1 n8=some r) (hS:Dm S0 w0) (h6:(Sq p2 k3 h1.Base.Channels).p S0 w0) (h7:(Sq p4 k5 h1.Changes).p S0 w0):Ck Tryz.prog 30 #[V65 h1 p2 k3 p4 k5,iv n8] w0 S0 [] a5t r:=by
 refine en 33 func30 rfl hS rfl rfl rfl fun a s d=>?_
 have d:=(d.addE h6).addE h7
 refine sr (wb (C65 h1 p2 k3 p4 k5) s d rfl fun b9 a w s d=>?_)
 refine wa b1n s d zeroValue29 fun b10 a w s d=>?_
 refine rz0 1 s rfl fun a s=>?_
 refine wp_seq (sn 1 [1] s d rfl rfl fun a s=>?_)
 obtain ⟨rv12,h11,u⟩:=bt u
 refine cV s d (a8X h11 d.bdom (d.bE 1 rfl) (d.bE 0 rfl)) (d9 call32 rfl) rfl fun a w s d=>?_
 refine rz0 1 s rfl fun a s=>?_
 refine cd s u rfl (fun u=>?_) fun u=>?_
 ·refine sr (sv s (z8 (vs:=[]) a4V rfl rfl) rfl fun a s=>?_)
  refine ws b1n s d 0 rfl rfl rfl sizeOf29 fun a w s d=>?_
  refine rz0 1 s rfl fun a s=>?_
  obtain rfl:=oi u
  have d:=d.nilRow Channel 73
  exact wp_ret (j3 (a1p s rfl (F7 d 1 rfl rfl isAgg29 sizeOf29 rfl) (H7 rfl) (d.ret ⟨none,0,[],rfl,(d.outs [0] (by decide) rfl),(d.envAt 0 rfl)⟩)))
 refine sk (wp_seq (sn0 3 s rfl fun a s=>?_))
 refine rO 6 14 [1] s d rfl rfl rfl rfl rfl fun a s=>?_
 refine nl (cd s u rfl (fun u=>?_) fun u=>?_)
 ·refine sr (sv s (z8 (vs:=[]) a4V rfl rfl) rfl fun a s=>?_)
  refine ws b1n s d 0 rfl rfl rfl sizeOf29 fun a w s d=>?_
  refine rz0 1 s rfl fun a s=>?_
  obtain rfl:=oi u
  have d:=d.nilRow Channel 73
  exact wp_ret (j3 (a1p s rfl (F7 d 1 rfl rfl isAgg29 sizeOf29 rfl) (H7 rfl) (d.ret ⟨none,0,[],rfl,(d.outs [0] (by decide) rfl),(d.envAt 0 rfl)⟩)))
 refine sk (wp_seq ?_)
 obtain ⟨l29,h24,u⟩:=bt u
 obtain ⟨p27,k28,h25,h26⟩:=a7J (d.envAt 0 rfl) h24
 have d:=d.addE h25
 obtain ⟨rv31,h30,u⟩:=bt u
 refine y9 (fun a w=>∃ Sv37 b36 c35 k33 p32,Sl 33 [(4,pt b10),(6,pt b36)] a∧Wd ⟨w0,S0,[]⟩ Sv37 [.box b10 b1n 29,.box b36 [sl p32 k33 rv31.1.Channels] 29,.row p32 rv31.1.Channels.length k33 c35 73 5] [Sq none 0 ([]:List Channel),j6 c35 rv31.1.Channels] w) ?_ ?_
 ·refine h_c [0,1] [] d rfl rfl (by kernel_rfl) rfl fun hC d=>?_
  refine gn 5 [0,1,2,3,4] [1,1] s hC rfl rfl rfl fun a s=>?_
  refine gv s 5 rfl rfl hC (fun w hC=>R9 runUnderlying63 sizeOf43 rfl (by exact rfl) ⟨_,rfl⟩ h26) fun a s=>?_
  refine a4O (rs:=[6,10]) (by kernel_rfl) rfl ?_
  refine U8.cons rfl ?_ ?_
  ·refine cR s (a4k h30 d.dom (d.envAt 2 rfl) (d.envAt 0 rfl)) (d9 call71 rfl) rfl ?_
   rintro v41 Sv38 w a h39 ⟨p32,k33,c35,rfl,h42,h34⟩ s
   have d:=(d.callN h39 h42).addE (e:=j6 c35 rv31.1.Channels) h34
   refine h_n [1,2] [] d rfl rfl fun hC=>?_
   refine h_d [1,2,0] [] [0,1] [] d rfl rfl rfl rfl fun hC=>?_
   refine gn 3 [7,8,9] [] s hC rfl rfl rfl fun a s=>?_
   refine ho 10 rfl ?_
   refine wa b1n s d zeroValue29 fun b36 a w s d=>?_
   refine h_n [2,3,1] [] d rfl rfl fun hC=>?_
   refine ho 11 rfl ?_
   refine ws [sl p32 k33 rv31.1.Channels] s d 0 rfl rfl rfl sizeOf29 fun a w s d=>?_
   refine h_n [2,3,1] [] d rfl rfl fun hC=>?_
   refine gv s 12 rfl rfl hC (fun w hC=>M7 rfl) fun a s=>?_
   refine x8 (by kernel_rfl) ?_
   have d:=d.addE (e:=SlA (α:=Channel) none 0 0 []) M8
   exact ⟨Sv38,b36,c35,k33,p32,wj s d [2,0,1] [0,1]⟩
  refine U8.cons rfl ?_ ?_
  ·refine wa b1n s d zeroValue29 fun b36 a w s d=>?_
   refine h_n [1,2] [] d rfl rfl fun hC=>?_
   refine ho 6 rfl ?_
   refine cR s (a4k h30 d.dom (d.envAt 2 rfl) (d.envAt 0 rfl)) (d9 call71 rfl) rfl ?_
   rintro v47 Sv44 w a h45 ⟨p32,k33,c35,rfl,h48,h34⟩ s
   have d:=(d.callN h45 h48).addE (e:=j6 c35 rv31.1.Channels) h34
   refine h_n [2,3] [] d rfl rfl fun hC=>?_
   refine h_d [2,3,0] [] [0,1] [] d rfl rfl rfl rfl fun hC=>?_
   refine gn 3 [7,8,9] [] s hC rfl rfl rfl fun a s=>?_
   refine ho 11 rfl ?_
   refine ws [sl p32 k33 rv31.1.Channels] s d 1 rfl rfl rfl sizeOf29 fun a w s d=>?_
   refine h_n [2,3,0] [] d rfl rfl fun hC=>?_
   refine gv s 12 rfl rfl hC (fun w hC=>M7 rfl) fun a s=>?_
   refine x8 (by kernel_rfl) ?_
   have d:=d.addE (e:=SlA (α:=Channel) none 0 0 []) M8
   exact ⟨Sv44,b36,c35,k33,p32,wj s d [2,1,0] [0,1]⟩
  exact U8.nil
 rintro a w ⟨Sv37,b36,c35,k33,p32,s,d⟩
 refine tn (sn 1 [1] s d rfl rfl fun a s=>?_)
 refine ws [sl p32 k33 rv31.1.Channels] s d 0 rfl rfl rfl sizeOf29 fun a w s d=>?_
 refine rz0 1 s rfl fun a s=>?_
 obtain rfl:=oi u
 exact wp_ret (a1p s rfl (F7 d 0 rfl rfl isAgg29 sizeOf29 rfl) (H7 rfl) (d.ret ⟨p32,k33,c35,rfl,(d.outs [2] (by decide) rfl),(d.envAt 1 rfl)⟩))
abbrev a7P (w0:World) (X:List Nat) (r:((List Affected) × Int)):Rd:=fun S w v=>∃ p0_0 k0_0 c0_0,v=.tuple #[sl p0_0 k0_0 r.1,iv r.2]∧Outs X w0 S w [.row p0_0 r.1.length k0_0 c0_0 56 5]∧(j6 c0_0 r.1).p S w
theorem a0O {w0 S0 p2 k3 p4 k5 h1 n8 m9 r} (u:P5 h1 n8 m9=some r) (hS:Dm S0 w0) (h6:(Sq p2 k3 h1.Base.Channels).p S0 w0) (h7:(Sq p4 k5 h1.Changes).p S0 w0):Ck Tryz.prog 27 #[V65 h1 p2 k3 p4 k5,iv n8,iv m9] w0 S0 [] a7P r:=by
 refine en 32 func27 rfl hS rfl rfl rfl fun a s d=>?_
 have d:=(d.addE h6).addE h7
 refine sr (wb (C65 h1 p2 k3 p4 k5) s d rfl fun b10 a w s d=>?_)
 refine rz0 2 s rfl fun a s=>?_
 refine sn 2 [0] s d rfl rfl fun a s=>?_
 obtain ⟨rv12,h11,u⟩:=bt u
 refine cR s (a4P h11 d.dom (d.envAt 1 rfl) (d.envAt 0 rfl)) (d9 call30 rfl) rfl ?_
 rintro v20 Sv17 w a h18 ⟨p13,k14,c16,rfl,h21,h15⟩ s
 have d:=(d.callN h18 h21).addE (e:=j6 c16 rv12.1.Channels) h15
 refine rn0 3 s rfl fun a s=>?_
 refine wa [.slice none ([]:List Channel).length 0] s d zeroValue29 fun b23 a w s d=>?_
 refine ws [sl p13 k14 rv12.1.Channels] s d 0 rfl rfl rfl sizeOf29 fun a w s d=>?_
 refine rz0 1 s rfl fun a s=>?_
 refine wp_seq (sz0 2 s rfl fun a s=>?_)
 refine cd s u rfl (fun u=>?_) fun u=>?_
 ·refine sz0 3 s rfl fun a s=>?_
  obtain rfl:=oi u
  have d:=d.nilRow Affected 56
  exact wp_ret (j3 (a1p s rfl (H7 rfl) (H7 rfl) (d.ret ⟨none,0,[],rfl,(d.outs [0] (by decide) rfl),(d.envAt 0 rfl)⟩)))
 refine sk (sn 2 [2] s d rfl rfl fun a s=>?_)
 obtain ⟨rv27,h26,u⟩:=bt u
 refine cR s (a4P h26 d.dom (d.envAt 2 rfl) (d.envAt 1 rfl)) (d9 call30 rfl) rfl ?_
 rintro v35 Sv32 w a h33 ⟨p28,k29,c31,rfl,h36,h30⟩ s
 have d:=(d.callN h33 h36).addE (e:=j6 c31 rv27.1.Channels) h30
 refine rn0 3 s rfl fun a s=>?_
 refine wa [.slice none ([]:List Channel).length 0] s d zeroValue29 fun b38 a w s d=>?_
 refine ws [sl p28 k29 rv27.1.Channels] s d 0 rfl rfl rfl sizeOf29 fun a w s d=>?_
 refine rz0 1 s rfl fun a s=>?_
 refine wp_seq (sz0 2 s rfl fun a s=>?_)
 refine cd s u rfl (fun u=>?_) fun u=>?_
 ·refine sz0 3 s rfl fun a s=>?_
  obtain rfl:=oi u
  have d:=d.nilRow Affected 56
  exact wp_ret (j3 (a1p s rfl (H7 rfl) (H7 rfl) (d.ret ⟨none,0,[],rfl,(d.outs [0] (by decide) rfl),(d.envAt 0 rfl)⟩)))
 refine sk (sn 2 [2,0] s d rfl rfl fun a s=>?_)
 obtain ⟨rv42,h41,u⟩:=bt u
 obtain ⟨Sv47,d⟩:=A9 (α:=Channel) d 3 rfl 1 rfl
 obtain ⟨Sv48,d⟩:=A9 (α:=Channel) d 1 rfl 1 rfl
 refine cR s (a4E h41 d.dom (d.envAt 1 rfl) (d.envAt 0 rfl)) (d9 call15 rfl) rfl ?_
 rintro v52 Sv49 w a h50 ⟨p43,k44,c46,rfl,h53,h45⟩ s
 have d:=(d.callN h50 h53).addE (e:=j6 c46 rv42) h45
 refine rz0 2 s rfl fun a s=>?_
 obtain rfl:=oi u
 exact wp_ret (a1p s rfl (H7 rfl) (H7 rfl) (d.ret ⟨p43,k44,c46,rfl,(d.outs [0] (by decide) rfl),(d.envAt 0 rfl)⟩))
theorem a6J {w0 S0 p2 k3 p6 k7 a1 b5 r} (u:a1n a1 b5=some r) (hS:Dm S0 w0) (h4:(Sq p2 k3 a1).p S0 w0) (h8:(Sq p6 k7 b5).p S0 w0):Ck Tryz.prog 28 #[sl p2 k3 a1,sl p6 k7 b5] w0 S0 [] l7 r:=by
 refine en 42 func28 rfl hS rfl rfl rfl fun a s d=>?_
 have d:=(d.addE h4).addE h8
 refine sz0 1 s rfl fun a s=>?_
 refine wp_seq (sz0 5 s rfl fun a s=>?_)
 refine cd s u rfl (fun u=>?_) fun u=>?_
 ·refine sz0 1 s rfl fun a s=>?_
  obtain rfl:=oi u
  exact wp_ret (j3 (rt s rfl (d.ret rfl)))
 refine sk (wp_seq (sz0 1 s rfl fun a s=>?_))
 refine wp_block (u7 (fun sv214 a w=>∃ Sv348,Sl 42 [(0,sl p2 k3 a1),(1,sl p6 k7 b5),(5,iv sv214)] a∧Wd ⟨w0,S0,[]⟩ Sv348 [] [Sq p2 k3 a1,Sq p6 k7 b5] w) 0 u ⟨S0,wj s d [] [1,0]⟩ ?_)
 repeat clear u
 rintro sv214 a w tv416 ⟨Sv348,s,d⟩ u hd415
 refine wp_seq (sz0 4 s rfl fun a s=>?_)
 refine cd s u rfl (fun u=>?_) fun u=>?_
 ·refine sk (wp_seq (wp_block (wp_seq ?_)))
  obtain ⟨x486,h484,u⟩:=bt u
  obtain ⟨b492,o493,q490,c491,h494,h487,h488,h489,h485⟩:=d.elemV 0 rfl h484
  have hsv495:=s
  have hwv496:=d
  subst h494
  have s:=hsv495
  have d:=hwv496
  obtain ⟨_,_,_,_,_,rfl,rfl,rfl,rfl,rfl,⟨p497,n498,k499,rfl,h500⟩⟩:=h485
  obtain rfl:=h500.1
  have d:=(d.addE (e:=SlA p497 _ k499 x486.Spans) h500).addE h489
  obtain ⟨x503,h501,u⟩:=bt u
  obtain ⟨b509,o510,q507,c508,h511,h504,h505,h506,h502⟩:=d.elemV 3 rfl h501
  have hsv512:=s
  have hwv513:=d
  subst h511
  have s:=hsv512
  have d:=hwv513
  obtain ⟨_,_,_,_,_,rfl,rfl,rfl,rfl,rfl,⟨p514,n515,k516,rfl,h517⟩⟩:=h502
  obtain rfl:=h517.1
  have d:=(d.addE (e:=SlA p514 _ k516 x503.Spans) h517).addE h506
  obtain ⟨c544,hc544,u⟩:=bt u
  refine y9 (fun a w=>∃ Sv545,Sl 42 [(0,sl (some ⟨b492,o493,none⟩) k3 a1),(1,sl (some ⟨b509,o510,none⟩) k7 b5),(5,iv sv214),(41,.bool c544)] a∧Wd ⟨w0,S0,[]⟩ Sv545 [] [Sq (some ⟨b492,o493,none⟩) k3 a1,Sq (some ⟨b509,o510,none⟩) k7 b5] w) ?_ ?_
  ·rcases Bool.eq_false_or_eq_true (!((x486.Source.Network == x503.Source.Network) && ((x486.Source.Station == x503.Source.Station) && ((x486.Source.Location == x503.Source.Location) && ((x486.Source.Channel == x503.Source.Channel) && true))))) with h546 | h546
   ·have h547:=D5 hc544 h546
    refine h_c [] [0,2] d rfl rfl (by kernel_rfl) rfl fun hC d=>?_
    refine gn 2 [0,1] [] s hC rfl rfl rfl fun a s=>?_
    refine gx s 2 rfl trivial rfl hC runUnderlying48 sizeOf56 rfl rfl h487 h488 fun a s=>?_
    refine gv s 3 rfl rfl hC (fun w hC=>j5 (o':=q490+0) runUnderlying56 rfl sizeOf32 rfl rfl rfl) fun a s=>?_
    refine gv s 4 rfl rfl hC (fun w hC=>D9 (j:=0) (hC.ceAt 1 rfl) rfl isAgg32 sizeOf32 rfl rfl) fun a s=>?_
    refine gn 2 [5,6] [] s hC rfl rfl rfl fun a s=>?_
    refine gx s 7 rfl trivial rfl hC runUnderlying48 sizeOf56 rfl rfl h504 h505 fun a s=>?_
    refine gv s 8 rfl rfl hC (fun w hC=>j5 (o':=q507+0) runUnderlying56 rfl sizeOf32 rfl rfl rfl) fun a s=>?_
    refine gv s 9 rfl rfl hC (fun w hC=>D9 (j:=0) (hC.ceAt 0 rfl) rfl isAgg32 sizeOf32 rfl rfl) fun a s=>?_
    refine gv s 10 rfl rfl hC (fun w hC=>a7v (by kernel_rfl) rfl rfl (P6 runUnderlying32 (by kernel_rfl) (EqF.cons1 rfl isAgg9 rfl rfl (J3 runUnderlying9) (EqF.cons1 rfl isAgg9 rfl rfl (J3 runUnderlying9) (EqF.cons1 rfl isAgg9 rfl rfl (J3 runUnderlying9) (EqF.cons1 rfl isAgg9 rfl rfl (J3 runUnderlying9) EqF.nil)))))) fun a s=>?_
    refine gm s 11 rfl rfl rfl hC fun a s=>?_
    have s:=s.bT 28 rfl h546
    refine gn 12 [12,13,14,15,16,17,18,19,20,21,22,23] [] s hC rfl rfl rfl fun a s=>?_
    refine gT s 24 rfl rfl hC rfl rfl h547 fun a s=>?_
    refine x8 (by kernel_rfl) ?_
    exact ⟨Sv348,wj s d [] [4,5]⟩
   have h548:=D6 hc544 h546
   obtain ⟨x551,h549,h548⟩:=O6 h548
   obtain ⟨q555,c556,h552,h553,h554,h550⟩:=d.elemK 4 rfl h549
   obtain ⟨_,_,_,_,_,rfl,rfl,rfl,rfl,rfl,⟨p557,n558,k559,rfl,h560⟩⟩:=h550
   obtain rfl:=h560.1
   have d:=(d.addE (e:=SlA p557 _ k559 x551.Spans) h560).addE h554
   obtain ⟨x563,h561,h548⟩:=O6 h548
   obtain ⟨q567,c568,h564,h565,h566,h562⟩:=d.elemK 7 rfl h561
   obtain ⟨_,_,_,_,_,rfl,rfl,rfl,rfl,rfl,⟨p569,n570,k571,rfl,h572⟩⟩:=h562
   obtain rfl:=h572.1
   have d:=(d.addE (e:=SlA p569 _ k571 x563.Spans) h572).addE h566
   obtain ⟨rv574,h573,h548⟩:=O6 h548
   refine h_c [] [0,2,4,6] d rfl rfl (by kernel_rfl) rfl fun hC d=>?_
   refine gn 2 [0,1] [] s hC rfl rfl rfl fun a s=>?_
   refine gx s 2 rfl trivial rfl hC runUnderlying48 sizeOf56 rfl rfl h487 h488 fun a s=>?_
   refine gv s 3 rfl rfl hC (fun w hC=>j5 (o':=q490+0) runUnderlying56 rfl sizeOf32 rfl rfl rfl) fun a s=>?_
   refine gv s 4 rfl rfl hC (fun w hC=>D9 (j:=0) (hC.ceAt 3 rfl) rfl isAgg32 sizeOf32 rfl rfl) fun a s=>?_
   refine gn 2 [5,6] [] s hC rfl rfl rfl fun a s=>?_
   refine gx s 7 rfl trivial rfl hC runUnderlying48 sizeOf56 rfl rfl h504 h505 fun a s=>?_
   refine gv s 8 rfl rfl hC (fun w hC=>j5 (o':=q507+0) runUnderlying56 rfl sizeOf32 rfl rfl rfl) fun a s=>?_
   refine gv s 9 rfl rfl hC (fun w hC=>D9 (j:=0) (hC.ceAt 2 rfl) rfl isAgg32 sizeOf32 rfl rfl) fun a s=>?_
   refine gv s 10 rfl rfl hC (fun w hC=>a7v (by kernel_rfl) rfl rfl (P6 runUnderlying32 (by kernel_rfl) (EqF.cons1 rfl isAgg9 rfl rfl (J3 runUnderlying9) (EqF.cons1 rfl isAgg9 rfl rfl (J3 runUnderlying9) (EqF.cons1 rfl isAgg9 rfl rfl (J3 runUnderlying9) (EqF.cons1 rfl isAgg9 rfl rfl (J3 runUnderlying9) EqF.nil)))))) fun a s=>?_
   refine gm s 11 rfl rfl rfl hC fun a s=>?_
   have s:=s.bF 28 rfl h546
   refine gn 2 [12,13] [] s hC rfl rfl rfl fun a s=>?_
   refine gx s 14 rfl ⟨_,rfl,rfl⟩ rfl hC runUnderlying48 sizeOf56 rfl rfl h552 h553 fun a s=>?_
   refine gt s 15 rfl ⟨_,rfl,rfl⟩ rfl hC (fun w hC=>j5 (o':=q555+4) runUnderlying56 rfl sizeOf50 rfl rfl rfl) fun a s=>?_
   refine gt s 16 rfl ⟨_,rfl,rfl⟩ rfl hC (fun w hC=>F5 (j:=4) (hC.ceAt 1 rfl) rfl isAgg50 rfl) fun a s=>?_
   refine gn 2 [17,18] [] s hC rfl rfl rfl fun a s=>?_
   refine gx s 19 rfl ⟨_,rfl,rfl⟩ rfl hC runUnderlying48 sizeOf56 rfl rfl h564 h565 fun a s=>?_
   refine gt s 20 rfl ⟨_,rfl,rfl⟩ rfl hC (fun w hC=>j5 (o':=q567+4) runUnderlying56 rfl sizeOf50 rfl rfl rfl) fun a s=>?_
   refine gt s 21 rfl ⟨_,rfl,rfl⟩ rfl hC (fun w hC=>F5 (j:=4) (hC.ceAt 0 rfl) rfl isAgg50 rfl) fun a s=>?_
   refine ho 22 rfl ?_
   refine q9 s (a7X h573 d.bdom (d.bE 3 rfl) (d.bE 1 rfl)) (d9 call42 rfl) ⟨_,rfl,rfl⟩ rfl rfl ?_
   rintro v578 Sv575 w a h576 rfl s
   have d:=d.callB h576
   refine h_n [] [0,2,4,6] d rfl rfl fun hC=>?_
   refine gt s 23 rfl ⟨_,rfl,rfl⟩ rfl hC (fun w hC=>a9Q rfl) fun a s=>?_
   refine gF s 24 rfl rfl hC rfl rfl h548 fun a s=>?_
   refine x8 (by kernel_rfl) ?_
   exact ⟨Sv348,wj s d [] [8,9]⟩
  rintro a w ⟨Sv545,s,d⟩
  refine tn (cd s u rfl (fun u=>?_) fun u=>?_)
  ·refine sz0 1 s rfl fun a s=>?_
   obtain rfl:=oi u
   have h583:=hd415 _ rfl
   subst h583
   exact wp_ret (r9 (j3 (j3 (r9 (j3 (rt s rfl (d.ret rfl)))))))
  refine wp_skip (l9 (tn (wp_region_lit (rn0 2 s rfl fun a s=>?_))))
  obtain ⟨i585,h584,u⟩:=bt u
  refine sv s (q8 rfl h584) rfl fun a s=>?_
  exact nl ⟨_,io u,Sv545,wj s d [] [0,1]⟩
 obtain ⟨rv586,u,h587⟩:=Y7 u
 have h587:=(hd415 _ h587.symm).symm
 subst h587
 refine wp_exit (j4 (j4 (o9 (tn (sz0 1 s rfl fun a s=>?_)))))
 obtain rfl:=oi u
 exact q1 s rfl (d.ret rfl)
theorem a4I {w0 S0 p2 k3 l1 r} (u:a2t l1=some r) (hS:Dm S0 w0) (h4:(Sq p2 k3 l1).p S0 w0):Ck Tryz.prog 61 #[sl p2 k3 l1] w0 S0 [] C7 r:=by
 refine en 117 func61 rfl hS rfl rfl rfl fun a s d=>?_
 have d:=d.addE h4
 refine sz0 1 s rfl fun a s=>?_
 refine sz0 1 s rfl fun a s=>?_
 refine wp_seq (sz0 1 s rfl fun a s=>?_)
 obtain ⟨e539,h1541,u⟩:=bt u
 refine x9 (fun a w=>∃ c540 p541 k542 Sv543,Sl 117 [(3,sl p541 k542 e539)] a∧Wd ⟨w0,S0,[]⟩ Sv543 [.row p541 e539.length k542 c540 52 2] [j6 c540 e539] w) ?_ ?_
 ·refine wp_block ?_
  have d:=d.nilRow Span 52
  refine u7 (fun sv5 a w=>∃ c358 p359 k360 Sv361,Sl 117 [(0,sl p2 k3 l1),(3,sl p359 k360 sv5.1),(4,iv sv5.2)] a∧Wd ⟨w0,S0,[]⟩ Sv361 [.row p359 sv5.1.length k360 c358 52 2] [Sq p2 k3 l1,j6 c358 sv5.1] w) (([]:List Span),0) h1541 ⟨[],none,0,S0,wj s d [0] [1,0]⟩ ?_
  clear h1541
  repeat clear u
  rintro sv5 a w tv537 ⟨c358,p359,k360,Sv361,s,d⟩ u hd536
  refine wp_seq (sz0 4 s rfl fun a s=>?_)
  refine cd s u rfl (fun u=>?_) fun u=>?_
  ·refine sk (wp_seq (x9 (fun a w=>∃ (sorted716:(List Span)) (c712 p713 k714 Sv715:_),a2R sv5 sorted716=some tv537∧Sl 117 [(0,sl p2 k3 l1),(3,sl p713 k714 sorted716),(4,iv sv5.2)] a∧Wd ⟨w0,S0,[]⟩ Sv715 [.row p713 sorted716.length k714 c712 52 2] [Sq p2 k3 l1,j6 c712 sorted716] w) ?_ ?_))
   ·refine wp_block (wp_seq (wp_seq ?_))
    obtain ⟨x721,h719,u⟩:=bt u
    obtain ⟨b727,o728,q725,c726,h729,h722,h723,h724,h720⟩:=d.elemV 0 rfl h719
    have hsv730:=s
    have hwv731:=d
    subst h729
    have s:=hsv730
    have d:=hwv731
    obtain ⟨_,_,rfl,rfl,rfl⟩:=h720
    have d:=d.addE h724
    obtain ⟨x734,h732,u⟩:=bt u
    obtain ⟨q738,c739,h735,h736,h737,h733⟩:=d.elemK 1 rfl h732
    obtain ⟨_,_,rfl,rfl,rfl⟩:=h733
    have d:=d.addE h737
    refine y9 (fun a w=>∃ Sv740,Sl 117 [(0,sl (some ⟨b727,o728,none⟩) k3 l1),(3,sl p359 k360 sv5.1),(4,iv sv5.2),(25,.bool (decide (x734.To≤x721.From)))] a∧Wd ⟨w0,S0,[]⟩ Sv740 [.row p359 sv5.1.length k360 c358 52 2] [Sq (some ⟨b727,o728,none⟩) k3 l1,j6 c358 sv5.1] w) ?_ ?_
    ·refine h_c [0] [0,1] d rfl rfl (by kernel_rfl) rfl fun hC d=>?_
     refine gn 2 [0,1] [] s hC rfl rfl rfl fun a s=>?_
     refine gx s 2 rfl trivial rfl hC runUnderlying50 sizeOf52 rfl rfl h722 h723 fun a s=>?_
     refine gv s 3 rfl rfl hC (fun w hC=>j5 (o':=q725+0) runUnderlying52 rfl sizeOf3 rfl rfl rfl) fun a s=>?_
     refine gv s 4 rfl rfl hC (fun w hC=>F5 (j:=0) (hC.ceAt 1 rfl) rfl isAgg3 rfl) fun a s=>?_
     refine gn 2 [5,6] [] s hC rfl rfl rfl fun a s=>?_
     refine gx s 7 rfl trivial rfl hC runUnderlying50 sizeOf52 rfl rfl h735 h736 fun a s=>?_
     refine gv s 8 rfl rfl hC (fun w hC=>j5 (o':=q738+1) runUnderlying52 rfl sizeOf3 rfl rfl rfl) fun a s=>?_
     refine gv s 9 rfl rfl hC (fun w hC=>F5 (j:=1) (hC.ceAt 0 rfl) rfl isAgg3 rfl) fun a s=>?_
     refine gv s 10 rfl rfl hC (fun w hC=>a8a rfl rfl) fun a s=>?_
     refine x8 (by kernel_rfl) ?_
     exact ⟨Sv361,wj s d [0] [2,3]⟩
    rintro a w ⟨Sv740,s,d⟩
    refine tn (cd s u rfl (fun u=>?_) fun u=>?_)
    ·exact wp_exit (j4 (o9 (tn ⟨sv5.1,c358,p359,k360,Sv740,u,wj s d [0] [0,1]⟩)))
    refine sk (sn0 2 s rfl fun a s=>?_)
    obtain ⟨k744,h743,u⟩:=bt u
    refine sv s (q8 rfl h743) rfl fun a s=>?_
    refine nl (wp_seq ?_)
    obtain ⟨e829,h943,u⟩:=bt u
    refine x9 (fun a w=>∃ Sv830,Sl 117 [(0,sl (some ⟨b727,o728,none⟩) k3 l1),(3,sl p359 k360 sv5.1),(4,iv sv5.2),(5,iv e829)] a∧Wd ⟨w0,S0,[]⟩ Sv830 [.row p359 sv5.1.length k360 c358 52 2] [Sq (some ⟨b727,o728,none⟩) k3 l1,j6 c358 sv5.1] w) ?_ ?_
    ·refine wp_block (u7 (fun sv745 a w=>∃ Sv799,Sl 117 [(0,sl (some ⟨b727,o728,none⟩) k3 l1),(3,sl p359 k360 sv5.1),(4,iv sv5.2),(5,iv sv745)] a∧Wd ⟨w0,S0,[]⟩ Sv799 [.row p359 sv5.1.length k360 c358 52 2] [Sq (some ⟨b727,o728,none⟩) k3 l1,j6 c358 sv5.1] w) k744 h943 ⟨Sv740,wj s d [0] [0,1]⟩ ?_)
     clear h943
     repeat clear u
     rintro sv745 a w tv827 ⟨Sv799,s,d⟩ u hd826
     refine wp_seq (wp_seq ?_)
     obtain ⟨c852,hc852,u⟩:=bt u
     refine y9 (fun a w=>∃ Sv853,Sl 117 [(0,sl (some ⟨b727,o728,none⟩) k3 l1),(3,sl p359 k360 sv5.1),(4,iv sv5.2),(5,iv sv745),(43,.bool c852)] a∧Wd ⟨w0,S0,[]⟩ Sv853 [.row p359 sv5.1.length k360 c358 52 2] [Sq (some ⟨b727,o728,none⟩) k3 l1,j6 c358 sv5.1] w) ?_ ?_
     ·rcases Bool.eq_false_or_eq_true (decide (0<sv745)) with h854 | h854
      ·have h855:=D5 hc852 h854
       obtain ⟨x858,h856,h855⟩:=O6 h855
       obtain ⟨b865,q862,c863,h866,h859,h860,h864,h857⟩:=d.elemRV (α:=Span) 0 rfl 1 rfl h856
       have hsv867:=s
       have hwv868:=d
       subst h866
       have s:=hsv867
       have d:=hwv868
       obtain ⟨_,_,rfl,rfl,rfl⟩:=h857
       obtain ⟨x871,h869,h855⟩:=O6 h855
       obtain ⟨q875,c876,h872,h873,h874,h870⟩:=d.elemK 0 rfl h869
       obtain ⟨_,_,rfl,rfl,rfl⟩:=h870
       have d:=d.addE h874
       refine h_c [0] [0] d rfl rfl (by kernel_rfl) rfl fun hC d=>?_
       refine gn 3 [0,1,2] [] s hC rfl rfl rfl fun a s=>?_
       have s:=s.bT 30 rfl h854
       refine gn 3 [3,4,5] [] s hC rfl rfl rfl fun a s=>?_
       refine gx s 6 rfl ⟨_,rfl,rfl⟩ rfl hC runUnderlying50 sizeOf52 rfl rfl h859 h860 fun a s=>?_
       refine gt s 7 rfl ⟨_,rfl,rfl⟩ rfl hC (fun w hC=>j5 (o':=q862+0) runUnderlying52 rfl sizeOf3 rfl rfl rfl) fun a s=>?_
       refine gt s 8 rfl ⟨_,rfl,rfl⟩ rfl hC (fun w hC=>K5 (j:=0) (hC.ownAt 0 rfl) rfl isAgg3 h864 rfl) fun a s=>?_
       refine gn 2 [9,10] [] s hC rfl rfl rfl fun a s=>?_
       refine gx s 11 rfl ⟨_,rfl,rfl⟩ rfl hC runUnderlying50 sizeOf52 rfl rfl h872 h873 fun a s=>?_
       refine gt s 12 rfl ⟨_,rfl,rfl⟩ rfl hC (fun w hC=>j5 (o':=q875+0) runUnderlying52 rfl sizeOf3 rfl rfl rfl) fun a s=>?_
       refine gt s 13 rfl ⟨_,rfl,rfl⟩ rfl hC (fun w hC=>F5 (j:=0) (hC.ceAt 0 rfl) rfl isAgg3 rfl) fun a s=>?_
       refine gt s 14 rfl ⟨_,rfl,rfl⟩ rfl hC (fun w hC=>y_gtr rfl rfl) fun a s=>?_
       refine gT s 15 rfl rfl hC rfl rfl h855 fun a s=>?_
       refine x8 (by kernel_rfl) ?_
       exact ⟨Sv799,wj s d [0] [1,2]⟩
      have h877:=D6 hc852 h854
      refine h_c [0] [] d rfl rfl (by kernel_rfl) rfl fun hC d=>?_
      refine gn 3 [0,1,2] [] s hC rfl rfl rfl fun a s=>?_
      have s:=s.bF 30 rfl h854
      refine gn 12 [3,4,5,6,7,8,9,10,11,12,13,14] [] s hC rfl rfl rfl fun a s=>?_
      refine gF s 15 rfl rfl hC rfl rfl h877 fun a s=>?_
      refine x8 (by kernel_rfl) ?_
      exact ⟨Sv799,wj s d [0] [0,1]⟩
     rintro a w ⟨Sv853,s,d⟩
     refine tn (cd s u rfl (fun u=>?_) fun u=>?_)
     ·refine sk (wp_block (wp_region_lit (rn0 2 s rfl fun a s=>?_)))
      obtain ⟨k883,h882,u⟩:=bt u
      refine sv s (q8 rfl h882) rfl fun a s=>?_
      refine wpList_nil ?_
      exact l9 (tn ⟨_,io u,Sv853,wj s d [0] [0,1]⟩)
     refine wp_exit (j4 (j4 (o9 ?_)))
     obtain rfl:=oi u
     have h884:=hd826 _ rfl
     subst h884
     exact tn ⟨Sv853,wj s d [0] [0,1]⟩
    rintro a w ⟨Sv830,s,d⟩
    refine tn (sn0 3 s rfl fun a s=>?_)
    obtain ⟨x887,h885,u⟩:=bt u
    obtain ⟨q891,c892,h888,h889,h890,h886⟩:=d.elemK 0 rfl h885
    obtain ⟨_,_,rfl,rfl,rfl⟩:=h886
    have d:=d.addE h890
    refine sv s (o8 runUnderlying50 sizeOf52 rfl rfl h888.1 h888.2 h889) rfl fun a s=>?_
    refine sv s (D9 (j:=0) (d.ceAt 0 rfl) rfl isAgg52 sizeOf52 rfl rfl) rfl fun a s=>?_
    refine y7 (α:=Span) (vs:=[V52 x887]) (cs:=(C52 x887)) (xs:=([x887]:List Span)) s d a4R rfl rfl rfl rfl rfl rfl ⟨⟨_,_,rfl,rfl,rfl⟩,rfl⟩ rfl trivial rfl fun b894 a w s d=>?_
    obtain ⟨l896,h895,u⟩:=bt u
    refine I4 (α:=Span) s d a4R 1 rfl rfl rfl 3 rfl 0 rfl 0 rfl h895 rfl trivial ?_
    intro p897 k898 c899 a w s d
    refine rz0 1 s rfl fun a s=>?_
    refine wp_seq ?_
    obtain ⟨l904,h900,u⟩:=bt u
    obtain ⟨p902,k903,h901⟩:=U7 (α:=Span) d 1 rfl h900
    obtain ⟨l909,h905,u⟩:=bt u
    obtain ⟨p907,k908,h906⟩:=U7 (α:=Span) d 1 rfl h905
    obtain ⟨l910,h911,u⟩:=bt u
    refine y9 (fun a w=>∃ Sv914 c912,Sl 117 [(0,sl (some ⟨b727,o728,none⟩) k3 l1),(3,sl p897 k898 l910),(4,iv sv5.2),(5,iv e829)] a∧Wd ⟨w0,S0,[]⟩ Sv914 [.row p897 l910.length k898 c912 52 2] [Sq (some ⟨b727,o728,none⟩) k3 l1,j6 c912 l910] w) ?_ ?_
    ·refine h_c [0] [2] d rfl rfl (by kernel_rfl) rfl fun hC d=>?_
     refine gn 3 [0,1,2] [] s hC rfl rfl rfl fun a s=>?_
     refine gv s 3 rfl rfl hC (fun w hC=>R9 runUnderlying50 sizeOf52 rfl ⟨_,rfl⟩ (by exact rfl) h901) fun a s=>?_
     refine gn 2 [4,5] [] s hC rfl rfl rfl fun a s=>?_
     refine gv s 6 rfl rfl hC (fun w hC=>R9 runUnderlying50 sizeOf52 rfl ⟨_,rfl⟩ (by exact rfl) h906) fun a s=>?_
     refine ho 7 rfl ?_
     obtain ⟨ds_,h917⟩:=b3K (d.ownAt 1 rfl) (d.envAt 0 rfl) h905 h906
     refine b0f (α:=Span) s d 1 rfl 0 rfl runUnderlying50 runUnderlying50 sizeOf52 (by decide) h900 h901 rfl rfl rfl h917.1 h917.2.1 h917.2.2 rfl trivial ?_
     intro c912 a w s d
     rw [Option.some.inj h911] at d
     have h913:=(a4U h900 h911)
     try have s:=s.fl 3 rfl h913
     try have s:=s.fl 53 rfl h913
     try have s:=s.fl 57 rfl h913
     refine h_n [0] [3] d rfl rfl fun hC=>?_
     refine x8 (by kernel_rfl) ?_
     exact ⟨Sv830,c912,wj s d [1] [4,0]⟩
    rintro a w ⟨Sv914,c912,s,d⟩
    refine tn (wp_region_lit (rn0 4 s rfl fun a s=>?_))
    obtain ⟨x920,h918,u⟩:=bt u
    obtain ⟨q924,c925,h921,h922,h923,h919⟩:=d.elemK 0 rfl h918
    obtain ⟨_,_,rfl,rfl,rfl⟩:=h919
    have d:=d.addE h923
    refine sv s (o8 runUnderlying50 sizeOf52 rfl rfl h921.1 h921.2 h922) rfl fun a s=>?_
    refine sv s (D9 (j:=0) (d.ceAt 0 rfl) rfl isAgg52 sizeOf52 rfl rfl) rfl fun a s=>?_
    obtain ⟨x928,h926,u⟩:=bt u
    obtain ⟨b935,q932,c933,h936,h929,h930,h934,h927⟩:=d.elemRV (α:=Span) 0 rfl 2 rfl h926
    have hsv937:=s
    have hwv938:=d
    subst h936
    have s:=hsv937
    have d:=hwv938
    obtain ⟨_,_,rfl,rfl,rfl⟩:=h927
    refine sv s (o8 runUnderlying50 sizeOf52 rfl rfl h929.1 h929.2 h930) rfl fun a s=>?_
    obtain ⟨l940,h939,u⟩:=bt u
    refine a5k (α:=Span) s d 0 rfl 2 rfl h930 rfl rfl sizeOf52 rfl h939 ⟨_,_,rfl,rfl,rfl⟩ trivial ?_
    intro c941 a w s d
    have h942:=Y0 h939
    try have s:=s.fl 3 rfl h942
    try have s:=s.fl 61 rfl h942
    refine wpList_nil ?_
    exact l9 (tn ⟨l940,c941,(ad b935),k898,Sv914,u,wj s d [0] [2,0]⟩)
   rintro a w ⟨sorted716,c712,p713,k714,Sv715,u,s,d⟩
   refine tn (wp_region_lit (rn0 2 s rfl fun a s=>?_))
   obtain ⟨i718,h717,u⟩:=bt u
   refine sv s (q8 rfl h717) rfl fun a s=>?_
   exact nl ⟨_,io u,c712,p713,k714,Sv715,wj s d [0] [0,1]⟩
  refine wp_exit (j4 (j4 (o9 ?_)))
  obtain rfl:=oi u
  have h944:=hd536 _ rfl
  subst h944
  exact tn ⟨c358,p359,k360,Sv361,wj s d [0] [1]⟩
 rintro a w ⟨c540,p541,k542,Sv543,s,d⟩
 refine tn (sz0 1 s rfl fun a s=>?_)
 refine wp_seq (sz0 1 s rfl fun a s=>?_)
 obtain ⟨e1248,h1540,u⟩:=bt u
 refine x9 (fun a w=>∃ c1249 p1250 k1251 Sv1252,Sl 117 [(6,sl p1250 k1251 e1248)] a∧Wd ⟨w0,S0,[]⟩ Sv1252 [.row p1250 e1248.length k1251 c1249 52 2] [j6 c1249 e1248] w) ?_ ?_
 ·refine wp_block ?_
  have d:=d.nilRow Span 52
  refine u7 (fun sv945 a w=>∃ c1142 p1143 k1144 Sv1145,Sl 117 [(3,sl p541 k542 e539),(6,sl p1143 k1144 sv945.1),(7,iv sv945.2)] a∧Wd ⟨w0,S0,[]⟩ Sv1145 [.row p541 e539.length k542 c540 52 2,.row p1143 sv945.1.length k1144 c1142 52 2] [j6 c540 e539,j6 c1142 sv945.1] w) (([]:List Span),0) h1540 ⟨[],none,0,Sv543,wj s d [1,0] [1,0]⟩ ?_
  clear h1540
  repeat clear u
  rintro sv945 a w tv1246 ⟨c1142,p1143,k1144,Sv1145,s,d⟩ u hd1245
  refine wp_seq (sz0 4 s rfl fun a s=>?_)
  refine cd s u rfl (fun u=>?_) fun u=>?_
  ·refine sk (wp_seq (wp_block (sn0 2 s rfl fun a s=>?_)))
   obtain ⟨n1352,h1351,u⟩:=bt u
   refine sv s (q8 rfl h1351) rfl fun a s=>?_
   refine nl (wp_seq ?_)
   obtain ⟨c1379,hc1379,u⟩:=bt u
   refine y9 (fun a w=>∃ Sv1380,Sl 117 [(3,sl p541 k542 e539),(6,sl p1143 k1144 sv945.1),(7,iv sv945.2),(8,iv n1352),(91,.bool c1379)] a∧Wd ⟨w0,S0,[]⟩ Sv1380 [.row p541 e539.length k542 c540 52 2,.row p1143 sv945.1.length k1144 c1142 52 2] [j6 c540 e539,j6 c1142 sv945.1] w) ?_ ?_
   ·rcases Bool.eq_false_or_eq_true (decide (0<n1352)) with h1381 | h1381
    ·have h1382:=D5 hc1379 h1381
     obtain ⟨x1385,h1383,h1382⟩:=O6 h1382
     obtain ⟨b1392,q1389,c1390,h1393,h1386,h1387,h1391,h1384⟩:=d.elemRV (α:=Span) 0 rfl 0 rfl h1383
     have hsv1394:=s
     have hwv1395:=d
     subst h1393
     have s:=hsv1394
     have d:=hwv1395
     obtain ⟨_,_,rfl,rfl,rfl⟩:=h1384
     obtain ⟨x1398,h1396,h1382⟩:=O6 h1382
     obtain ⟨b1405,q1402,c1403,h1406,h1399,h1400,h1404,h1397⟩:=d.elemRV (α:=Span) 1 rfl 1 rfl h1396
     have hsv1407:=s
     have hwv1408:=d
     subst h1406
     have s:=hsv1407
     have d:=hwv1408
     obtain ⟨_,_,rfl,rfl,rfl⟩:=h1397
     refine h_c [0,1] [] d rfl rfl (by kernel_rfl) rfl fun hC d=>?_
     refine gn 3 [0,1,2] [] s hC rfl rfl rfl fun a s=>?_
     have s:=s.bT 78 rfl h1381
     refine gn 2 [3,4] [] s hC rfl rfl rfl fun a s=>?_
     refine gx s 5 rfl ⟨_,rfl,rfl⟩ rfl hC runUnderlying50 sizeOf52 rfl rfl h1386 h1387 fun a s=>?_
     refine gt s 6 rfl ⟨_,rfl,rfl⟩ rfl hC (fun w hC=>j5 (o':=q1389+0) runUnderlying52 rfl sizeOf3 rfl rfl rfl) fun a s=>?_
     refine gt s 7 rfl ⟨_,rfl,rfl⟩ rfl hC (fun w hC=>K5 (j:=0) (hC.ownAt 0 rfl) rfl isAgg3 h1391 rfl) fun a s=>?_
     refine gn 3 [8,9,10] [] s hC rfl rfl rfl fun a s=>?_
     refine gx s 11 rfl ⟨_,rfl,rfl⟩ rfl hC runUnderlying50 sizeOf52 rfl rfl h1399 h1400 fun a s=>?_
     refine gt s 12 rfl ⟨_,rfl,rfl⟩ rfl hC (fun w hC=>j5 (o':=q1402+1) runUnderlying52 rfl sizeOf3 rfl rfl rfl) fun a s=>?_
     refine gt s 13 rfl ⟨_,rfl,rfl⟩ rfl hC (fun w hC=>K5 (j:=1) (hC.ownAt 1 rfl) rfl isAgg3 h1404 rfl) fun a s=>?_
     refine gt s 14 rfl ⟨_,rfl,rfl⟩ rfl hC (fun w hC=>b0Y rfl rfl) fun a s=>?_
     refine gT s 15 rfl rfl hC rfl rfl h1382 fun a s=>?_
     refine x8 (by kernel_rfl) ?_
     exact ⟨Sv1145,wj s d [0,1] [0,1]⟩
    have h1409:=D6 hc1379 h1381
    refine h_c [0,1] [] d rfl rfl (by kernel_rfl) rfl fun hC d=>?_
    refine gn 3 [0,1,2] [] s hC rfl rfl rfl fun a s=>?_
    have s:=s.bF 78 rfl h1381
    refine gn 12 [3,4,5,6,7,8,9,10,11,12,13,14] [] s hC rfl rfl rfl fun a s=>?_
    refine gF s 15 rfl rfl hC rfl rfl h1409 fun a s=>?_
    refine x8 (by kernel_rfl) ?_
    exact ⟨Sv1145,wj s d [0,1] [0,1]⟩
   rintro a w ⟨Sv1380,s,d⟩
   refine tn (x9 (fun a w=>∃ (out1475:(List Span)) (c1471 p1472 k1473 Sv1474:_),a2S sv945 out1475=some tv1246∧Sl 117 [(3,sl p541 k542 e539),(6,sl p1472 k1473 out1475),(7,iv sv945.2)] a∧Wd ⟨w0,S0,[]⟩ Sv1474 [.row p541 e539.length k542 c540 52 2,.row p1472 out1475.length k1473 c1471 52 2] [j6 c540 e539,j6 c1471 out1475] w) ?_ ?_)
   ·refine cd s u rfl (fun u=>?_) fun u=>?_
    ·obtain ⟨x1481,h1479,u⟩:=bt u
     obtain ⟨b1488,q1485,c1486,h1489,h1482,h1483,h1487,h1480⟩:=d.elemRV (α:=Span) 1 rfl 1 rfl h1479
     have hsv1490:=s
     have hwv1491:=d
     subst h1489
     have s:=hsv1490
     have d:=hwv1491
     obtain ⟨_,_,rfl,rfl,rfl⟩:=h1480
     obtain ⟨x1494,h1492,u⟩:=bt u
     obtain ⟨b1501,q1498,c1499,h1502,h1495,h1496,h1500,h1493⟩:=d.elemRV (α:=Span) 0 rfl 0 rfl h1492
     have hsv1503:=s
     have hwv1504:=d
     subst h1502
     have s:=hsv1503
     have d:=hwv1504
     obtain ⟨_,_,rfl,rfl,rfl⟩:=h1493
     obtain ⟨x1507,h1505,u⟩:=bt u
     obtain ⟨q1511,c1512,h1508,h1509,h1513,h1506⟩:=d.elemRK (α:=Span) 1 rfl 1 rfl h1505
     obtain ⟨_,_,rfl,rfl,rfl⟩:=h1506
     obtain ⟨l1515,h1514,u⟩:=bt u
     refine y9 (fun a w=>∃ Sv1518 c1516,Sl 117 [(3,sl (ad b1501) k542 e539),(6,sl (ad b1488) k1144 l1515),(7,iv sv945.2)] a∧Wd ⟨w0,S0,[]⟩ Sv1518 [.row (ad b1501) e539.length k542 c540 52 2,.row (ad b1488) l1515.length k1144 c1516 52 2] [j6 c540 e539,j6 c1516 l1515] w) ?_ ?_
     ·refine h_c [0] [] d rfl rfl (by kernel_rfl) rfl fun hC d=>?_
      refine gn 6 [0,1,2,3,4,5] [] s hC rfl rfl rfl fun a s=>?_
      refine gx s 6 rfl trivial rfl hC runUnderlying50 sizeOf52 rfl rfl h1482 h1483 fun a s=>?_
      refine gn 3 [7,9,10] [] s hC rfl rfl rfl fun a s=>?_
      refine gx s 11 rfl trivial rfl hC runUnderlying50 sizeOf52 rfl rfl h1495 h1496 fun a s=>?_
      refine gv s 12 rfl rfl hC (fun w hC=>j5 (o':=q1498+1) runUnderlying52 rfl sizeOf3 rfl rfl rfl) fun a s=>?_
      refine gv s 13 rfl rfl hC (fun w hC=>K5 (j:=1) (hC.ownAt 0 rfl) rfl isAgg3 h1500 rfl) fun a s=>?_
      refine ho 8 rfl ?_
      refine sv s (K5 (j:=1) (d.ownAt 1 rfl) rfl isAgg3 h1487 rfl) rfl fun a s=>?_
      refine h_n [0] [] d rfl rfl fun hC=>?_
      refine gv s 14 rfl rfl hC (fun w hC=>y_max rfl rfl) fun a s=>?_
      refine gx s 15 rfl trivial rfl hC runUnderlying50 sizeOf52 rfl rfl h1508 h1509 fun a s=>?_
      refine gv s 16 rfl rfl hC (fun w hC=>j5 (o':=q1511+1) runUnderlying52 rfl sizeOf3 rfl rfl rfl) fun a s=>?_
      refine ho 17 rfl ?_
      refine a5l (α:=Span) (f:=1) (m:=1) s d 1 rfl 1 rfl h1509 rfl rfl sizeOf3 rfl rfl rfl h1514 (fun es he=>by rw [h1513] at he;subst he;exact ⟨_,_,rfl,rfl,rfl⟩) trivial ?_
      intro c1516 a w s d
      have h1517:=Y0 h1514
      try have s:=s.fl 6 rfl h1517
      try have s:=s.fl 92 rfl h1517
      try have s:=s.fl 95 rfl h1517
      refine h_n [0] [] d rfl rfl fun hC=>?_
      refine x8 (by kernel_rfl) ?_
      exact ⟨Sv1380,c1516,wj s d [0,1] [1,0]⟩
     rintro a w ⟨Sv1518,c1516,s,d⟩
     exact tn ⟨l1515,c1516,(ad b1488),k1144,Sv1518,u,wj s d [0,1] [0,1]⟩
    refine wp_region_lit (rn0 3 s rfl fun a s=>?_)
    obtain ⟨x1521,h1519,u⟩:=bt u
    obtain ⟨b1528,q1525,c1526,h1529,h1522,h1523,h1527,h1520⟩:=d.elemRV (α:=Span) 0 rfl 0 rfl h1519
    have hsv1530:=s
    have hwv1531:=d
    subst h1529
    have s:=hsv1530
    have d:=hwv1531
    obtain ⟨_,_,rfl,rfl,rfl⟩:=h1520
    refine sv s (o8 runUnderlying50 sizeOf52 rfl rfl h1522.1 h1522.2 h1523) rfl fun a s=>?_
    refine sv s (Q0 (j:=0) (d.ownAt 0 rfl) rfl isAgg52 sizeOf52 h1527 rfl rfl) rfl fun a s=>?_
    refine y7 (α:=Span) (vs:=[V52 x1521]) (cs:=(C52 x1521)) (xs:=([x1521]:List Span)) s d a4R rfl rfl rfl rfl rfl rfl ⟨⟨_,_,rfl,rfl,rfl⟩,rfl⟩ rfl trivial rfl fun b1533 a w s d=>?_
    obtain ⟨l1535,h1534,u⟩:=bt u
    refine I4 (α:=Span) s d a4R 2 rfl rfl rfl 2 rfl 0 rfl 0 rfl h1534 rfl trivial ?_
    intro p1536 k1537 c1538 a w s d
    refine rz0 1 s rfl fun a s=>?_
    exact ⟨l1535,c1538,p1536,k1537,Sv1380,u,wj s d [1,2] [2,0]⟩
   rintro a w ⟨out1475,c1471,p1472,k1473,Sv1474,u,s,d⟩
   refine l9 (tn (wp_region_lit (rn0 2 s rfl fun a s=>?_)))
   obtain ⟨i1477,h1476,u⟩:=bt u
   refine sv s (q8 rfl h1476) rfl fun a s=>?_
   exact nl ⟨_,io u,c1471,p1472,k1473,Sv1474,wj s d [0,1] [0,1]⟩
  refine wp_exit (j4 (j4 (o9 ?_)))
  obtain rfl:=oi u
  have h1539:=hd1245 _ rfl
  subst h1539
  exact tn ⟨c1142,p1143,k1144,Sv1145,wj s d [1] [1]⟩
 rintro a w ⟨c1249,p1250,k1251,Sv1252,s,d⟩
 refine tn (sz0 2 s rfl fun a s=>?_)
 obtain rfl:=oi u
 exact q1 s rfl (d.ret ⟨p1250,k1251,c1249,rfl,(d.outs [0] (by decide) rfl),(d.envAt 0 rfl)⟩)
theorem b0z {w0 S0 p2 k3 p6 k7 a1 b5 r} (u:a3n a1 b5=some r) (hS:Dm S0 w0) (h4:(Sq p2 k3 a1).p S0 w0) (h8:(Sq p6 k7 b5).p S0 w0):Ck Tryz.prog 29 #[sl p2 k3 a1,sl p6 k7 b5] w0 S0 [] C7 r:=by
 refine en 10 func29 rfl hS rfl rfl rfl fun a s d=>?_
 have d:=(d.addE h4).addE h8
 refine sz0 1 s rfl fun a s=>?_
 refine sn0 1 s rfl fun a s=>?_
 obtain ⟨l10,h9,u⟩:=bt u
 have d:=d.nilRow Span 52
 refine P9 (α:=Span) s d a4R 0 rfl rfl rfl 0 rfl 2 rfl h9 rfl trivial ?_
 intro p11 k12 c13 a w s d
 refine mv s rfl rfl fun a s=>?_
 obtain ⟨l15,h14,u⟩:=bt u
 refine P9 (α:=Span) s d a4R 0 rfl rfl rfl 0 rfl 2 rfl h14 rfl trivial ?_
 intro p16 k17 c18 a w s d
 obtain ⟨rv20,h19,u⟩:=bt u
 obtain ⟨Sv25,d⟩:=A9 (α:=Span) d 0 rfl 0 rfl
 refine cR s (a4I h19 d.dom (d.envAt 0 rfl)) (d9 call61 rfl) rfl ?_
 rintro v29 Sv26 w a h27 ⟨p21,k22,c24,rfl,h30,h23⟩ s
 have d:=(d.callN h27 h30).addE (e:=j6 c24 rv20) h23
 refine rz0 1 s rfl fun a s=>?_
 obtain rfl:=oi u
 exact q1 s rfl (d.ret ⟨p21,k22,c24,rfl,(d.outs [0] (by decide) rfl),(d.envAt 0 rfl)⟩)
theorem b0y {w0 S0 p2 k3 p6 k7 a1 b5 r} (u:a3m a1 b5=some r) (hS:Dm S0 w0) (h4:(Sq p2 k3 a1).p S0 w0) (h8:(Sq p6 k7 b5).p S0 w0):Ck Tryz.prog 17 #[sl p2 k3 a1,sl p6 k7 b5] w0 S0 [] C7 r:=by
 refine en 94 func17 rfl hS rfl rfl rfl fun a s d=>?_
 have d:=(d.addE h4).addE h8
 refine sz0 1 s rfl fun a s=>?_
 refine sn0 1 s rfl fun a s=>?_
 obtain ⟨rv10,h9,u⟩:=bt u
 refine cR s (a4I h9 d.dom (d.envAt 1 rfl)) (d9 call61 rfl) rfl ?_
 rintro v18 Sv15 w a h16 ⟨p11,k12,c14,rfl,h19,h13⟩ s
 have d:=(d.callN h16 h19).addE (e:=j6 c14 rv10) h13
 refine mv s rfl rfl fun a s=>?_
 obtain ⟨rv22,h21,u⟩:=bt u
 refine cR s (a4I h21 d.dom (d.envAt 1 rfl)) (d9 call61 rfl) rfl ?_
 rintro v30 Sv27 w a h28 ⟨p23,k24,c26,rfl,h31,h25⟩ s
 have d:=(d.callN h28 h31).addE (e:=j6 c26 rv22) h25
 refine rz0 2 s rfl fun a s=>?_
 refine sz0 1 s rfl fun a s=>?_
 refine wp_seq (sz0 1 s rfl fun a s=>?_)
 obtain ⟨e1002,h1864,u⟩:=bt u
 refine x9 (fun a w=>∃ c1003 p1004 k1005 Sv1006,Sl 94 [(7,sl p1004 k1005 e1002)] a∧Wd ⟨w0,S0,[]⟩ Sv1006 [.row p1004 e1002.length k1005 c1003 52 2] [j6 c1003 e1002] w) ?_ ?_
 ·refine wp_block ?_
  have d:=d.nilRow Span 52
  refine u7 (fun sv33 a w=>∃ c676 p677 k678 Sv679,Sl 94 [(5,sl p11 k12 rv10),(6,sl p23 k24 rv22),(7,sl p677 k678 sv33.1),(8,iv sv33.2)] a∧Wd ⟨w0,S0,[]⟩ Sv679 [.row p11 rv10.length k12 c14 52 2,.row p23 rv22.length k24 c26 52 2,.row p677 sv33.1.length k678 c676 52 2] [j6 c14 rv10,j6 c26 rv22,j6 c676 sv33.1] w) (([]:List Span),0) h1864 ⟨[],none,0,Sv27,wj s d [2,1,0] [2,1,0]⟩ ?_
  clear h1864
  repeat clear u
  rintro sv33 a w tv1000 ⟨c676,p677,k678,Sv679,s,d⟩ u hd999
  refine wp_seq (sz0 4 s rfl fun a s=>?_)
  refine cd s u rfl (fun u=>?_) fun u=>?_
  ·refine sk (wp_seq (wp_block (sn0 2 s rfl fun a s=>?_)))
   obtain ⟨x1327,h1325,u⟩:=bt u
   obtain ⟨b1334,q1331,c1332,h1335,h1328,h1329,h1333,h1326⟩:=d.elemRV (α:=Span) 0 rfl 0 rfl h1325
   have hsv1336:=s
   have hwv1337:=d
   subst h1335
   have s:=hsv1336
   have d:=hwv1337
   obtain ⟨_,_,rfl,rfl,rfl⟩:=h1326
   refine sv s (o8 runUnderlying50 sizeOf52 rfl rfl h1328.1 h1328.2 h1329) rfl fun a s=>?_
   refine sv s (j5 (o':=q1331+0) runUnderlying52 rfl sizeOf3 rfl rfl rfl) rfl fun a s=>?_
   refine sv s (K5 (j:=0) (d.ownAt 0 rfl) rfl isAgg3 h1333 rfl) rfl fun a s=>?_
   refine rz0 1 s rfl fun a s=>?_
   refine wp_seq (sz0 1 s rfl fun a s=>?_)
   obtain ⟨e1605,h1862,u⟩:=bt u
   refine x9 (fun a w=>∃ c1606 p1607 k1608 Sv1609,Sl 94 [(5,sl (ad b1334) k12 rv10),(6,sl p23 k24 rv22),(7,sl p1607 k1608 e1605.1),(8,iv sv33.2),(9,iv e1605.2)] a∧Wd ⟨w0,S0,[]⟩ Sv1609 [.row (ad b1334) rv10.length k12 c14 52 2,.row p23 rv22.length k24 c26 52 2,.row p1607 e1605.1.length k1608 c1606 52 2] [j6 c14 rv10,j6 c26 rv22,j6 c1606 e1605.1] w) ?_ ?_
   ·refine wp_block (u7 (fun sv1338 a w=>∃ c1513 p1514 k1515 Sv1516,Sl 94 [(5,sl (ad b1334) k12 rv10),(6,sl p23 k24 rv22),(7,sl p1514 k1515 sv1338.1),(8,iv sv33.2),(9,iv sv1338.2.1),(10,iv sv1338.2.2)] a∧Wd ⟨w0,S0,[]⟩ Sv1516 [.row (ad b1334) rv10.length k12 c14 52 2,.row p23 rv22.length k24 c26 52 2,.row p1514 sv1338.1.length k1515 c1513 52 2] [j6 c14 rv10,j6 c26 rv22,j6 c1513 sv1338.1] w) (sv33.1,x1327.From,0) h1862 ⟨c676,p677,k678,Sv679,wj s d [0,1,2] [0,1,2]⟩ ?_)
    clear h1862
    repeat clear u
    rintro sv1338 a w tv1603 ⟨c1513,p1514,k1515,Sv1516,s,d⟩ u hd1602
    refine wp_seq (sz0 4 s rfl fun a s=>?_)
    refine cd s u rfl (fun u=>?_) fun u=>?_
    ·refine sk (wp_seq (x9 (fun a w=>∃ (out1692:(List Span)) (fromv1693:Int) (c1688 p1689 k1690 Sv1691:_),a3D sv1338 out1692 fromv1693=some tv1603∧Sl 94 [(5,sl (ad b1334) k12 rv10),(6,sl p23 k24 rv22),(7,sl p1689 k1690 out1692),(8,iv sv33.2),(9,iv fromv1693),(10,iv sv1338.2.2)] a∧Wd ⟨w0,S0,[]⟩ Sv1691 [.row (ad b1334) rv10.length k12 c14 52 2,.row p23 rv22.length k24 c26 52 2,.row p1689 out1692.length k1690 c1688 52 2] [j6 c14 rv10,j6 c26 rv22,j6 c1688 out1692] w) ?_ ?_))
     ·refine wp_block (wp_seq (wp_seq ?_))
      obtain ⟨x1698,h1696,u⟩:=bt u
      obtain ⟨b1705,q1702,c1703,h1706,h1699,h1700,h1704,h1697⟩:=d.elemRV (α:=Span) 1 rfl 1 rfl h1696
      have hsv1707:=s
      have hwv1708:=d
      subst h1706
      have s:=hsv1707
      have d:=hwv1708
      obtain ⟨_,_,rfl,rfl,rfl⟩:=h1697
      obtain ⟨c1727,hc1727,u⟩:=bt u
      refine y9 (fun a w=>∃ Sv1728,Sl 94 [(5,sl (ad b1334) k12 rv10),(6,sl (ad b1705) k24 rv22),(7,sl p1514 k1515 sv1338.1),(8,iv sv33.2),(9,iv sv1338.2.1),(10,iv sv1338.2.2),(51,.bool c1727)] a∧Wd ⟨w0,S0,[]⟩ Sv1728 [.row (ad b1334) rv10.length k12 c14 52 2,.row (ad b1705) rv22.length k24 c26 52 2,.row p1514 sv1338.1.length k1515 c1513 52 2] [j6 c14 rv10,j6 c26 rv22,j6 c1513 sv1338.1] w) ?_ ?_
      ·rcases Bool.eq_false_or_eq_true (decide (x1698.To≤sv1338.2.1)) with h1729 | h1729
       ·have h1730:=D5 hc1727 h1729
        refine h_c [0,1,2] [] d rfl rfl (by kernel_rfl) rfl fun hC d=>?_
        refine gn 2 [0,1] [] s hC rfl rfl rfl fun a s=>?_
        refine gx s 2 rfl trivial rfl hC runUnderlying50 sizeOf52 rfl rfl h1699 h1700 fun a s=>?_
        refine gv s 3 rfl rfl hC (fun w hC=>j5 (o':=q1702+1) runUnderlying52 rfl sizeOf3 rfl rfl rfl) fun a s=>?_
        refine gv s 4 rfl rfl hC (fun w hC=>K5 (j:=1) (hC.ownAt 1 rfl) rfl isAgg3 h1704 rfl) fun a s=>?_
        refine gn 3 [5,6,7] [] s hC rfl rfl rfl fun a s=>?_
        have s:=s.bT 39 rfl h1729
        refine gn 11 [8,9,10,11,12,13,14,15,16,17,18] [] s hC rfl rfl rfl fun a s=>?_
        refine gT s 19 rfl rfl hC rfl rfl h1730 fun a s=>?_
        refine x8 (by kernel_rfl) ?_
        exact ⟨Sv1516,wj s d [0,1,2] [0,1,2]⟩
       have h1731:=D6 hc1727 h1729
       obtain ⟨x1734,h1732,h1731⟩:=O6 h1731
       obtain ⟨q1738,c1739,h1735,h1736,h1740,h1733⟩:=d.elemRK (α:=Span) 1 rfl 1 rfl h1732
       obtain ⟨_,_,rfl,rfl,rfl⟩:=h1733
       obtain ⟨x1743,h1741,h1731⟩:=O6 h1731
       obtain ⟨q1747,c1748,h1744,h1745,h1749,h1742⟩:=d.elemRK (α:=Span) 0 rfl 0 rfl h1741
       obtain ⟨_,_,rfl,rfl,rfl⟩:=h1742
       refine h_c [0,1,2] [] d rfl rfl (by kernel_rfl) rfl fun hC d=>?_
       refine gn 2 [0,1] [] s hC rfl rfl rfl fun a s=>?_
       refine gx s 2 rfl trivial rfl hC runUnderlying50 sizeOf52 rfl rfl h1699 h1700 fun a s=>?_
       refine gv s 3 rfl rfl hC (fun w hC=>j5 (o':=q1702+1) runUnderlying52 rfl sizeOf3 rfl rfl rfl) fun a s=>?_
       refine gv s 4 rfl rfl hC (fun w hC=>K5 (j:=1) (hC.ownAt 1 rfl) rfl isAgg3 h1704 rfl) fun a s=>?_
       refine gn 3 [5,6,7] [] s hC rfl rfl rfl fun a s=>?_
       have s:=s.bF 39 rfl h1729
       refine gn 2 [8,9] [] s hC rfl rfl rfl fun a s=>?_
       refine gx s 10 rfl ⟨_,rfl,rfl⟩ rfl hC runUnderlying50 sizeOf52 rfl rfl h1735 h1736 fun a s=>?_
       refine gt s 11 rfl ⟨_,rfl,rfl⟩ rfl hC (fun w hC=>j5 (o':=q1738+0) runUnderlying52 rfl sizeOf3 rfl rfl rfl) fun a s=>?_
       refine gt s 12 rfl ⟨_,rfl,rfl⟩ rfl hC (fun w hC=>K5 (j:=0) (hC.ownAt 1 rfl) rfl isAgg3 h1740 rfl) fun a s=>?_
       refine gn 2 [13,14] [] s hC rfl rfl rfl fun a s=>?_
       refine gx s 15 rfl ⟨_,rfl,rfl⟩ rfl hC runUnderlying50 sizeOf52 rfl rfl h1744 h1745 fun a s=>?_
       refine gt s 16 rfl ⟨_,rfl,rfl⟩ rfl hC (fun w hC=>j5 (o':=q1747+1) runUnderlying52 rfl sizeOf3 rfl rfl rfl) fun a s=>?_
       refine gt s 17 rfl ⟨_,rfl,rfl⟩ rfl hC (fun w hC=>K5 (j:=1) (hC.ownAt 0 rfl) rfl isAgg3 h1749 rfl) fun a s=>?_
       refine gt s 18 rfl ⟨_,rfl,rfl⟩ rfl hC (fun w hC=>a8a rfl rfl) fun a s=>?_
       refine gF s 19 rfl rfl hC rfl rfl h1731 fun a s=>?_
       refine x8 (by kernel_rfl) ?_
       exact ⟨Sv1516,wj s d [0,1,2] [0,1,2]⟩
      rintro a w ⟨Sv1728,s,d⟩
      refine tn (cd s u rfl (fun u=>?_) fun u=>?_)
      ·exact wp_exit (j4 (o9 (tn ⟨sv1338.1,sv1338.2.1,c1513,p1514,k1515,Sv1728,u,wj s d [0,1,2] [0,1,2]⟩)))
      refine sk (wp_seq (sn0 2 s rfl fun a s=>?_))
      obtain ⟨x1754,h1752,u⟩:=bt u
      obtain ⟨q1758,c1759,h1755,h1756,h1760,h1753⟩:=d.elemRK (α:=Span) 1 rfl 1 rfl h1752
      obtain ⟨_,_,rfl,rfl,rfl⟩:=h1753
      refine sv s (o8 runUnderlying50 sizeOf52 rfl rfl h1755.1 h1755.2 h1756) rfl fun a s=>?_
      refine sv s (j5 (o':=q1758+0) runUnderlying52 rfl sizeOf3 rfl rfl rfl) rfl fun a s=>?_
      refine sv s (K5 (j:=0) (d.ownAt 1 rfl) rfl isAgg3 h1760 rfl) rfl fun a s=>?_
      refine rz0 2 s rfl fun a s=>?_
      refine x9 (fun a w=>∃ (out1782:(List Span)) (c1778 p1779 k1780 Sv1781:_),a3E rv22 sv1338 out1782=some tv1603∧Sl 94 [(5,sl (ad b1334) k12 rv10),(6,sl (ad b1705) k24 rv22),(7,sl p1779 k1780 out1782),(8,iv sv33.2),(9,iv sv1338.2.1),(10,iv sv1338.2.2)] a∧Wd ⟨w0,S0,[]⟩ Sv1781 [.row (ad b1334) rv10.length k12 c14 52 2,.row (ad b1705) rv22.length k24 c26 52 2,.row p1779 out1782.length k1780 c1778 52 2] [j6 c14 rv10,j6 c26 rv22,j6 c1778 out1782] w) ?_ ?_
      ·refine cd s u rfl (fun u=>?_) fun u=>?_
       ·refine wp_region_lit (rn0 4 s rfl fun a s=>?_)
        obtain ⟨x1797,h1795,u⟩:=bt u
        obtain ⟨q1801,c1802,h1798,h1799,h1803,h1796⟩:=d.elemRK (α:=Span) 1 rfl 1 rfl h1795
        obtain ⟨_,_,rfl,rfl,rfl⟩:=h1796
        refine sv s (o8 runUnderlying50 sizeOf52 rfl rfl h1798.1 h1798.2 h1799) rfl fun a s=>?_
        refine sv s (j5 (o':=q1801+0) runUnderlying52 rfl sizeOf3 rfl rfl rfl) rfl fun a s=>?_
        refine sv s (K5 (j:=0) (d.ownAt 1 rfl) rfl isAgg3 h1803 rfl) rfl fun a s=>?_
        refine sv s (z8 (vs:=[(0,iv sv1338.2.1),(1,iv x1797.From)]) b0g rfl rfl) rfl fun a s=>?_
        refine y7 (α:=Span) (vs:=[.agg #[iv sv1338.2.1,iv x1797.From]]) (cs:=[iv sv1338.2.1,iv x1797.From]) (xs:=([(⟨sv1338.2.1,x1797.From⟩:Span)]:List Span)) s d a4R rfl rfl rfl rfl rfl rfl ⟨⟨_,_,rfl,rfl,rfl⟩,rfl⟩ rfl trivial rfl fun b1805 a w s d=>?_
        obtain ⟨l1807,h1806,u⟩:=bt u
        refine I4 (α:=Span) s d a4R 3 rfl rfl rfl 3 rfl 0 rfl 0 rfl h1806 rfl trivial ?_
        intro p1808 k1809 c1810 a w s d
        refine rz0 1 s rfl fun a s=>?_
        exact ⟨l1807,c1810,p1808,k1809,Sv1728,u,wj s d [1,2,3] [2,3,0]⟩
       exact sk ⟨sv1338.1,c1513,p1514,k1515,Sv1728,u,wj s d [0,1,2] [0,1,2]⟩
      rintro a w ⟨out1782,c1778,p1779,k1780,Sv1781,u,s,d⟩
      refine tn (wp_region_lit (rn0 3 s rfl fun a s=>?_))
      obtain ⟨x1785,h1783,u⟩:=bt u
      obtain ⟨q1789,c1790,h1786,h1787,h1791,h1784⟩:=d.elemRK (α:=Span) 1 rfl 1 rfl h1783
      obtain ⟨_,_,rfl,rfl,rfl⟩:=h1784
      refine sv s (o8 runUnderlying50 sizeOf52 rfl rfl h1786.1 h1786.2 h1787) rfl fun a s=>?_
      refine sv s (j5 (o':=q1789+1) runUnderlying52 rfl sizeOf3 rfl rfl rfl) rfl fun a s=>?_
      refine sv s (K5 (j:=1) (d.ownAt 1 rfl) rfl isAgg3 h1791 rfl) rfl fun a s=>?_
      refine sv s (y_max rfl rfl) rfl fun a s=>?_
      obtain ⟨fromv1793,h1792,u⟩:=bt u
      refine sv s (q8 rfl h1792) rfl fun a s=>?_
      refine wpList_nil ?_
      exact l9 (tn ⟨out1782,fromv1793,c1778,p1779,k1780,Sv1781,u,wj s d [0,1,2] [0,1,2]⟩)
     rintro a w ⟨out1692,fromv1693,c1688,p1689,k1690,Sv1691,u,s,d⟩
     refine tn (wp_region_lit (rn0 2 s rfl fun a s=>?_))
     obtain ⟨k1695,h1694,u⟩:=bt u
     refine sv s (q8 rfl h1694) rfl fun a s=>?_
     exact nl ⟨_,io u,c1688,p1689,k1690,Sv1691,wj s d [0,1,2] [0,1,2]⟩
    refine wp_exit (j4 (j4 (o9 ?_)))
    obtain rfl:=oi u
    have h1811:=hd1602 _ rfl
    subst h1811
    exact tn ⟨c1513,p1514,k1515,Sv1516,wj s d [0,1,2] [0,1,2]⟩
   rintro a w ⟨c1606,p1607,k1608,Sv1609,s,d⟩
   refine tn (sn0 3 s rfl fun a s=>?_)
   obtain ⟨x1814,h1812,u⟩:=bt u
   obtain ⟨q1818,c1819,h1815,h1816,h1820,h1813⟩:=d.elemRK (α:=Span) 0 rfl 0 rfl h1812
   obtain ⟨_,_,rfl,rfl,rfl⟩:=h1813
   refine sv s (o8 runUnderlying50 sizeOf52 rfl rfl h1815.1 h1815.2 h1816) rfl fun a s=>?_
   refine sv s (j5 (o':=q1818+1) runUnderlying52 rfl sizeOf3 rfl rfl rfl) rfl fun a s=>?_
   refine sv s (K5 (j:=1) (d.ownAt 0 rfl) rfl isAgg3 h1820 rfl) rfl fun a s=>?_
   refine rz0 1 s rfl fun a s=>?_
   refine x9 (fun a w=>∃ (out1842:(List Span)) (c1838 p1839 k1840 Sv1841:_),a3F sv33 out1842=some tv1000∧Sl 94 [(5,sl (ad b1334) k12 rv10),(6,sl p23 k24 rv22),(7,sl p1839 k1840 out1842),(8,iv sv33.2)] a∧Wd ⟨w0,S0,[]⟩ Sv1841 [.row (ad b1334) rv10.length k12 c14 52 2,.row p23 rv22.length k24 c26 52 2,.row p1839 out1842.length k1840 c1838 52 2] [j6 c14 rv10,j6 c26 rv22,j6 c1838 out1842] w) ?_ ?_
   ·refine cd s u rfl (fun u=>?_) fun u=>?_
    ·refine wp_region_lit (rn0 4 s rfl fun a s=>?_)
     obtain ⟨x1848,h1846,u⟩:=bt u
     obtain ⟨q1852,c1853,h1849,h1850,h1854,h1847⟩:=d.elemRK (α:=Span) 0 rfl 0 rfl h1846
     obtain ⟨_,_,rfl,rfl,rfl⟩:=h1847
     refine sv s (o8 runUnderlying50 sizeOf52 rfl rfl h1849.1 h1849.2 h1850) rfl fun a s=>?_
     refine sv s (j5 (o':=q1852+1) runUnderlying52 rfl sizeOf3 rfl rfl rfl) rfl fun a s=>?_
     refine sv s (K5 (j:=1) (d.ownAt 0 rfl) rfl isAgg3 h1854 rfl) rfl fun a s=>?_
     refine sv s (z8 (vs:=[(0,iv e1605.2),(1,iv x1848.To)]) b0g rfl rfl) rfl fun a s=>?_
     refine y7 (α:=Span) (vs:=[.agg #[iv e1605.2,iv x1848.To]]) (cs:=[iv e1605.2,iv x1848.To]) (xs:=([(⟨e1605.2,x1848.To⟩:Span)]:List Span)) s d a4R rfl rfl rfl rfl rfl rfl ⟨⟨_,_,rfl,rfl,rfl⟩,rfl⟩ rfl trivial rfl fun b1856 a w s d=>?_
     obtain ⟨l1858,h1857,u⟩:=bt u
     refine I4 (α:=Span) s d a4R 3 rfl rfl rfl 3 rfl 0 rfl 0 rfl h1857 rfl trivial ?_
     intro p1859 k1860 c1861 a w s d
     refine rz0 1 s rfl fun a s=>?_
     exact ⟨l1858,c1861,p1859,k1860,Sv1609,u,wj s d [1,2,3] [2,3,0]⟩
    exact sk ⟨e1605.1,c1606,p1607,k1608,Sv1609,u,wj s d [0,1,2] [0,1,2]⟩
   rintro a w ⟨out1842,c1838,p1839,k1840,Sv1841,u,s,d⟩
   refine l9 (tn (wp_region_lit (rn0 2 s rfl fun a s=>?_)))
   obtain ⟨i1844,h1843,u⟩:=bt u
   refine sv s (q8 rfl h1843) rfl fun a s=>?_
   exact nl ⟨_,io u,c1838,p1839,k1840,Sv1841,wj s d [0,1,2] [0,1,2]⟩
  refine wp_exit (j4 (j4 (o9 ?_)))
  obtain rfl:=oi u
  have h1863:=hd999 _ rfl
  subst h1863
  exact tn ⟨c676,p677,k678,Sv679,wj s d [2] [2]⟩
 rintro a w ⟨c1003,p1004,k1005,Sv1006,s,d⟩
 refine tn (sz0 2 s rfl fun a s=>?_)
 obtain rfl:=oi u
 exact q1 s rfl (d.ret ⟨p1004,k1005,c1003,rfl,(d.outs [0] (by decide) rfl),(d.envAt 0 rfl)⟩)
end Go.Proofs.YteanekphncdhiaaGreat.Wk

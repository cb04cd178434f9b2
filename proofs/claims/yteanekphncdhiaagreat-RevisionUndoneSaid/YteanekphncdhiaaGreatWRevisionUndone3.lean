/- The walks of RevisionUndone, part 3: each Go function computes what its plain program computes. Printed by a program of ours. -/
import Derived.Test.YteanekphncdhiaaGreatProg
import Derived.Test.YteanekphncdhiaaGreatDat
import Derived.Test.YteanekphncdhiaaGreatSh
import Derived.Test.YteanekphncdhiaaGreatLa1
import Derived.Test.YteanekphncdhiaaGreatLa2
import Derived.Test.YteanekphncdhiaaGreatLibCh
import Derived.KernelRfl
import Derived.Test.YteanekphncdhiaaGreatLb1
import Derived.Shelf.SlLaysF0
import Derived.Test.YteanekphncdhiaaGreatWRevisionUndone2
namespace Go.Proofs.YteanekphncdhiaaGreat.Wk
open Go Go.RowKit Go.Proofs Go.Proofs.YteanekphncdhiaaGreat.Sh Go.Proofs.Tryz
set_option linter.unusedVariables false
set_option linter.unusedSimpArgs false
set_option maxHeartbeats 4000000
set_option maxRecDepth 100000
theorem b0k {w0 S0 p2 k3 r1 r} (u:a3h r1=some r) (hS:Dm S0 w0) (h4:(Sq p2 k3 r1.Stages).p S0 w0):Ck Tryz.prog 113 #[.agg #[sl p2 k3 r1.Stages]] w0 S0 [] l7 r:=by
 refine en 40 func113 rfl hS rfl rfl rfl fun a s d=>?_
 have d:=d.addE h4
 refine sr (wb [sl p2 k3 r1.Stages] s d rfl fun b5 a w s d=>?_)
 refine rz0 1 s rfl fun a s=>?_
 refine sz0 1 s rfl fun a s=>?_
 refine wp_seq (sz0 1 s rfl fun a s=>?_)
 refine wp_block (w9 (fun sv188 a w=>∃ Sv308,Sl 40 [(1,pt b5),(3,iv sv188.1),(4,iv sv188.2)] a∧Wd ⟨w0,S0,[]⟩ Sv308 [.box b5 [sl p2 k3 r1.Stages] 39] [Sq p2 k3 r1.Stages] w) (1,0) u ⟨S0,wj s d [0] [0]⟩ ?_)
 repeat clear u
 rintro sv188 a w tv369 ⟨Sv308,s,d⟩ u hd368
 refine wp_seq (sz 5 [0] s d rfl rfl fun a s=>?_)
 refine cd s u rfl (fun u=>?_) fun u=>?_
 ·refine sk (wp_seq (wp_block (wp_seq (sn 3 [0] s d rfl rfl fun a s=>?_))))
  obtain ⟨x432,h430,u⟩:=bt u
  obtain ⟨b438,o439,q436,c437,h440,h433,h434,h435,h431⟩:=d.elemV 0 rfl h430
  have hsv441:=s
  have hwv442:=d
  subst h440
  have s:=hsv441
  have d:=hwv442
  obtain ⟨_,_,_,_,_,_,_,_,_,_,rfl,rfl,rfl,rfl,rfl,rfl,rfl,rfl,⟨p443,n444,k445,rfl,h446⟩,rfl,rfl⟩:=h431
  obtain rfl:=h446.1
  have d:=(d.addE (e:=SlA p443 _ k445 x432.Taps) h446).addE h435
  refine sv s (u7 runUnderlying37 sizeOf138 rfl rfl h433.1 h433.2 h434) rfl fun a s=>?_
  refine sv s (E5 (j:=0) (d.ceAt 0 rfl) rfl isAgg138 sizeOf138 rfl rfl) rfl fun a s=>?_
  obtain ⟨rv448,h447,u⟩:=bt u
  refine cV s d (a7G h447 d.bdom (d.bE 1 rfl)) (d9 call139 rfl) rfl fun a w s d=>?_
  refine rz0 1 s rfl fun a s=>?_
  refine cd s u rfl (fun u=>?_) fun u=>?_
  ·refine sz0 1 s rfl fun a s=>?_
   obtain rfl:=oi u
   have h457:=hd368 _ rfl
   subst h457
   exact wp_ret (j3 (q9 (j3 (j3 (q9 (j3 (rt s rfl (d.ret rfl))))))))
  refine sk (sn 3 [0] s d rfl rfl fun a s=>?_)
  obtain ⟨x460,h458,u⟩:=bt u
  obtain ⟨q464,c465,h461,h462,h463,h459⟩:=d.elemK 2 rfl h458
  obtain ⟨_,_,_,_,_,_,_,_,_,_,rfl,rfl,rfl,rfl,rfl,rfl,rfl,rfl,⟨p466,n467,k468,rfl,h469⟩,rfl,rfl⟩:=h459
  obtain rfl:=h469.1
  have d:=(d.addE (e:=SlA p466 _ k468 x460.Taps) h469).addE h463
  refine sv s (u7 runUnderlying37 sizeOf138 rfl rfl h461.1 h461.2 h462) rfl fun a s=>?_
  refine sv s (j6 (o':=q464+0) runUnderlying138 rfl sizeOf3 rfl rfl rfl) rfl fun a s=>?_
  refine sv s (H5 (j:=0) (d.ceAt 0 rfl) rfl isAgg3 rfl) rfl fun a s=>?_
  refine rz0 1 s rfl fun a s=>?_
  refine y8 (fun a w=>∃ (n487:Int) (Sv486:_),a2a sv188 n487=some tv369∧Sl 40 [(1,pt b5),(3,iv n487),(4,iv sv188.2)] a∧Wd ⟨w0,S0,[]⟩ Sv486 [.box b5 [sl (some ⟨b438,o439,none⟩) k3 r1.Stages] 39] [Sq (some ⟨b438,o439,none⟩) k3 r1.Stages] w) ?_ ?_
  ·refine cd s u rfl (fun u=>?_) fun u=>?_
   ·refine sn 4 [0] s d rfl rfl fun a s=>?_
    obtain ⟨x493,h491,u⟩:=bt u
    obtain ⟨q497,c498,h494,h495,h496,h492⟩:=d.elemK 4 rfl h491
    obtain ⟨_,_,_,_,_,_,_,_,_,_,rfl,rfl,rfl,rfl,rfl,rfl,rfl,rfl,⟨p499,n500,k501,rfl,h502⟩,rfl,rfl⟩:=h492
    obtain rfl:=h502.1
    have d:=(d.addE (e:=SlA p499 _ k501 x493.Taps) h502).addE h496
    refine sv s (u7 runUnderlying37 sizeOf138 rfl rfl h494.1 h494.2 h495) rfl fun a s=>?_
    refine sv s (j6 (o':=q497+8) runUnderlying138 rfl sizeOf3 rfl rfl rfl) rfl fun a s=>?_
    refine sv s (H5 (j:=8) (d.ceAt 0 rfl) rfl isAgg3 rfl) rfl fun a s=>?_
    refine sv s (y_mul rfl rfl) rfl fun a s=>?_
    obtain ⟨n504,h503,u⟩:=bt u
    refine sv s (u6 rfl h503) rfl fun a s=>?_
    refine nl (sz0 2 s rfl fun a s=>?_)
    refine cd s u rfl (fun u=>?_) fun u=>?_
    ·refine sz0 1 s rfl fun a s=>?_
     obtain rfl:=oi u
     have h507:=hd368 _ rfl
     subst h507
     exact wp_ret (j3 (q9 (j3 (j3 (q9 (j3 (rt s rfl (d.ret rfl))))))))
    exact sk ⟨n504,Sv308,u,wj s d [0] [6]⟩
   exact sk ⟨sv188.1,Sv308,u,wj s d [0] [4]⟩
  rintro a w ⟨n487,Sv486,u,s,d⟩
  refine l9 (tn (wp_region_lit (rn0 2 s rfl fun a s=>?_)))
  obtain ⟨i489,h488,u⟩:=bt u
  refine sv s (u6 rfl h488) rfl fun a s=>?_
  exact nl ⟨_,io u,Sv486,wj s d [0] [0]⟩
 obtain ⟨rv508,u,h509⟩:=a0d u
 have h509:=(hd368 _ h509.symm).symm
 subst h509
 refine wp_exit (j4 (j4 (r9 (tn (sz 5 [0] s d rfl rfl fun a s=>?_)))))
 obtain rfl:=oi u
 exact q1 s rfl (d.ret rfl)
theorem a0F {w0 S0 p2 k3 e1 r} (u:a0M e1=some r) (hS:Dm S0 w0) (h4:(Sq p2 k3 e1.Response.Stages).p S0 w0):Ck Tryz.prog 65 #[V41 e1 p2 k3] w0 S0 [] l7 r:=by
 refine en 46 func65 rfl hS rfl rfl rfl fun a s d=>?_
 have d:=d.addE h4
 refine sr (wb (C41 e1 p2 k3) s d rfl fun b5 a w s d=>?_)
 refine rz0 1 s rfl fun a s=>?_
 refine sn 2 [0] s d rfl rfl fun a s=>?_
 refine wa [iv 0,iv 0,iv 0] s d zeroValue36 fun b6 a w s d=>?_
 refine ws (C36 e1.Position) s d 0 rfl rfl rfl sizeOf36 fun a w s d=>?_
 refine nl (sn 4 [1] s d rfl rfl fun a s=>?_)
 refine rA 6 9 [1,1] s d rfl rfl rfl rfl rfl fun a s=>?_
 refine mv s rfl rfl fun a s=>?_
 refine rA 4 16 [1] s d rfl rfl rfl rfl rfl fun a s=>?_
 refine mv s rfl rfl fun a s=>?_
 obtain ⟨c18,hc18,u⟩:=bt u
 refine o6 4 (fun a w=>∃ Sv19,Sl 46 [(1,pt b5),(3,pt b6),(25,.bool c18)] a∧Wd ⟨w0,S0,[]⟩ Sv19 [.box b5 (C41 e1 p2 k3) 41,.box b6 (C36 e1.Position) 36] [Sq p2 k3 e1.Response.Stages] w) ?_ ?_
 ·rcases Bool.eq_false_or_eq_true (((decide (0≤e1.From)) && (decide (e1.From<e1.To))) && (decide (e1.To≤9007199254740992))) with h17 | h17
  ·have s:=s.bT 21 rfl h17
   have u:=C9 hc18 h17
   refine rn 2 [1] s d rfl rfl fun a s=>?_
   obtain ⟨rv21,h20,u⟩:=bt u
   refine o8 s (b0j h20 d.bdom) (d9 call112 rfl) ⟨_,rfl,rfl⟩ rfl rfl ?_
   rintro v25 Sv22 w a h23 rfl s
   have d:=d.callB h23
   refine sv s (G6 rfl rfl) rfl fun a s=>?_
   refine wpList_nil ?_
   obtain rfl:=oi u
   exact tn ⟨S0,wj s d [1,0] [0]⟩
  have s:=s.bF 21 rfl h17
  have u:=D6 hc18 h17
  refine rn0 4 s rfl fun a s=>?_
  refine wpList_nil ?_
  obtain rfl:=oi u
  exact tn ⟨S0,wj s d [1,0] [0]⟩
 rintro a w ⟨Sv19,s,d⟩
 refine mv s rfl rfl fun a s=>?_
 obtain ⟨c37,hc37,u⟩:=bt u
 refine o6 4 (fun a w=>∃ Sv38,Sl 46 [(3,pt b6),(30,.bool c37)] a∧Wd ⟨w0,S0,[]⟩ Sv38 [.box b6 (C36 e1.Position) 36] [] w) ?_ ?_
 ·rcases Bool.eq_false_or_eq_true c18 with h36 | h36
  ·have s:=s.bT 26 rfl h36
   have u:=C9 hc37 h36
   refine rn 2 [0] s d rfl rfl fun a s=>?_
   obtain ⟨rv40,h39,u⟩:=bt u
   refine o8 s (b0k h39 d.bdom (d.bE 0 rfl)) (d9 call113 rfl) ⟨_,rfl,rfl⟩ rfl rfl ?_
   rintro v44 Sv41 w a h42 rfl s
   have d:=d.callB h42
   refine sv s (G6 rfl rfl) rfl fun a s=>?_
   refine wpList_nil ?_
   obtain rfl:=oi u
   exact tn ⟨Sv19,wj s d [1] []⟩
  have s:=s.bF 26 rfl h36
  have u:=D6 hc37 h36
  refine rn0 4 s rfl fun a s=>?_
  refine wpList_nil ?_
  obtain rfl:=oi u
  exact tn ⟨Sv19,wj s d [1] []⟩
 rintro a w ⟨Sv38,s,d⟩
 refine mv s rfl rfl fun a s=>?_
 obtain ⟨c56,hc56,u⟩:=bt u
 refine o6 4 (fun a w=>∃ Sv57,Sl 46 [(3,pt b6),(35,.bool c56)] a∧Wd ⟨w0,S0,[]⟩ Sv57 [.box b6 (C36 e1.Position) 36] [] w) ?_ ?_
 ·rcases Bool.eq_false_or_eq_true c37 with h55 | h55
  ·have s:=s.bT 31 rfl h55
   have u:=C9 hc56 h55
   refine rn 2 [0] s d rfl rfl fun a s=>?_
   obtain ⟨rv59,h58,u⟩:=bt u
   refine o8 s (M5 h58 d.bdom) (d9 call64 rfl) ⟨_,rfl,rfl⟩ rfl rfl ?_
   rintro v63 Sv60 w a h61 rfl s
   have d:=d.callB h61
   refine sv s (G6 rfl rfl) rfl fun a s=>?_
   refine wpList_nil ?_
   obtain rfl:=oi u
   exact tn ⟨Sv38,wj s d [0] []⟩
  have s:=s.bF 31 rfl h55
  have u:=D6 hc56 h55
  refine rn0 4 s rfl fun a s=>?_
  refine wpList_nil ?_
  obtain rfl:=oi u
  exact tn ⟨Sv38,wj s d [0] []⟩
 rintro a w ⟨Sv57,s,d⟩
 refine mv s rfl rfl fun a s=>?_
 obtain ⟨c75,hc75,u⟩:=bt u
 refine o6 4 (fun a w=>∃ Sv76,Sl 46 [(3,pt b6),(40,.bool c75)] a∧Wd ⟨w0,S0,[]⟩ Sv76 [.box b6 (C36 e1.Position) 36] [] w) ?_ ?_
 ·rcases Bool.eq_false_or_eq_true c56 with h74 | h74
  ·have s:=s.bT 36 rfl h74
   have u:=C9 hc75 h74
   refine rn 2 [0] s d rfl rfl fun a s=>?_
   obtain ⟨rv78,h77,u⟩:=bt u
   refine o8 s (M5 h77 d.bdom) (d9 call64 rfl) ⟨_,rfl,rfl⟩ rfl rfl ?_
   rintro v82 Sv79 w a h80 rfl s
   have d:=d.callB h80
   refine sv s (G6 rfl rfl) rfl fun a s=>?_
   refine wpList_nil ?_
   obtain rfl:=oi u
   exact tn ⟨Sv57,wj s d [0] []⟩
  have s:=s.bF 36 rfl h74
  have u:=D6 hc75 h74
  refine rn0 4 s rfl fun a s=>?_
  refine wpList_nil ?_
  obtain rfl:=oi u
  exact tn ⟨Sv57,wj s d [0] []⟩
 rintro a w ⟨Sv76,s,d⟩
 refine mv s rfl rfl fun a s=>?_
 obtain ⟨c94,hc94,u⟩:=bt u
 refine o6 4 (fun a w=>∃ Sv95,Sl 46 [(45,.bool c94)] a∧Wd ⟨w0,S0,[]⟩ Sv95 [] [] w) ?_ ?_
 ·rcases Bool.eq_false_or_eq_true c75 with h93 | h93
  ·have s:=s.bT 41 rfl h93
   have u:=C9 hc94 h93
   refine rn 2 [0] s d rfl rfl fun a s=>?_
   obtain ⟨rv97,h96,u⟩:=bt u
   refine o8 s (M5 h96 d.bdom) (d9 call64 rfl) ⟨_,rfl,rfl⟩ rfl rfl ?_
   rintro v101 Sv98 w a h99 rfl s
   have d:=d.callB h99
   refine sv s (G6 rfl rfl) rfl fun a s=>?_
   refine wpList_nil ?_
   obtain rfl:=oi u
   exact tn ⟨Sv76,wj s d [] []⟩
  have s:=s.bF 41 rfl h93
  have u:=D6 hc94 h93
  refine rn0 4 s rfl fun a s=>?_
  refine wpList_nil ?_
  obtain rfl:=oi u
  exact tn ⟨Sv76,wj s d [] []⟩
 rintro a w ⟨Sv95,s,d⟩
 refine rz0 1 s rfl fun a s=>?_
 obtain rfl:=oi u
 exact q1 s rfl (d.ret rfl)
theorem a6V {w0 S0 p2 k3 inv1 r} (u:a2c inv1=some r) (hS:Dm S0 w0) (h4:(Sq p2 k3 inv1.Channels).p S0 w0):Ck Tryz.prog 18 #[.agg #[sl p2 k3 inv1.Channels]] w0 S0 [] l7 r:=by
 refine en 84 func18 rfl hS rfl rfl rfl fun a s d=>?_
 have d:=d.addE h4
 refine sr (wb [sl p2 k3 inv1.Channels] s d rfl fun b5 a w s d=>?_)
 refine rz0 1 s rfl fun a s=>?_
 refine wp_seq (sz0 1 s rfl fun a s=>?_)
 refine wp_block (w9 (fun sv608 a w=>∃ Sv1008,Sl 84 [(1,pt b5),(3,iv sv608)] a∧Wd ⟨w0,S0,[]⟩ Sv1008 [.box b5 [sl p2 k3 inv1.Channels] 29] [Sq p2 k3 inv1.Channels] w) 0 u ⟨S0,wj s d [0] [0]⟩ ?_)
 repeat clear u
 rintro sv608 a w tv1209 ⟨Sv1008,s,d⟩ u hd1208
 refine wp_seq (sz 5 [0] s d rfl rfl fun a s=>?_)
 refine cd s u rfl (fun u=>?_) fun u=>?_
 ·refine sk (wp_seq (wp_block (sn 3 [0] s d rfl rfl fun a s=>?_)))
  obtain ⟨x1412,h1410,u⟩:=bt u
  obtain ⟨b1418,o1419,q1416,c1417,h1420,h1413,h1414,h1415,h1411⟩:=d.elemV 0 rfl h1410
  have hsv1421:=s
  have hwv1422:=d
  subst h1420
  have s:=hsv1421
  have d:=hwv1422
  obtain ⟨_,_,_,_,_,rfl,rfl,rfl,rfl,rfl,⟨p1423,n1424,k1425,rfl,h1426⟩⟩:=h1411
  obtain rfl:=h1426.1
  have d:=(d.addE (e:=SlA p1423 _ k1425 x1412.Epochs) h1426).addE h1415
  refine sv s (u7 runUnderlying27 sizeOf73 rfl rfl h1413.1 h1413.2 h1414) rfl fun a s=>?_
  refine sv s (E5 (j:=0) (d.ceAt 0 rfl) rfl isAgg73 sizeOf73 rfl rfl) rfl fun a s=>?_
  refine wa Z2 s d zeroValue73 fun b1427 a w s d=>?_
  refine ws (C73 x1412 p1423 k1425) s d 0 rfl rfl rfl sizeOf73 fun a w s d=>?_
  refine nl (wp_seq (wp_seq ?_))
  obtain ⟨rv1429,h1428,u⟩:=bt u
  obtain ⟨c1445,hc1445,u⟩:=bt u
  obtain ⟨c1448,hc1448,u⟩:=bt u
  refine A8 (fun a w=>∃ Sv1449,Sl 84 [(1,pt b5),(3,iv sv608),(4,pt b1427),(45,.bool c1448)] a∧Wd ⟨w0,S0,[]⟩ Sv1449 [.box b5 [sl (some ⟨b1418,o1419,none⟩) k3 inv1.Channels] 29,.box b1427 (C73 x1412 p1423 k1425) 73] [Sq (some ⟨b1418,o1419,none⟩) k3 inv1.Channels,Sq p1423 k1425 x1412.Epochs] w) ?_ ?_
  ·rcases Bool.eq_false_or_eq_true (!rv1429) with h1450 | h1450
   ·have h1451:=C9 hc1445 h1450
    have h1452:c1445=true:=(Option.some.inj h1451).symm
    have h1453:=C9 hc1448 h1452
    refine h_c [0,1] [0] d rfl rfl (by kernel_rfl) rfl fun hC d=>?_
    refine gn 2 [0,1] [0] s hC rfl rfl rfl fun a s=>?_
    refine ho 2 rfl ?_
    refine cV s d (a0L h1428 d.bdom) (d9 call62 rfl) rfl fun a w s d=>?_
    refine h_n [0,1] [0] d rfl rfl fun hC=>?_
    refine gn 2 [3,4] [] s hC rfl rfl rfl fun a s=>?_
    have s:=s.bT 22 rfl h1450
    refine gn 15 [5,6,7,8,9,10,11,12,13,14,15,16,17,18,19] [] s hC rfl rfl rfl fun a s=>?_
    refine gT s 20 rfl rfl hC rfl rfl h1451 fun a s=>?_
    refine gm s 21 rfl rfl rfl hC fun a s=>?_
    have s:=s.bT 39 rfl h1452
    refine gn 5 [22,23,24,25,26] [] s hC rfl rfl rfl fun a s=>?_
    refine gT s 27 rfl rfl hC rfl rfl h1453 fun a s=>?_
    refine x8 (by kernel_rfl) ?_
    exact ⟨Sv1008,wj s d [1,0] [2,1]⟩
   have h1460:=D6 hc1445 h1450
   obtain ⟨c1475,hc1475,h1460⟩:=U1 h1460
   rcases Bool.eq_false_or_eq_true (decide (0<sv608)) with h1476 | h1476
   ·have h1477:=C9 hc1475 h1476
    obtain ⟨x1480,h1478,h1477⟩:=U1 h1477
    obtain ⟨q1484,c1485,h1481,h1482,h1483,h1479⟩:=d.elemK 2 rfl h1478
    obtain ⟨_,_,_,_,_,rfl,rfl,rfl,rfl,rfl,⟨p1486,n1487,k1488,rfl,h1489⟩⟩:=h1479
    obtain rfl:=h1489.1
    have d:=(d.addE (e:=SlA p1486 _ k1488 x1480.Epochs) h1489).addE h1483
    obtain ⟨rv1491,h1490,h1477⟩:=U1 h1477
    rcases Bool.eq_false_or_eq_true c1445 with h1492 | h1492
    ·have h1493:=C9 hc1448 h1492
     refine h_c [0,1] [0,2] d rfl rfl (by kernel_rfl) rfl fun hC d=>?_
     refine gn 2 [0,1] [0] s hC rfl rfl rfl fun a s=>?_
     refine ho 2 rfl ?_
     refine cV s d (a0L h1428 d.bdom) (d9 call62 rfl) rfl fun a w s d=>?_
     refine h_n [0,1] [0,2] d rfl rfl fun hC=>?_
     refine gn 2 [3,4] [] s hC rfl rfl rfl fun a s=>?_
     have s:=s.bF 22 rfl h1450
     refine gn 3 [5,6,7] [] s hC rfl rfl rfl fun a s=>?_
     have s:=s.bT 25 rfl h1476
     refine gn 4 [8,9,10,11] [1] s hC rfl rfl rfl fun a s=>?_
     refine gx s 12 rfl ⟨_,rfl,rfl⟩ rfl hC runUnderlying27 sizeOf73 rfl rfl h1481 h1482 fun a s=>?_
     refine gt s 13 rfl ⟨_,rfl,rfl⟩ rfl hC (fun w hC=>j6 (o':=q1484+0) runUnderlying73 rfl sizeOf32 rfl rfl rfl) fun a s=>?_
     refine gt s 14 rfl ⟨_,rfl,rfl⟩ rfl hC (fun w hC=>E5 (j:=0) (hC.ceAt 0 rfl) rfl isAgg32 sizeOf32 rfl rfl) fun a s=>?_
     refine gn 2 [15,16] [0] s hC rfl rfl rfl fun a s=>?_
     refine ho 17 rfl ?_
     refine o8 s (a3X h1490 d.bdom) (d9 call63 rfl) ⟨_,rfl,rfl⟩ rfl rfl ?_
     rintro v1503 Sv1500 w a h1501 rfl s
     have d:=d.callB h1501
     refine h_n [0,1] [0,2] d rfl rfl fun hC=>?_
     refine gt s 18 rfl ⟨_,rfl,rfl⟩ rfl hC (fun w hC=>a9F rfl rfl) fun a s=>?_
     refine gt s 19 rfl ⟨_,rfl,rfl⟩ rfl hC (fun w hC=>a5X (v:=.bool c1475) rfl rfl (vbs h1477)) fun a s=>?_
     refine gF s 20 rfl rfl hC rfl rfl h1460 fun a s=>?_
     refine gm s 21 rfl rfl rfl hC fun a s=>?_
     have s:=s.bT 39 rfl h1492
     refine gn 5 [22,23,24,25,26] [] s hC rfl rfl rfl fun a s=>?_
     refine gT s 27 rfl rfl hC rfl rfl h1493 fun a s=>?_
     refine x8 (by kernel_rfl) ?_
     exact ⟨Sv1008,wj s d [1,0] [4,3]⟩
    have h1506:=D6 hc1448 h1492
    obtain ⟨rv1508,h1507,h1506⟩:=U1 h1506
    refine h_c [0,1] [0,2] d rfl rfl (by kernel_rfl) rfl fun hC d=>?_
    refine gn 2 [0,1] [0] s hC rfl rfl rfl fun a s=>?_
    refine ho 2 rfl ?_
    refine cV s d (a0L h1428 d.bdom) (d9 call62 rfl) rfl fun a w s d=>?_
    refine h_n [0,1] [0,2] d rfl rfl fun hC=>?_
    refine gn 2 [3,4] [] s hC rfl rfl rfl fun a s=>?_
    have s:=s.bF 22 rfl h1450
    refine gn 3 [5,6,7] [] s hC rfl rfl rfl fun a s=>?_
    have s:=s.bT 25 rfl h1476
    refine gn 4 [8,9,10,11] [1] s hC rfl rfl rfl fun a s=>?_
    refine gx s 12 rfl ⟨_,rfl,rfl⟩ rfl hC runUnderlying27 sizeOf73 rfl rfl h1481 h1482 fun a s=>?_
    refine gt s 13 rfl ⟨_,rfl,rfl⟩ rfl hC (fun w hC=>j6 (o':=q1484+0) runUnderlying73 rfl sizeOf32 rfl rfl rfl) fun a s=>?_
    refine gt s 14 rfl ⟨_,rfl,rfl⟩ rfl hC (fun w hC=>E5 (j:=0) (hC.ceAt 0 rfl) rfl isAgg32 sizeOf32 rfl rfl) fun a s=>?_
    refine gn 2 [15,16] [0] s hC rfl rfl rfl fun a s=>?_
    refine ho 17 rfl ?_
    refine o8 s (a3X h1490 d.bdom) (d9 call63 rfl) ⟨_,rfl,rfl⟩ rfl rfl ?_
    rintro v1518 Sv1515 w a h1516 rfl s
    have d:=d.callB h1516
    refine h_n [0,1] [0,2] d rfl rfl fun hC=>?_
    refine gt s 18 rfl ⟨_,rfl,rfl⟩ rfl hC (fun w hC=>a9F rfl rfl) fun a s=>?_
    refine gt s 19 rfl ⟨_,rfl,rfl⟩ rfl hC (fun w hC=>a5X (v:=.bool c1475) rfl rfl (vbs h1477)) fun a s=>?_
    refine gF s 20 rfl rfl hC rfl rfl h1460 fun a s=>?_
    refine gm s 21 rfl rfl rfl hC fun a s=>?_
    have s:=s.bF 39 rfl h1492
    refine gn 3 [22,23,24] [0] s hC rfl rfl rfl fun a s=>?_
    refine ho 25 rfl ?_
    refine o8 s (M5 h1507 d.bdom) (d9 call64 rfl) ⟨_,rfl,rfl⟩ rfl rfl ?_
    rintro v1524 Sv1521 w a h1522 rfl s
    have d:=d.callB h1522
    refine h_n [0,1] [0,2] d rfl rfl fun hC=>?_
    refine gt s 26 rfl ⟨_,rfl,rfl⟩ rfl hC (fun w hC=>a9G rfl) fun a s=>?_
    refine gF s 27 rfl rfl hC rfl rfl h1506 fun a s=>?_
    refine x8 (by kernel_rfl) ?_
    exact ⟨Sv1008,wj s d [1,0] [4,3]⟩
   have h1527:=D6 hc1475 h1476
   rcases Bool.eq_false_or_eq_true c1445 with h1528 | h1528
   ·have h1529:=C9 hc1448 h1528
    refine h_c [0,1] [0] d rfl rfl (by kernel_rfl) rfl fun hC d=>?_
    refine gn 2 [0,1] [0] s hC rfl rfl rfl fun a s=>?_
    refine ho 2 rfl ?_
    refine cV s d (a0L h1428 d.bdom) (d9 call62 rfl) rfl fun a w s d=>?_
    refine h_n [0,1] [0] d rfl rfl fun hC=>?_
    refine gn 2 [3,4] [] s hC rfl rfl rfl fun a s=>?_
    have s:=s.bF 22 rfl h1450
    refine gn 3 [5,6,7] [] s hC rfl rfl rfl fun a s=>?_
    have s:=s.bF 25 rfl h1476
    refine gn 11 [8,9,10,11,12,13,14,15,16,17,18] [] s hC rfl rfl rfl fun a s=>?_
    refine gt s 19 rfl ⟨_,rfl,rfl⟩ rfl hC (fun w hC=>a5W (v:=.bool c1475) rfl rfl (vbs h1527)) fun a s=>?_
    refine gF s 20 rfl rfl hC rfl rfl h1460 fun a s=>?_
    refine gm s 21 rfl rfl rfl hC fun a s=>?_
    have s:=s.bT 39 rfl h1528
    refine gn 5 [22,23,24,25,26] [] s hC rfl rfl rfl fun a s=>?_
    refine gT s 27 rfl rfl hC rfl rfl h1529 fun a s=>?_
    refine x8 (by kernel_rfl) ?_
    exact ⟨Sv1008,wj s d [1,0] [2,1]⟩
   have h1536:=D6 hc1448 h1528
   obtain ⟨rv1538,h1537,h1536⟩:=U1 h1536
   refine h_c [0,1] [0] d rfl rfl (by kernel_rfl) rfl fun hC d=>?_
   refine gn 2 [0,1] [0] s hC rfl rfl rfl fun a s=>?_
   refine ho 2 rfl ?_
   refine cV s d (a0L h1428 d.bdom) (d9 call62 rfl) rfl fun a w s d=>?_
   refine h_n [0,1] [0] d rfl rfl fun hC=>?_
   refine gn 2 [3,4] [] s hC rfl rfl rfl fun a s=>?_
   have s:=s.bF 22 rfl h1450
   refine gn 3 [5,6,7] [] s hC rfl rfl rfl fun a s=>?_
   have s:=s.bF 25 rfl h1476
   refine gn 11 [8,9,10,11,12,13,14,15,16,17,18] [] s hC rfl rfl rfl fun a s=>?_
   refine gt s 19 rfl ⟨_,rfl,rfl⟩ rfl hC (fun w hC=>a5W (v:=.bool c1475) rfl rfl (vbs h1527)) fun a s=>?_
   refine gF s 20 rfl rfl hC rfl rfl h1460 fun a s=>?_
   refine gm s 21 rfl rfl rfl hC fun a s=>?_
   have s:=s.bF 39 rfl h1528
   refine gn 3 [22,23,24] [0] s hC rfl rfl rfl fun a s=>?_
   refine ho 25 rfl ?_
   refine o8 s (M5 h1537 d.bdom) (d9 call64 rfl) ⟨_,rfl,rfl⟩ rfl rfl ?_
   rintro v1548 Sv1545 w a h1546 rfl s
   have d:=d.callB h1546
   refine h_n [0,1] [0] d rfl rfl fun hC=>?_
   refine gt s 26 rfl ⟨_,rfl,rfl⟩ rfl hC (fun w hC=>a9G rfl) fun a s=>?_
   refine gF s 27 rfl rfl hC rfl rfl h1536 fun a s=>?_
   refine x8 (by kernel_rfl) ?_
   exact ⟨Sv1008,wj s d [1,0] [2,1]⟩
  rintro a w ⟨Sv1449,s,d⟩
  refine tn (cd s u rfl (fun u=>?_) fun u=>?_)
  ·refine sz0 1 s rfl fun a s=>?_
   obtain rfl:=oi u
   have h1553:=hd1208 _ rfl
   subst h1553
   exact wp_ret (j3 (q9 (j3 (j3 (q9 (j3 (rt s rfl (d.ret rfl))))))))
  refine sk (sz0 1 s rfl fun a s=>?_)
  refine wp_block (w9 (fun sv1709 a w=>∃ Sv1811,Sl 84 [(1,pt b5),(3,iv sv608),(4,pt b1427),(5,iv sv1709)] a∧Wd ⟨w0,S0,[]⟩ Sv1811 [.box b5 [sl (some ⟨b1418,o1419,none⟩) k3 inv1.Channels] 29,.box b1427 (C73 x1412 p1423 k1425) 73] [Sq (some ⟨b1418,o1419,none⟩) k3 inv1.Channels,Sq p1423 k1425 x1412.Epochs] w) 0 u ⟨Sv1449,wj s d [0,1] [0,1]⟩ ?_)
  repeat clear u
  rintro sv1709 a w tv1863 ⟨Sv1811,s,d⟩ u hd1862
  refine wp_seq (sz 5 [1] s d rfl rfl fun a s=>?_)
  refine cd s u rfl (fun u=>?_) fun u=>?_
  ·refine sk (wp_seq (wp_block (wp_seq ?_)))
   obtain ⟨x1917,h1915,u⟩:=bt u
   obtain ⟨b1923,o1924,q1921,c1922,h1925,h1918,h1919,h1920,h1916⟩:=d.elemV 1 rfl h1915
   have hsv1926:=s
   have hwv1927:=d
   subst h1925
   have s:=hsv1926
   have d:=hwv1927
   obtain ⟨_,_,_,_,_,_,_,_,rfl,rfl,rfl,rfl,rfl,rfl,rfl,rfl,⟨p1928,n1929,k1930,rfl,h1931⟩⟩:=h1916
   obtain rfl:=h1931.1
   have d:=(d.addE (e:=SlA p1928 _ k1930 x1917.Response.Stages) h1931).addE h1920
   obtain ⟨rv1933,h1932,u⟩:=bt u
   obtain ⟨c1959,hc1959,u⟩:=bt u
   refine A8 (fun a w=>∃ Sv1960,Sl 84 [(1,pt b5),(3,iv sv608),(4,pt b1427),(5,iv sv1709),(79,.bool c1959)] a∧Wd ⟨w0,S0,[]⟩ Sv1960 [.box b5 [sl (some ⟨b1418,o1419,none⟩) k3 inv1.Channels] 29,.box b1427 (C73 x1412 (some ⟨b1923,o1924,none⟩) k1425) 73] [Sq (some ⟨b1418,o1419,none⟩) k3 inv1.Channels,Sq (some ⟨b1923,o1924,none⟩) k1425 x1412.Epochs] w) ?_ ?_
   ·rcases Bool.eq_false_or_eq_true (!rv1933) with h1961 | h1961
    ·have h1962:=C9 hc1959 h1961
     refine h_c [0,1] [0] d rfl rfl (by kernel_rfl) rfl fun hC d=>?_
     refine gn 3 [0,1,2] [1] s hC rfl rfl rfl fun a s=>?_
     refine gx s 3 rfl trivial rfl hC runUnderlying71 sizeOf41 rfl rfl h1918 h1919 fun a s=>?_
     refine gv s 4 rfl rfl hC (fun w hC=>E5 (j:=0) (hC.ceAt 0 rfl) rfl isAgg41 sizeOf41 rfl rfl) fun a s=>?_
     refine ho 5 rfl ?_
     refine cV s d (a0F h1932 d.bdom (d.bE 1 rfl)) (d9 call65 rfl) rfl fun a w s d=>?_
     refine h_n [0,1] [0] d rfl rfl fun hC=>?_
     refine gn 2 [6,7] [] s hC rfl rfl rfl fun a s=>?_
     have s:=s.bT 60 rfl h1961
     refine gn 18 [8,9,10,11,12,13,14,15,16,17,18,19,20,21,22,23,24,25] [] s hC rfl rfl rfl fun a s=>?_
     refine gT s 26 rfl rfl hC rfl rfl h1962 fun a s=>?_
     refine x8 (by kernel_rfl) ?_
     exact ⟨Sv1811,wj s d [0,1] [2,3]⟩
    have h1969:=D6 hc1959 h1961
    obtain ⟨c1994,hc1994,h1969⟩:=U1 h1969
    rcases Bool.eq_false_or_eq_true (decide (0<sv1709)) with h1995 | h1995
    ·have h1996:=C9 hc1994 h1995
     obtain ⟨x1999,h1997,h1996⟩:=U1 h1996
     obtain ⟨q2003,c2004,h2000,h2001,h2002,h1998⟩:=d.elemK 3 rfl h1997
     obtain ⟨_,_,_,_,_,_,_,_,rfl,rfl,rfl,rfl,rfl,rfl,rfl,rfl,⟨p2005,n2006,k2007,rfl,h2008⟩⟩:=h1998
     obtain rfl:=h2008.1
     have d:=(d.addE (e:=SlA p2005 _ k2007 x1999.Response.Stages) h2008).addE h2002
     obtain ⟨x2011,h2009,h1996⟩:=U1 h1996
     obtain ⟨q2015,c2016,h2012,h2013,h2014,h2010⟩:=d.elemK 5 rfl h2009
     obtain ⟨_,_,_,_,_,_,_,_,rfl,rfl,rfl,rfl,rfl,rfl,rfl,rfl,⟨p2017,n2018,k2019,rfl,h2020⟩⟩:=h2010
     obtain rfl:=h2020.1
     have d:=(d.addE (e:=SlA p2017 _ k2019 x2011.Response.Stages) h2020).addE h2014
     refine h_c [0,1] [0,2,4] d rfl rfl (by kernel_rfl) rfl fun hC d=>?_
     refine gn 3 [0,1,2] [1] s hC rfl rfl rfl fun a s=>?_
     refine gx s 3 rfl trivial rfl hC runUnderlying71 sizeOf41 rfl rfl h1918 h1919 fun a s=>?_
     refine gv s 4 rfl rfl hC (fun w hC=>E5 (j:=0) (hC.ceAt 2 rfl) rfl isAgg41 sizeOf41 rfl rfl) fun a s=>?_
     refine ho 5 rfl ?_
     refine cV s d (a0F h1932 d.bdom (d.bE 5 rfl)) (d9 call65 rfl) rfl fun a w s d=>?_
     refine h_n [0,1] [0,2,4] d rfl rfl fun hC=>?_
     refine gn 2 [6,7] [] s hC rfl rfl rfl fun a s=>?_
     have s:=s.bF 60 rfl h1961
     refine gn 3 [8,9,10] [] s hC rfl rfl rfl fun a s=>?_
     have s:=s.bT 63 rfl h1995
     refine gn 3 [11,12,13] [1] s hC rfl rfl rfl fun a s=>?_
     refine gx s 14 rfl ⟨_,rfl,rfl⟩ rfl hC runUnderlying71 sizeOf41 rfl rfl h2000 h2001 fun a s=>?_
     refine gt s 15 rfl ⟨_,rfl,rfl⟩ rfl hC (fun w hC=>j6 (o':=q2003+0) runUnderlying41 rfl sizeOf3 rfl rfl rfl) fun a s=>?_
     refine gt s 16 rfl ⟨_,rfl,rfl⟩ rfl hC (fun w hC=>H5 (j:=0) (hC.ceAt 1 rfl) rfl isAgg3 rfl) fun a s=>?_
     refine gn 4 [17,18,19,20] [1] s hC rfl rfl rfl fun a s=>?_
     refine gx s 21 rfl ⟨_,rfl,rfl⟩ rfl hC runUnderlying71 sizeOf41 rfl rfl h2012 h2013 fun a s=>?_
     refine gt s 22 rfl ⟨_,rfl,rfl⟩ rfl hC (fun w hC=>j6 (o':=q2015+1) runUnderlying41 rfl sizeOf3 rfl rfl rfl) fun a s=>?_
     refine gt s 23 rfl ⟨_,rfl,rfl⟩ rfl hC (fun w hC=>H5 (j:=1) (hC.ceAt 0 rfl) rfl isAgg3 rfl) fun a s=>?_
     refine gt s 24 rfl ⟨_,rfl,rfl⟩ rfl hC (fun w hC=>b1w rfl rfl) fun a s=>?_
     refine gt s 25 rfl ⟨_,rfl,rfl⟩ rfl hC (fun w hC=>a5X (v:=.bool c1994) rfl rfl (vbs h1996)) fun a s=>?_
     refine gF s 26 rfl rfl hC rfl rfl h1969 fun a s=>?_
     refine x8 (by kernel_rfl) ?_
     exact ⟨Sv1811,wj s d [0,1] [6,7]⟩
    have h2027:=D6 hc1994 h1995
    refine h_c [0,1] [0] d rfl rfl (by kernel_rfl) rfl fun hC d=>?_
    refine gn 3 [0,1,2] [1] s hC rfl rfl rfl fun a s=>?_
    refine gx s 3 rfl trivial rfl hC runUnderlying71 sizeOf41 rfl rfl h1918 h1919 fun a s=>?_
    refine gv s 4 rfl rfl hC (fun w hC=>E5 (j:=0) (hC.ceAt 0 rfl) rfl isAgg41 sizeOf41 rfl rfl) fun a s=>?_
    refine ho 5 rfl ?_
    refine cV s d (a0F h1932 d.bdom (d.bE 1 rfl)) (d9 call65 rfl) rfl fun a w s d=>?_
    refine h_n [0,1] [0] d rfl rfl fun hC=>?_
    refine gn 2 [6,7] [] s hC rfl rfl rfl fun a s=>?_
    have s:=s.bF 60 rfl h1961
    refine gn 3 [8,9,10] [] s hC rfl rfl rfl fun a s=>?_
    have s:=s.bF 63 rfl h1995
    refine gn 14 [11,12,13,14,15,16,17,18,19,20,21,22,23,24] [] s hC rfl rfl rfl fun a s=>?_
    refine gt s 25 rfl ⟨_,rfl,rfl⟩ rfl hC (fun w hC=>a5W (v:=.bool c1994) rfl rfl (vbs h2027)) fun a s=>?_
    refine gF s 26 rfl rfl hC rfl rfl h1969 fun a s=>?_
    refine x8 (by kernel_rfl) ?_
    exact ⟨Sv1811,wj s d [0,1] [2,3]⟩
   rintro a w ⟨Sv1960,s,d⟩
   refine tn (cd s u rfl (fun u=>?_) fun u=>?_)
   ·refine sz0 1 s rfl fun a s=>?_
    obtain rfl:=oi u
    have h2036:=hd1862 _ rfl
    subst h2036
    have h2037:=hd1208 _ rfl
    subst h2037
    exact wp_ret (q9 (j3 (j3 (q9 (q9 (j3 (j3 (q9 (j3 (rt s rfl (d.ret rfl)))))))))))
   refine wp_skip (l9 (tn (wp_region_lit (rn0 2 s rfl fun a s=>?_))))
   obtain ⟨k2039,h2038,u⟩:=bt u
   refine sv s (u6 rfl h2038) rfl fun a s=>?_
   exact nl ⟨_,io u,Sv1960,wj s d [0,1] [0,1]⟩
  obtain ⟨rv2042,u,h2043⟩:=a0d u
  have h2043:=(hd1862 _ h2043.symm).symm
  subst h2043
  refine wp_exit (j4 (j4 (r9 (l9 (tn (wp_region_lit (rn0 2 s rfl fun a s=>?_)))))))
  obtain ⟨i2041,h2040,u⟩:=bt u
  refine sv s (u6 rfl h2040) rfl fun a s=>?_
  exact nl ⟨_,io u,Sv1811,wj s d [0] [0]⟩
 obtain ⟨rv2044,u,h2045⟩:=a0d u
 have h2045:=(hd1208 _ h2045.symm).symm
 subst h2045
 refine wp_exit (j4 (j4 (r9 (tn (sz 5 [0] s d rfl rfl fun a s=>?_)))))
 obtain rfl:=oi u
 exact q1 s rfl (d.ret rfl)
theorem a8j {w0 S0 p2 k3 p6 k7 a1 b5 r} (u:a2P a1 b5=some r) (hS:Dm S0 w0) (h4:(Sq p2 k3 a1.Taps).p S0 w0) (h8:(Sq p6 k7 b5.Taps).p S0 w0):Ck Tryz.prog 116 #[V138 a1 p2 k3,V138 b5 p6 k7] w0 S0 [] l7 r:=by
 refine en 66 func116 rfl hS rfl rfl rfl fun a s d=>?_
 have d:=(d.addE h4).addE h8
 refine sr (wb (a1r a1 p2 k3) s d rfl fun b9 a w s d=>?_)
 refine wb (a1r b5 p6 k7) s d rfl fun b10 a w s d=>?_
 refine rz0 1 s rfl fun a s=>?_
 refine wp_seq (sn 6 [1,0] s d rfl rfl fun a s=>?_)
 refine o6 6 (fun a w1=>w=w1∧Sl 66 [(2,pt b9),(3,pt b10),(17,.bool ((a1.Kind != b5.Kind) || (!((a1.Num.e0 == b5.Num.e0) && ((a1.Num.e1 == b5.Num.e1) && ((a1.Num.e2 == b5.Num.e2) && true))))))] a) ?_ ?_
 ·rcases Bool.eq_false_or_eq_true (a1.Kind != b5.Kind) with h11 | h11
  ·have s:=s.bT 11 rfl h11
   refine rz0 6 s rfl fun a s=>?_
   exact ⟨rfl,(s.fix 17 (.bool ((a1.Kind != b5.Kind) || (!((a1.Num.e0 == b5.Num.e0) && ((a1.Num.e1 == b5.Num.e1) && ((a1.Num.e2 == b5.Num.e2) && true)))))) rfl (or_t h11)).weaken _ ⟨rfl,rfl,rfl,trivial⟩⟩
  have s:=s.bF 11 rfl h11
  refine rn 4 [1,0] s d rfl rfl fun a s=>?_
  refine y7 s (a9w (by kernel_rfl) rfl rfl (a1C runUnderlying136 sizeOf3 (EqA.cons1 isAgg3 rfl rfl (F4 runUnderlying3) (EqA.cons1 isAgg3 rfl rfl (F4 runUnderlying3) (EqA.cons1 isAgg3 rfl rfl (F4 runUnderlying3) EqA.nil))))) ⟨_,rfl,rfl⟩ rfl rfl fun a s=>?_
  refine rz0 1 s rfl fun a s=>?_
  exact ⟨rfl,(s.fix 17 (.bool ((a1.Kind != b5.Kind) || (!((a1.Num.e0 == b5.Num.e0) && ((a1.Num.e1 == b5.Num.e1) && ((a1.Num.e2 == b5.Num.e2) && true)))))) rfl (or_f h11)).weaken _ ⟨rfl,rfl,rfl,trivial⟩⟩
 rintro a w1 ⟨h281,s⟩
 subst h281
 refine mv s rfl rfl fun a s=>?_
 refine o6 6 (fun a w1=>w=w1∧Sl 66 [(2,pt b9),(3,pt b10),(24,.bool (((a1.Kind != b5.Kind) || (!((a1.Num.e0 == b5.Num.e0) && ((a1.Num.e1 == b5.Num.e1) && ((a1.Num.e2 == b5.Num.e2) && true))))) || (!((a1.Den.e0 == b5.Den.e0) && ((a1.Den.e1 == b5.Den.e1) && ((a1.Den.e2 == b5.Den.e2) && true))))))] a) ?_ ?_
 ·rcases Bool.eq_false_or_eq_true ((a1.Kind != b5.Kind) || (!((a1.Num.e0 == b5.Num.e0) && ((a1.Num.e1 == b5.Num.e1) && ((a1.Num.e2 == b5.Num.e2) && true))))) with h12 | h12
  ·have s:=s.bT 18 rfl h12
   refine rz0 6 s rfl fun a s=>?_
   exact ⟨rfl,(s.fix 24 (.bool (((a1.Kind != b5.Kind) || (!((a1.Num.e0 == b5.Num.e0) && ((a1.Num.e1 == b5.Num.e1) && ((a1.Num.e2 == b5.Num.e2) && true))))) || (!((a1.Den.e0 == b5.Den.e0) && ((a1.Den.e1 == b5.Den.e1) && ((a1.Den.e2 == b5.Den.e2) && true)))))) rfl (or_t h12)).weaken _ ⟨rfl,rfl,rfl,trivial⟩⟩
  have s:=s.bF 18 rfl h12
  refine rn 4 [1,0] s d rfl rfl fun a s=>?_
  refine y7 s (a9w (by kernel_rfl) rfl rfl (a1C runUnderlying136 sizeOf3 (EqA.cons1 isAgg3 rfl rfl (F4 runUnderlying3) (EqA.cons1 isAgg3 rfl rfl (F4 runUnderlying3) (EqA.cons1 isAgg3 rfl rfl (F4 runUnderlying3) EqA.nil))))) ⟨_,rfl,rfl⟩ rfl rfl fun a s=>?_
  refine rz0 1 s rfl fun a s=>?_
  exact ⟨rfl,(s.fix 24 (.bool (((a1.Kind != b5.Kind) || (!((a1.Num.e0 == b5.Num.e0) && ((a1.Num.e1 == b5.Num.e1) && ((a1.Num.e2 == b5.Num.e2) && true))))) || (!((a1.Den.e0 == b5.Den.e0) && ((a1.Den.e1 == b5.Den.e1) && ((a1.Den.e2 == b5.Den.e2) && true)))))) rfl (or_f h12)).weaken _ ⟨rfl,rfl,rfl,trivial⟩⟩
 rintro a w1 ⟨h280,s⟩
 subst h280
 refine mv s rfl rfl fun a s=>?_
 refine rO 6 25 [1,0] s d rfl rfl rfl rfl rfl fun a s=>?_
 refine mv s rfl rfl fun a s=>?_
 refine rO 6 32 [1,0] s d rfl rfl rfl rfl rfl fun a s=>?_
 refine mv s rfl rfl fun a s=>?_
 refine rO 8 39 [1,0] s d rfl rfl rfl rfl rfl fun a s=>?_
 refine nl (cd s u rfl (fun u=>?_) fun u=>?_)
 ·refine sz0 1 s rfl fun a s=>?_
  obtain rfl:=oi u
  exact wp_ret (j3 (rt s rfl (d.ret rfl)))
 refine sk (wp_seq (sz0 1 s rfl fun a s=>?_))
 refine wp_block (w9 (fun sv116 a w=>∃ Sv180,Sl 66 [(2,pt b9),(3,pt b10),(5,iv sv116)] a∧Wd ⟨w0,S0,[]⟩ Sv180 [.box b9 (a1r a1 p2 k3) 138,.box b10 (a1r b5 p6 k7) 138] [Sq p2 k3 a1.Taps,Sq p6 k7 b5.Taps] w) 0 u ⟨S0,wj s d [1,0] [1,0]⟩ ?_)
 repeat clear u
 rintro sv116 a w tv213 ⟨Sv180,s,d⟩ u hd212
 refine wp_seq (sz 5 [0] s d rfl rfl fun a s=>?_)
 refine cd s u rfl (fun u=>?_) fun u=>?_
 ·refine sk (wp_seq (wp_block (wp_seq ?_)))
  obtain ⟨x248,h246,u⟩:=bt u
  obtain ⟨b254,o255,q252,c253,h256,h249,h250,h251,h247⟩:=d.elemV 0 rfl h246
  have hsv257:=s
  have hwv258:=d
  subst h256
  have s:=hsv257
  have d:=hwv258
  obtain ⟨_,rfl,rfl⟩:=h247
  have d:=d.addE h251
  obtain ⟨x261,h259,u⟩:=bt u
  obtain ⟨b267,o268,q265,c266,h269,h262,h263,h264,h260⟩:=d.elemV 2 rfl h259
  have hsv270:=s
  have hwv271:=d
  subst h269
  have s:=hsv270
  have d:=hwv271
  obtain ⟨_,rfl,rfl⟩:=h260
  have d:=d.addE h264
  refine A8 (fun a w=>∃ Sv272,Sl 66 [(2,pt b9),(3,pt b10),(5,iv sv116),(65,.bool (x248 != x261))] a∧Wd ⟨w0,S0,[]⟩ Sv272 [.box b9 (a1r a1 (some ⟨b254,o255,none⟩) k3) 138,.box b10 (a1r b5 (some ⟨b267,o268,none⟩) k7) 138] [Sq (some ⟨b254,o255,none⟩) k3 a1.Taps,Sq (some ⟨b267,o268,none⟩) k7 b5.Taps] w) ?_ ?_
  ·refine h_c [0,1] [0,1] d rfl rfl (by kernel_rfl) rfl fun hC d=>?_
   refine gn 3 [0,1,2] [0] s hC rfl rfl rfl fun a s=>?_
   refine gx s 3 rfl trivial rfl hC runUnderlying22 sizeOf3 rfl rfl h249 h250 fun a s=>?_
   refine gv s 4 rfl rfl hC (fun w hC=>H5 (j:=0) (hC.ceAt 1 rfl) rfl isAgg3 rfl) fun a s=>?_
   refine gn 3 [5,6,7] [1] s hC rfl rfl rfl fun a s=>?_
   refine gx s 8 rfl trivial rfl hC runUnderlying22 sizeOf3 rfl rfl h262 h263 fun a s=>?_
   refine gv s 9 rfl rfl hC (fun w hC=>H5 (j:=0) (hC.ceAt 0 rfl) rfl isAgg3 rfl) fun a s=>?_
   refine gv s 10 rfl rfl hC (fun w hC=>y_neq rfl rfl) fun a s=>?_
   refine x8 (by kernel_rfl) ?_
   exact ⟨Sv180,wj s d [0,1] [2,3]⟩
  rintro a w ⟨Sv272,s,d⟩
  refine tn (cd s u rfl (fun u=>?_) fun u=>?_)
  ·refine sz0 1 s rfl fun a s=>?_
   obtain rfl:=oi u
   have h275:=hd212 _ rfl
   subst h275
   exact wp_ret (q9 (j3 (j3 (q9 (j3 (rt s rfl (d.ret rfl)))))))
  refine wp_skip (l9 (tn (wp_region_lit (rn0 2 s rfl fun a s=>?_))))
  obtain ⟨i277,h276,u⟩:=bt u
  refine sv s (u6 rfl h276) rfl fun a s=>?_
  exact nl ⟨_,io u,Sv272,wj s d [0,1] [0,1]⟩
 obtain ⟨rv278,u,h279⟩:=a0d u
 have h279:=(hd212 _ h279.symm).symm
 subst h279
 refine wp_exit (j4 (j4 (r9 (tn (sz0 1 s rfl fun a s=>?_)))))
 obtain rfl:=oi u
 exact q1 s rfl (d.ret rfl)
theorem b0T {w0 S0 p2 k3 p6 k7 a1 b5 r} (u:a6o a1 b5=some r) (hS:Dm S0 w0) (h4:(Sq p2 k3 a1.Stages).p S0 w0) (h8:(Sq p6 k7 b5.Stages).p S0 w0):Ck Tryz.prog 70 #[.agg #[sl p2 k3 a1.Stages],.agg #[sl p6 k7 b5.Stages]] w0 S0 [] l7 r:=by
 refine en 32 func70 rfl hS rfl rfl rfl fun a s d=>?_
 have d:=(d.addE h4).addE h8
 refine sr (wb [sl p2 k3 a1.Stages] s d rfl fun b9 a w s d=>?_)
 refine wb [sl p6 k7 b5.Stages] s d rfl fun b10 a w s d=>?_
 refine rz0 1 s rfl fun a s=>?_
 refine wp_seq (sz 7 [1,0] s d rfl rfl fun a s=>?_)
 refine cd s u rfl (fun u=>?_) fun u=>?_
 ·refine sz0 1 s rfl fun a s=>?_
  obtain rfl:=oi u
  exact wp_ret (j3 (rt s rfl (d.ret rfl)))
 refine sk (wp_seq (sz0 1 s rfl fun a s=>?_))
 refine wp_block (w9 (fun sv141 a w=>∃ Sv225,Sl 32 [(2,pt b9),(3,pt b10),(5,iv sv141)] a∧Wd ⟨w0,S0,[]⟩ Sv225 [.box b9 [sl p2 k3 a1.Stages] 39,.box b10 [sl p6 k7 b5.Stages] 39] [Sq p2 k3 a1.Stages,Sq p6 k7 b5.Stages] w) 0 u ⟨S0,wj s d [1,0] [1,0]⟩ ?_)
 repeat clear u
 rintro sv141 a w tv268 ⟨Sv225,s,d⟩ u hd267
 refine wp_seq (sz 5 [0] s d rfl rfl fun a s=>?_)
 refine cd s u rfl (fun u=>?_) fun u=>?_
 ·refine sk (wp_seq (wp_block (wp_seq ?_)))
  obtain ⟨x313,h311,u⟩:=bt u
  obtain ⟨b319,o320,q317,c318,h321,h314,h315,h316,h312⟩:=d.elemV 0 rfl h311
  have hsv322:=s
  have hwv323:=d
  subst h321
  have s:=hsv322
  have d:=hwv323
  obtain ⟨_,_,_,_,_,_,_,_,_,_,rfl,rfl,rfl,rfl,rfl,rfl,rfl,rfl,⟨p324,n325,k326,rfl,h327⟩,rfl,rfl⟩:=h312
  obtain rfl:=h327.1
  have d:=(d.addE (e:=SlA p324 _ k326 x313.Taps) h327).addE h316
  obtain ⟨x330,h328,u⟩:=bt u
  obtain ⟨b336,o337,q334,c335,h338,h331,h332,h333,h329⟩:=d.elemV 3 rfl h328
  have hsv339:=s
  have hwv340:=d
  subst h338
  have s:=hsv339
  have d:=hwv340
  obtain ⟨_,_,_,_,_,_,_,_,_,_,rfl,rfl,rfl,rfl,rfl,rfl,rfl,rfl,⟨p341,n342,k343,rfl,h344⟩,rfl,rfl⟩:=h329
  obtain rfl:=h344.1
  have d:=(d.addE (e:=SlA p341 _ k343 x330.Taps) h344).addE h333
  obtain ⟨rv346,h345,u⟩:=bt u
  refine A8 (fun a w=>∃ Sv347,Sl 32 [(2,pt b9),(3,pt b10),(5,iv sv141),(31,.bool (!rv346))] a∧Wd ⟨w0,S0,[]⟩ Sv347 [.box b9 [sl (some ⟨b319,o320,none⟩) k3 a1.Stages] 39,.box b10 [sl (some ⟨b336,o337,none⟩) k7 b5.Stages] 39] [Sq (some ⟨b319,o320,none⟩) k3 a1.Stages,Sq (some ⟨b336,o337,none⟩) k7 b5.Stages] w) ?_ ?_
  ·refine h_c [0,1] [0,2] d rfl rfl (by kernel_rfl) rfl fun hC d=>?_
   refine gn 3 [0,1,2] [0] s hC rfl rfl rfl fun a s=>?_
   refine gx s 3 rfl trivial rfl hC runUnderlying37 sizeOf138 rfl rfl h314 h315 fun a s=>?_
   refine gv s 4 rfl rfl hC (fun w hC=>E5 (j:=0) (hC.ceAt 1 rfl) rfl isAgg138 sizeOf138 rfl rfl) fun a s=>?_
   refine gn 3 [5,6,7] [1] s hC rfl rfl rfl fun a s=>?_
   refine gx s 8 rfl trivial rfl hC runUnderlying37 sizeOf138 rfl rfl h331 h332 fun a s=>?_
   refine gv s 9 rfl rfl hC (fun w hC=>E5 (j:=0) (hC.ceAt 0 rfl) rfl isAgg138 sizeOf138 rfl rfl) fun a s=>?_
   refine ho 10 rfl ?_
   refine cV s d (a8j h345 d.bdom (d.bE 3 rfl) (d.bE 1 rfl)) (d9 call116 rfl) rfl fun a w s d=>?_
   refine h_n [0,1] [0,2] d rfl rfl fun hC=>?_
   refine gv s 11 rfl rfl hC (fun w hC=>a9G rfl) fun a s=>?_
   refine x8 (by kernel_rfl) ?_
   exact ⟨Sv225,wj s d [0,1] [4,5]⟩
  rintro a w ⟨Sv347,s,d⟩
  refine tn (cd s u rfl (fun u=>?_) fun u=>?_)
  ·refine sz0 1 s rfl fun a s=>?_
   obtain rfl:=oi u
   have h356:=hd267 _ rfl
   subst h356
   exact wp_ret (q9 (j3 (j3 (q9 (j3 (rt s rfl (d.ret rfl)))))))
  refine wp_skip (l9 (tn (wp_region_lit (rn0 2 s rfl fun a s=>?_))))
  obtain ⟨i358,h357,u⟩:=bt u
  refine sv s (u6 rfl h357) rfl fun a s=>?_
  exact nl ⟨_,io u,Sv347,wj s d [0,1] [0,1]⟩
 obtain ⟨rv359,u,h360⟩:=a0d u
 have h360:=(hd267 _ h360.symm).symm
 subst h360
 refine wp_exit (j4 (j4 (r9 (tn (sz0 1 s rfl fun a s=>?_)))))
 obtain rfl:=oi u
 exact q1 s rfl (d.ret rfl)
theorem a5d {w0 S0 p2 k3 p6 k7 a1 b5 r} (u:V5 a1 b5=some r) (hS:Dm S0 w0) (h4:(Sq p2 k3 a1.Response.Stages).p S0 w0) (h8:(Sq p6 k7 b5.Response.Stages).p S0 w0):Ck Tryz.prog 26 #[V41 a1 p2 k3,V41 b5 p6 k7] w0 S0 [] l7 r:=by
 refine en 38 func26 rfl hS rfl rfl rfl fun a s d=>?_
 have d:=(d.addE h4).addE h8
 refine sr (wb (C41 a1 p2 k3) s d rfl fun b9 a w s d=>?_)
 refine wb (C41 b5 p6 k7) s d rfl fun b10 a w s d=>?_
 refine rz0 1 s rfl fun a s=>?_
 refine sn 6 [1,0] s d rfl rfl fun a s=>?_
 refine rA 6 10 [1,0] s d rfl rfl rfl rfl rfl fun a s=>?_
 refine mv s rfl rfl fun a s=>?_
 refine o6 6 (fun a w1=>w=w1∧Sl 38 [(2,pt b9),(3,pt b10),(23,.bool (((a1.From == b5.From) && (a1.To == b5.To)) && ((a1.Rate.Num == b5.Rate.Num) && ((a1.Rate.Den == b5.Rate.Den) && true))))] a) ?_ ?_
 ·rcases Bool.eq_false_or_eq_true ((a1.From == b5.From) && (a1.To == b5.To)) with h12 | h12
  ·have s:=s.bT 17 rfl h12
   refine rn 4 [1,0] s d rfl rfl fun a s=>?_
   refine y7 s (a1K (by kernel_rfl) rfl rfl (R4 runUnderlying34 (by kernel_rfl) (EqF.cons1 rfl isAgg3 rfl rfl (F4 runUnderlying3) (EqF.cons1 rfl isAgg3 rfl rfl (F4 runUnderlying3) EqF.nil)))) ⟨_,rfl,rfl⟩ rfl rfl fun a s=>?_
   refine rz0 1 s rfl fun a s=>?_
   exact ⟨rfl,(s.fix 23 (.bool (((a1.From == b5.From) && (a1.To == b5.To)) && ((a1.Rate.Num == b5.Rate.Num) && ((a1.Rate.Den == b5.Rate.Den) && true)))) rfl (a3b h12)).weaken _ ⟨rfl,rfl,rfl,trivial⟩⟩
  have s:=s.bF 17 rfl h12
  refine rz0 6 s rfl fun a s=>?_
  exact ⟨rfl,(s.fix 23 (.bool (((a1.From == b5.From) && (a1.To == b5.To)) && ((a1.Rate.Num == b5.Rate.Num) && ((a1.Rate.Den == b5.Rate.Den) && true)))) rfl (a3a h12)).weaken _ ⟨rfl,rfl,rfl,trivial⟩⟩
 rintro a w1 ⟨h34,s⟩
 subst h34
 refine mv s rfl rfl fun a s=>?_
 refine o6 6 (fun a w1=>w=w1∧Sl 38 [(2,pt b9),(3,pt b10),(30,.bool ((((a1.From == b5.From) && (a1.To == b5.To)) && ((a1.Rate.Num == b5.Rate.Num) && ((a1.Rate.Den == b5.Rate.Den) && true))) && ((a1.Position.X == b5.Position.X) && ((a1.Position.Y == b5.Position.Y) && ((a1.Position.Z == b5.Position.Z) && true)))))] a) ?_ ?_
 ·rcases Bool.eq_false_or_eq_true (((a1.From == b5.From) && (a1.To == b5.To)) && ((a1.Rate.Num == b5.Rate.Num) && ((a1.Rate.Den == b5.Rate.Den) && true))) with h13 | h13
  ·have s:=s.bT 24 rfl h13
   refine rn 4 [1,0] s d rfl rfl fun a s=>?_
   refine y7 s (a1K (by kernel_rfl) rfl rfl (R4 runUnderlying36 (by kernel_rfl) (EqF.cons1 rfl isAgg3 rfl rfl (F4 runUnderlying3) (EqF.cons1 rfl isAgg3 rfl rfl (F4 runUnderlying3) (EqF.cons1 rfl isAgg3 rfl rfl (F4 runUnderlying3) EqF.nil))))) ⟨_,rfl,rfl⟩ rfl rfl fun a s=>?_
   refine rz0 1 s rfl fun a s=>?_
   exact ⟨rfl,(s.fix 30 (.bool ((((a1.From == b5.From) && (a1.To == b5.To)) && ((a1.Rate.Num == b5.Rate.Num) && ((a1.Rate.Den == b5.Rate.Den) && true))) && ((a1.Position.X == b5.Position.X) && ((a1.Position.Y == b5.Position.Y) && ((a1.Position.Z == b5.Position.Z) && true))))) rfl (a3b h13)).weaken _ ⟨rfl,rfl,rfl,trivial⟩⟩
  have s:=s.bF 24 rfl h13
  refine rz0 6 s rfl fun a s=>?_
  exact ⟨rfl,(s.fix 30 (.bool ((((a1.From == b5.From) && (a1.To == b5.To)) && ((a1.Rate.Num == b5.Rate.Num) && ((a1.Rate.Den == b5.Rate.Den) && true))) && ((a1.Position.X == b5.Position.X) && ((a1.Position.Y == b5.Position.Y) && ((a1.Position.Z == b5.Position.Z) && true))))) rfl (a3a h13)).weaken _ ⟨rfl,rfl,rfl,trivial⟩⟩
 rintro a w1 ⟨h33,s⟩
 subst h33
 refine mv s rfl rfl fun a s=>?_
 obtain ⟨c23,hc23,u⟩:=bt u
 refine o6 6 (fun a w=>∃ Sv24,Sl 38 [(37,.bool c23)] a∧Wd ⟨w0,S0,[]⟩ Sv24 [] [] w) ?_ ?_
 ·rcases Bool.eq_false_or_eq_true ((((a1.From == b5.From) && (a1.To == b5.To)) && ((a1.Rate.Num == b5.Rate.Num) && ((a1.Rate.Den == b5.Rate.Den) && true))) && ((a1.Position.X == b5.Position.X) && ((a1.Position.Y == b5.Position.Y) && ((a1.Position.Z == b5.Position.Z) && true)))) with h22 | h22
  ·have s:=s.bT 31 rfl h22
   have u:=C9 hc23 h22
   refine rn 4 [1,0] s d rfl rfl fun a s=>?_
   obtain ⟨rv26,h25,u⟩:=bt u
   refine o8 s (b0T h25 d.bdom (d.bE 1 rfl) (d.bE 0 rfl)) (d9 call70 rfl) ⟨_,rfl,rfl⟩ rfl rfl ?_
   rintro v30 Sv27 w a h28 rfl s
   have d:=d.callB h28
   refine sv s (G6 rfl rfl) rfl fun a s=>?_
   refine wpList_nil ?_
   obtain rfl:=oi u
   exact tn ⟨S0,wj s d [] []⟩
  have s:=s.bF 31 rfl h22
  have u:=D6 hc23 h22
  refine rn0 6 s rfl fun a s=>?_
  refine wpList_nil ?_
  obtain rfl:=oi u
  exact tn ⟨S0,wj s d [] []⟩
 rintro a w ⟨Sv24,s,d⟩
 refine rz0 1 s rfl fun a s=>?_
 obtain rfl:=oi u
 exact q1 s rfl (d.ret rfl)
theorem b0V {w0 S0 p2 k3 e1 r} (u:a6s e1=some r) (hS:Dm S0 w0) (h4:(Sq p2 k3 e1.Response.Stages).p S0 w0):Ck Tryz.prog 117 #[V41 e1 p2 k3] w0 S0 [] l7 r:=by
 refine en 6 func117 rfl hS rfl rfl rfl fun a s d=>?_
 have d:=d.addE h4
 refine sr (wb (C41 e1 p2 k3) s d rfl fun b5 a w s d=>?_)
 refine rz0 1 s rfl fun a s=>?_
 refine sn 1 [0] s d rfl rfl fun a s=>?_
 refine sv s (y9 (vs:=[]) Bld41 rfl rfl) rfl fun a s=>?_
 obtain ⟨rv7,h6,u⟩:=bt u
 have d:=d.addE (e:=SlA (α:=Stage) none 0 0 []) K9
 refine cV s d (a5d h6 d.bdom (d.bE 1 rfl) (d.bE 0 rfl)) (d9 call26 rfl) rfl fun a w s d=>?_
 refine rz0 1 s rfl fun a s=>?_
 obtain rfl:=oi u
 exact q1 s rfl (d.ret rfl)
theorem b0U {w0 S0 p2 k3 p6 k7 inv1 c5 r} (u:a6r inv1 c5=some r) (hS:Dm S0 w0) (h4:(Sq p2 k3 inv1.Channels).p S0 w0) (h8:(Sq p6 k7 c5.Epoch.Response.Stages).p S0 w0):Ck Tryz.prog 72 #[.agg #[sl p2 k3 inv1.Channels],V43 c5 p6 k7] w0 S0 [] l7 r:=by
 refine en 42 func72 rfl hS rfl rfl rfl fun a s d=>?_
 have d:=(d.addE h4).addE h8
 refine sr (wb [sl p2 k3 inv1.Channels] s d rfl fun b9 a w s d=>?_)
 refine wb (C43 c5 p6 k7) s d rfl fun b10 a w s d=>?_
 refine rz0 1 s rfl fun a s=>?_
 refine wp_seq (sn 1 [1] s d rfl rfl fun a s=>?_)
 obtain ⟨rv12,h11,u⟩:=bt u
 refine cV s d (a6V h11 d.bdom (d.bE 1 rfl)) (d9 call18 rfl) rfl fun a w s d=>?_
 refine rn0 2 s rfl fun a s=>?_
 obtain ⟨c28,hc28,u⟩:=bt u
 refine o6 5 (fun a w=>∃ Sv29,Sl 42 [(3,pt b10),(13,.bool c28)] a∧Wd ⟨w0,S0,[]⟩ Sv29 [.box b10 (C43 c5 p6 k7) 43] [Sq p6 k7 c5.Epoch.Response.Stages] w) ?_ ?_
 ·rcases Bool.eq_false_or_eq_true (!rv12) with h27 | h27
  ·have s:=s.bT 8 rfl h27
   have u:=C9 hc28 h27
   refine rn0 5 s rfl fun a s=>?_
   refine wpList_nil ?_
   obtain rfl:=oi u
   exact tn ⟨S0,wj s d [0] [0]⟩
  have s:=s.bF 8 rfl h27
  have u:=D6 hc28 h27
  refine rn 2 [0] s d rfl rfl fun a s=>?_
  obtain ⟨rv31,h30,u⟩:=bt u
  refine o8 s (M5 h30 d.bdom) (d9 call64 rfl) ⟨_,rfl,rfl⟩ rfl rfl ?_
  rintro v35 Sv32 w a h33 rfl s
  have d:=d.callB h33
  refine rn0 2 s rfl fun a s=>?_
  refine wpList_nil ?_
  obtain rfl:=oi u
  exact tn ⟨S0,wj s d [0] [0]⟩
 rintro a w ⟨Sv29,s,d⟩
 refine mv s rfl rfl fun a s=>?_
 obtain ⟨c47,hc47,u⟩:=bt u
 refine o6 5 (fun a w=>∃ Sv48,Sl 42 [(3,pt b10),(19,.bool c47)] a∧Wd ⟨w0,S0,[]⟩ Sv48 [.box b10 (C43 c5 p6 k7) 43] [Sq p6 k7 c5.Epoch.Response.Stages] w) ?_ ?_
 ·rcases Bool.eq_false_or_eq_true c28 with h46 | h46
  ·have s:=s.bT 14 rfl h46
   have u:=C9 hc47 h46
   refine rn0 5 s rfl fun a s=>?_
   refine wpList_nil ?_
   obtain rfl:=oi u
   exact tn ⟨Sv29,wj s d [0] [0]⟩
  have s:=s.bF 14 rfl h46
  have u:=D6 hc47 h46
  refine rn 2 [0] s d rfl rfl fun a s=>?_
  obtain ⟨rv50,h49,u⟩:=bt u
  refine o8 s (a0L h49 d.bdom) (d9 call62 rfl) ⟨_,rfl,rfl⟩ rfl rfl ?_
  rintro v54 Sv51 w a h52 rfl s
  have d:=d.callB h52
  refine rn0 2 s rfl fun a s=>?_
  refine wpList_nil ?_
  obtain rfl:=oi u
  exact tn ⟨Sv29,wj s d [0] [0]⟩
 rintro a w ⟨Sv48,s,d⟩
 refine nl (cd s u rfl (fun u=>?_) fun u=>?_)
 ·refine sz0 1 s rfl fun a s=>?_
  obtain rfl:=oi u
  exact wp_ret (j3 (rt s rfl (d.ret rfl)))
 refine sk (wp_seq (sz 3 [0] s d rfl rfl fun a s=>?_))
 refine cd s u rfl (fun u=>?_) fun u=>?_
 ·refine sn 2 [0] s d rfl rfl fun a s=>?_
  obtain ⟨rv70,h69,u⟩:=bt u
  refine cV s d (b0V h69 d.bdom (d.bE 0 rfl)) (d9 call117 rfl) rfl fun a w s d=>?_
  refine rz0 1 s rfl fun a s=>?_
  obtain rfl:=oi u
  exact wp_ret (j3 (rt s rfl (d.ret rfl)))
 refine sk (sn 2 [0] s d rfl rfl fun a s=>?_)
 obtain ⟨rv78,h77,u⟩:=bt u
 refine cV s d (a0F h77 d.bdom (d.bE 0 rfl)) (d9 call65 rfl) rfl fun a w s d=>?_
 refine mv s rfl rfl fun a s=>?_
 refine o6 12 (fun a w1=>w=w1∧Sl 42 [(41,.bool (rv78 && ((c5.Kind == 2) || (c5.From == c5.Epoch.From))))] a) ?_ ?_
 ·rcases Bool.eq_false_or_eq_true rv78 with h86 | h86
  ·have s:=s.bT 29 rfl h86
   refine rn 4 [0] s d rfl rfl fun a s=>?_
   refine rO 7 33 [0,0] s d rfl rfl rfl rfl rfl fun a s=>?_
   refine rz0 1 s rfl fun a s=>?_
   exact ⟨rfl,(s.fix 41 (.bool (rv78 && ((c5.Kind == 2) || (c5.From == c5.Epoch.From)))) rfl (a3b h86)).weaken _ ⟨rfl,trivial⟩⟩
  have s:=s.bF 29 rfl h86
  refine rz0 12 s rfl fun a s=>?_
  exact ⟨rfl,(s.fix 41 (.bool (rv78 && ((c5.Kind == 2) || (c5.From == c5.Epoch.From)))) rfl (a3a h86)).weaken _ ⟨rfl,trivial⟩⟩
 rintro a w1 ⟨h89,s⟩
 subst h89
 refine rz0 1 s rfl fun a s=>?_
 obtain rfl:=oi u
 exact q1 s rfl (d.ret rfl)
abbrev a9V:List Value:=[.slice none ([]:List Channel).length 0]
theorem a4m {w0 S0 p2 k3 inv1 r} (u:a2X inv1=some r) (hS:Dm S0 w0) (h4:(Sq p2 k3 inv1.Channels).p S0 w0):Ck Tryz.prog 73 #[.agg #[sl p2 k3 inv1.Channels]] w0 S0 [] a5k r:=by
 refine en 54 func73 rfl hS rfl rfl rfl fun a s d=>?_
 have d:=d.addE h4
 refine sr (wb [sl p2 k3 inv1.Channels] s d rfl fun b5 a w s d=>?_)
 refine wa a9V s d zeroValue29 fun b6 a w s d=>?_
 refine nl (sr (wa a9V s d zeroValue29 fun b7 a w s d=>?_))
 refine nl (wp_seq (sz0 1 s rfl fun a s=>?_))
 obtain ⟨e680,h1264,u⟩:=bt u
 refine y8 (fun a w=>∃ c681 p682 k683 Sv684,Sl 54 [(2,pt b6),(3,pt b7)] a∧Wd ⟨w0,S0,[]⟩ Sv684 [.box b6 a9V 29,.box b7 [sl p682 k683 e680] 29,.row p682 e680.length k683 c681 73 5] [Sq none 0 ([]:List Channel),j5 c681 e680] w) ?_ ?_
 ·refine wp_block ?_
  have d:=(d.nilRow Channel 73).addE (e:=SlA (α:=Channel) none 0 0 []) K9
  refine w9 (fun sv8 a w=>∃ c453 p454 k455 Sv456,Sl 54 [(1,pt b5),(2,pt b6),(3,pt b7),(4,iv sv8.2)] a∧Wd ⟨w0,S0,[]⟩ Sv456 [.box b5 [sl p2 k3 inv1.Channels] 29,.box b6 a9V 29,.box b7 [sl p454 k455 sv8.1] 29,.row p454 sv8.1.length k455 c453 73 5] [Sq p2 k3 inv1.Channels,Sq none 0 ([]:List Channel),j5 c453 sv8.1] w) (([]:List Channel),0) h1264 ⟨[],none,0,S0,wj s d [3,2,1,0] [2,0,1]⟩ ?_
  clear h1264
  repeat clear u
  rintro sv8 a w tv678 ⟨c453,p454,k455,Sv456,s,d⟩ u hd677
  refine wp_seq (sz 5 [0] s d rfl rfl fun a s=>?_)
  refine cd s u rfl (fun u=>?_) fun u=>?_
  ·refine sk (wp_seq (wp_block (sn 3 [0] s d rfl rfl fun a s=>?_)))
   obtain ⟨x906,h904,u⟩:=bt u
   obtain ⟨b912,o913,q910,c911,h914,h907,h908,h909,h905⟩:=d.elemV 0 rfl h904
   have hsv915:=s
   have hwv916:=d
   subst h914
   have s:=hsv915
   have d:=hwv916
   obtain ⟨_,_,_,_,_,rfl,rfl,rfl,rfl,rfl,⟨p917,n918,k919,rfl,h920⟩⟩:=h905
   obtain rfl:=h920.1
   have d:=(d.addE (e:=SlA p917 _ k919 x906.Epochs) h920).addE h909
   refine sv s (u7 runUnderlying27 sizeOf73 rfl rfl h907.1 h907.2 h908) rfl fun a s=>?_
   refine sv s (j6 (o':=q910+0) runUnderlying73 rfl sizeOf32 rfl rfl rfl) rfl fun a s=>?_
   refine sv s (E5 (j:=0) (d.ceAt 0 rfl) rfl isAgg32 sizeOf32 rfl rfl) rfl fun a s=>?_
   refine sv s (y9 (vs:=[(0,V32 x906.Source)]) b2i rfl rfl) rfl fun a s=>?_
   refine wa Z2 s d zeroValue73 fun b921 a w s d=>?_
   refine ws (C73 ⟨x906.Source,([]:List Epoch)⟩ none 0) s d 0 rfl rfl rfl sizeOf73 fun a w s d=>?_
   refine nl (wp_seq (sz0 1 s rfl fun a s=>?_))
   obtain ⟨e1108,h1262,u⟩:=bt u
   refine y8 (fun a w=>∃ c1109 p1110 k1111 Sv1112,Sl 54 [(1,pt b5),(2,pt b6),(3,pt b7),(4,iv sv8.2),(5,pt b921)] a∧Wd ⟨w0,S0,[]⟩ Sv1112 [.box b5 [sl (some ⟨b912,o913,none⟩) k3 inv1.Channels] 29,.box b6 a9V 29,.box b7 [sl p454 k455 sv8.1] 29,.box b921 (C73 ⟨x906.Source,e1108⟩ p1110 k1111) 73,.row p454 sv8.1.length k455 c453 73 5,.row p1110 e1108.length k1111 c1109 41 8] [Sq (some ⟨b912,o913,none⟩) k3 inv1.Channels,Sq none 0 ([]:List Channel),j5 c453 sv8.1,j5 c1109 e1108] w) ?_ ?_
   ·refine wp_block ?_
    have d:=d.nilRow Epoch 41
    refine w9 (fun sv922 a w=>∃ c1043 p1044 k1045 Sv1046,Sl 54 [(1,pt b5),(2,pt b6),(3,pt b7),(4,iv sv8.2),(5,pt b921),(6,iv sv922.2)] a∧Wd ⟨w0,S0,[]⟩ Sv1046 [.box b5 [sl (some ⟨b912,o913,none⟩) k3 inv1.Channels] 29,.box b6 a9V 29,.box b7 [sl p454 k455 sv8.1] 29,.box b921 (C73 ⟨x906.Source,sv922.1⟩ p1044 k1045) 73,.row p454 sv8.1.length k455 c453 73 5,.row p1044 sv922.1.length k1045 c1043 41 8] [Sq (some ⟨b912,o913,none⟩) k3 inv1.Channels,Sq none 0 ([]:List Channel),j5 c453 sv8.1,j5 c1043 sv922.1] w) (([]:List Epoch),0) h1262 ⟨[],none,0,Sv456,wj s d [2,3,4,1,5,0] [3,4,5,0]⟩ ?_
    clear h1262
    repeat clear u
    rintro sv922 a w tv1106 ⟨c1043,p1044,k1045,Sv1046,s,d⟩ u hd1105
    refine wp_seq (sn 4 [0] s d rfl rfl fun a s=>?_)
    obtain ⟨x1115,h1113,u⟩:=bt u
    obtain ⟨q1119,c1120,h1116,h1117,h1118,h1114⟩:=d.elemK 0 rfl h1113
    obtain ⟨_,_,_,_,_,rfl,rfl,rfl,rfl,rfl,⟨p1121,n1122,k1123,rfl,h1124⟩⟩:=h1114
    obtain rfl:=h1124.1
    have d:=(d.addE (e:=SlA p1121 _ k1123 x1115.Epochs) h1124).addE h1118
    refine sv s (u7 runUnderlying27 sizeOf73 rfl rfl h1116.1 h1116.2 h1117) rfl fun a s=>?_
    refine sv s (j6 (o':=q1119+4) runUnderlying73 rfl sizeOf71 rfl rfl rfl) rfl fun a s=>?_
    refine sv s (H5 (j:=4) (d.ceAt 0 rfl) rfl isAgg71 rfl) rfl fun a s=>?_
    refine rz0 2 s rfl fun a s=>?_
    refine cd s u rfl (fun u=>?_) fun u=>?_
    ·refine sk (wp_seq (wp_block ?_))
     obtain ⟨x1172,h1170,u⟩:=bt u
     obtain ⟨q1176,c1177,h1173,h1174,h1175,h1171⟩:=d.elemK 2 rfl h1170
     obtain ⟨_,_,_,_,_,rfl,rfl,rfl,rfl,rfl,⟨p1178,n1179,k1180,rfl,h1181⟩⟩:=h1171
     obtain rfl:=h1181.1
     have d:=(d.addE (e:=SlA p1178 _ k1180 x1172.Epochs) h1181).addE h1175
     obtain ⟨x1184,h1182,u⟩:=bt u
     obtain ⟨b1190,o1191,q1188,c1189,h1192,h1185,h1186,h1187,h1183⟩:=d.elemV 1 rfl h1182
     have hsv1193:=s
     have hwv1194:=d
     subst h1192
     have s:=hsv1193
     have d:=hwv1194
     obtain ⟨_,_,_,_,_,_,_,_,rfl,rfl,rfl,rfl,rfl,rfl,rfl,rfl,⟨p1195,n1196,k1197,rfl,h1198⟩⟩:=h1183
     obtain rfl:=h1198.1
     have d:=(d.addE (e:=SlA p1195 _ k1197 x1184.Response.Stages) h1198).addE h1187
     obtain ⟨rv1200,h1199,u⟩:=bt u
     obtain ⟨l1208,h1207,u⟩:=bt u
     refine A8 (fun a w=>∃ Sv1212 c1211 k1210 p1209,Sl 54 [(1,pt b5),(2,pt b6),(3,pt b7),(4,iv sv8.2),(5,pt b921),(6,iv sv922.2)] a∧Wd ⟨w0,S0,[]⟩ Sv1212 [.box b5 [sl (some ⟨b912,o913,none⟩) k3 inv1.Channels] 29,.box b6 a9V 29,.box b7 [sl p454 k455 sv8.1] 29,.box b921 (C73 ⟨x906.Source,l1208⟩ p1209 k1210) 73,.row p454 sv8.1.length k455 c453 73 5,.row p1209 l1208.length k1210 c1211 41 8] [Sq (some ⟨b912,o913,none⟩) k3 inv1.Channels,Sq none 0 ([]:List Channel),j5 c453 sv8.1,j5 c1211 l1208] w) ?_ ?_
     ·refine h_c [0,1,2,4] [0,2,4] d rfl rfl (by kernel_rfl) rfl fun hC d=>?_
      refine gn 4 [0,2,3,4] [0] s hC rfl rfl rfl fun a s=>?_
      refine gx s 5 rfl trivial rfl hC runUnderlying27 sizeOf73 rfl rfl h1173 h1174 fun a s=>?_
      refine gv s 6 rfl rfl hC (fun w hC=>j6 (o':=q1176+4) runUnderlying73 rfl sizeOf71 rfl rfl rfl) fun a s=>?_
      refine gv s 7 rfl rfl hC (fun w hC=>H5 (j:=4) (hC.ceAt 1 rfl) rfl isAgg71 rfl) fun a s=>?_
      refine gm s 8 rfl rfl rfl hC fun a s=>?_
      refine gx s 9 rfl trivial rfl hC runUnderlying71 sizeOf41 rfl rfl h1185 h1186 fun a s=>?_
      refine gv s 10 rfl rfl hC (fun w hC=>E5 (j:=0) (hC.ceAt 0 rfl) rfl isAgg41 sizeOf41 rfl rfl) fun a s=>?_
      refine a3g (rs:=[1,11]) (by kernel_rfl) rfl ?_
      refine P5.cons rfl ?_ ?_
      ·refine sv s (U8 (d.ownAt 3 rfl) rfl isAgg71 rfl) rfl fun a s=>?_
       refine h_n [0,1,2,4] [0,2,4] d rfl rfl fun hC=>?_
       refine ho 11 rfl ?_
       refine cR s (Y4 h1199 d.dom (d.envAt 1 rfl)) (d9 call45 rfl) rfl ?_
       rintro v1216 Sv1213 w a h1214 ⟨p1201,k1202,c1204,rfl,h1217,h1203⟩ s
       have d:=(d.callN h1214 h1217).addE (e:=j5 c1204 rv1200.Response.Stages) h1203
       refine h_n [1,2,3,5] [1,3,5] d rfl rfl fun hC=>?_
       refine ho 12 rfl ?_
       obtain ⟨Sv1219,d⟩:=A9 (α:=Stage) d 0 rfl 0 rfl
       refine x9 (α:=Epoch) (vs:=[V41 rv1200 p1201 k1202]) (cs:=(C41 rv1200 p1201 k1202)) (xs:=([rv1200]:List Epoch)) s d a5I rfl rfl rfl rfl rfl rfl ⟨⟨_,_,_,_,_,_,_,_,rfl,rfl,rfl,rfl,rfl,rfl,rfl,rfl,⟨_,_,_,rfl,d.envAt 0 rfl⟩⟩,rfl⟩ rfl trivial rfl fun b1206 a w s d=>?_
       refine h_n [1,2,3,5] [3,5,7] d rfl rfl fun hC=>?_
       refine h_d [1,2,3,5,0] [3,5,7] [0,1,2,3] [0,1,2] d rfl rfl rfl rfl fun hC=>?_
       refine ho 13 rfl ?_
       refine M3 (α:=Epoch) s d a5I 6 rfl rfl rfl 12 rfl 0 rfl 0 rfl h1207 rfl trivial ?_
       intro p1209 k1210 c1211 a w s d
       refine h_n [1,2,3,5,0] [4,6,8] d rfl rfl fun hC=>?_
       refine gv s 14 rfl rfl hC (fun w hC=>j6 (o':=4) runUnderlying73 rfl sizeOf71 rfl rfl rfl) fun a s=>?_
       refine ho 15 rfl ?_
       refine ws (C73 ⟨x906.Source,l1208⟩ p1209 k1210) s d 4 rfl rfl rfl sizeOf71 fun a w s d=>?_
       refine h_n [1,2,3,5,0] [4,6,8] d rfl rfl fun hC=>?_
       refine x8 (by kernel_rfl) ?_
       exact ⟨Sv1219,c1211,k1210,p1209,wj s d [1,2,3,4,5,6] [10,11,12,0]⟩
      refine P5.cons rfl ?_ ?_
      ·refine cR s (Y4 h1199 d.dom (d.envAt 1 rfl)) (d9 call45 rfl) rfl ?_
       rintro v1223 Sv1220 w a h1221 ⟨p1201,k1202,c1204,rfl,h1224,h1203⟩ s
       have d:=(d.callN h1221 h1224).addE (e:=j5 c1204 rv1200.Response.Stages) h1203
       refine h_n [1,2,3,5] [1,3,5] d rfl rfl fun hC=>?_
       refine a3g (rs:=[1,12]) (by kernel_rfl) rfl ?_
       refine P5.cons rfl ?_ ?_
       ·refine sv s (U8 (d.ownAt 4 rfl) rfl isAgg71 rfl) rfl fun a s=>?_
        refine h_n [1,2,3,5] [1,3,5] d rfl rfl fun hC=>?_
        refine ho 12 rfl ?_
        obtain ⟨Sv1226,d⟩:=A9 (α:=Stage) d 0 rfl 0 rfl
        refine x9 (α:=Epoch) (vs:=[V41 rv1200 p1201 k1202]) (cs:=(C41 rv1200 p1201 k1202)) (xs:=([rv1200]:List Epoch)) s d a5I rfl rfl rfl rfl rfl rfl ⟨⟨_,_,_,_,_,_,_,_,rfl,rfl,rfl,rfl,rfl,rfl,rfl,rfl,⟨_,_,_,rfl,d.envAt 0 rfl⟩⟩,rfl⟩ rfl trivial rfl fun b1206 a w s d=>?_
        refine h_n [1,2,3,5] [3,5,7] d rfl rfl fun hC=>?_
        refine h_d [1,2,3,5,0] [3,5,7] [0,1,2,3] [0,1,2] d rfl rfl rfl rfl fun hC=>?_
        refine ho 13 rfl ?_
        refine M3 (α:=Epoch) s d a5I 6 rfl rfl rfl 12 rfl 0 rfl 0 rfl h1207 rfl trivial ?_
        intro p1209 k1210 c1211 a w s d
        refine h_n [1,2,3,5,0] [4,6,8] d rfl rfl fun hC=>?_
        refine gv s 14 rfl rfl hC (fun w hC=>j6 (o':=4) runUnderlying73 rfl sizeOf71 rfl rfl rfl) fun a s=>?_
        refine ho 15 rfl ?_
        refine ws (C73 ⟨x906.Source,l1208⟩ p1209 k1210) s d 4 rfl rfl rfl sizeOf71 fun a w s d=>?_
        refine h_n [1,2,3,5,0] [4,6,8] d rfl rfl fun hC=>?_
        refine x8 (by kernel_rfl) ?_
        exact ⟨Sv1226,c1211,k1210,p1209,wj s d [1,2,3,4,5,6] [10,11,12,0]⟩
       refine P5.cons rfl ?_ ?_
       ·obtain ⟨Sv1227,d⟩:=A9 (α:=Stage) d 0 rfl 0 rfl
        refine x9 (α:=Epoch) (vs:=[V41 rv1200 p1201 k1202]) (cs:=(C41 rv1200 p1201 k1202)) (xs:=([rv1200]:List Epoch)) s d a5I rfl rfl rfl rfl rfl rfl ⟨⟨_,_,_,_,_,_,_,_,rfl,rfl,rfl,rfl,rfl,rfl,rfl,rfl,⟨_,_,_,rfl,d.envAt 0 rfl⟩⟩,rfl⟩ rfl trivial rfl fun b1206 a w s d=>?_
        refine h_n [1,2,3,5] [3,5,7] d rfl rfl fun hC=>?_
        refine h_d [1,2,3,5,0] [3,5,7] [0,1,2,3] [0,1,2] d rfl rfl rfl rfl fun hC=>?_
        refine ho 1 rfl ?_
        refine sv s (U8 (d.ownAt 4 rfl) rfl isAgg71 rfl) rfl fun a s=>?_
        refine h_n [1,2,3,5,0] [3,5,7] d rfl rfl fun hC=>?_
        refine ho 13 rfl ?_
        refine M3 (α:=Epoch) s d a5I 6 rfl rfl rfl 12 rfl 0 rfl 0 rfl h1207 rfl trivial ?_
        intro p1209 k1210 c1211 a w s d
        refine h_n [1,2,3,5,0] [4,6,8] d rfl rfl fun hC=>?_
        refine gv s 14 rfl rfl hC (fun w hC=>j6 (o':=4) runUnderlying73 rfl sizeOf71 rfl rfl rfl) fun a s=>?_
        refine ho 15 rfl ?_
        refine ws (C73 ⟨x906.Source,l1208⟩ p1209 k1210) s d 4 rfl rfl rfl sizeOf71 fun a w s d=>?_
        refine h_n [1,2,3,5,0] [4,6,8] d rfl rfl fun hC=>?_
        refine x8 (by kernel_rfl) ?_
        exact ⟨Sv1227,c1211,k1210,p1209,wj s d [1,2,3,4,5,6] [10,11,12,0]⟩
       exact P5.nil
      exact P5.nil
     rintro a w ⟨Sv1212,c1211,k1210,p1209,s,d⟩
     refine l9 (tn (wp_region_lit (rn0 2 s rfl fun a s=>?_)))
     obtain ⟨k1250,h1249,u⟩:=bt u
     refine sv s (u6 rfl h1249) rfl fun a s=>?_
     exact nl ⟨_,io u,c1211,p1209,k1210,Sv1212,wj s d [0,1,2,3,4,5] [0,1,2,3]⟩
    refine wp_exit (j4 (j4 (r9 ?_)))
    obtain rfl:=oi u
    have h1251:=hd1105 _ rfl
    subst h1251
    exact tn ⟨c1043,p1044,k1045,Sv1046,wj s d [0,1,2,3,4,5] [2,3,4,5]⟩
   rintro a w ⟨c1109,p1110,k1111,Sv1112,s,d⟩
   refine tn (wp_region_lit (rn 3 [2,3] s d rfl rfl fun a s=>?_))
   obtain ⟨Sv1254,d⟩:=A9 (α:=Epoch) d 5 rfl 3 rfl
   refine x9 (α:=Channel) (vs:=[V73 ⟨x906.Source,e1108⟩ p1110 k1111]) (cs:=(C73 ⟨x906.Source,e1108⟩ p1110 k1111)) (xs:=([(⟨x906.Source,e1108⟩:Channel)]:List Channel)) s d a6L rfl rfl rfl rfl rfl rfl ⟨⟨_,_,_,_,_,rfl,rfl,rfl,rfl,rfl,⟨_,_,_,rfl,d.envAt 0 rfl⟩⟩,rfl⟩ rfl trivial rfl fun b1253 a w s d=>?_
   obtain ⟨l1256,h1255,u⟩:=bt u
   refine M3 (α:=Channel) s d a6L 5 rfl rfl rfl 4 rfl 0 rfl 0 rfl h1255 rfl trivial ?_
   intro p1257 k1258 c1259 a w s d
   refine sv s (j6 (o':=0) runUnderlying29 rfl sizeOf27 rfl rfl rfl) rfl fun a s=>?_
   refine ws [sl p1257 k1258 l1256] s d 3 rfl rfl rfl sizeOf27 fun a w s d=>?_
   refine wpList_nil ?_
   refine l9 (tn (wp_region_lit (rn0 2 s rfl fun a s=>?_)))
   obtain ⟨i1261,h1260,u⟩:=bt u
   refine sv s (u6 rfl h1260) rfl fun a s=>?_
   exact nl ⟨_,io u,c1259,p1257,k1258,Sv1254,wj s d [1,2,3,5] [3,4,0]⟩
  refine wp_exit (j4 (j4 (r9 ?_)))
  obtain rfl:=oi u
  have h1263:=hd677 _ rfl
  subst h1263
  exact tn ⟨c453,p454,k455,Sv456,wj s d [1,2,3] [1,2]⟩
 rintro a w ⟨c681,p682,k683,Sv684,s,d⟩
 refine tn (sn 1 [1] s d rfl rfl fun a s=>?_)
 refine ws [sl p682 k683 e680] s d 0 rfl rfl rfl sizeOf29 fun a w s d=>?_
 refine nl ?_
 obtain rfl:=oi u
 exact wp_ret (a6u s rfl (D8 d 0 rfl rfl isAgg29 sizeOf29 rfl) (d.ret ⟨p682,k683,c681,rfl,(d.outs [2] (by decide) rfl),(d.envAt 1 rfl)⟩))
abbrev b0o (w0:World) (X:List Nat) (r:(Int × Int)):Rd:=fun S w v=>v=.tuple #[iv r.1,iv r.2]
theorem b0n {w0 S0 p2 k3 p6 k7 inv1 c5 r} (u:a3j inv1 c5=some r) (hS:Dm S0 w0) (h4:(Sq p2 k3 inv1.Channels).p S0 w0) (h8:(Sq p6 k7 c5.Epoch.Response.Stages).p S0 w0):Ck Tryz.prog 74 #[.agg #[sl p2 k3 inv1.Channels],V43 c5 p6 k7] w0 S0 [] b0o r:=by
 refine en 51 func74 rfl hS rfl rfl rfl fun a s d=>?_
 have d:=(d.addE h4).addE h8
 refine sr (wb [sl p2 k3 inv1.Channels] s d rfl fun b9 a w s d=>?_)
 refine wb (C43 c5 p6 k7) s d rfl fun b10 a w s d=>?_
 refine rz0 2 s rfl fun a s=>?_
 refine wp_seq (sz0 1 s rfl fun a s=>?_)
 refine wp_block (w9 (fun sv511 a w=>∃ Sv843,Sl 51 [(2,pt b9),(3,pt b10),(6,iv sv511)] a∧Wd ⟨w0,S0,[]⟩ Sv843 [.box b9 [sl p2 k3 inv1.Channels] 29,.box b10 (C43 c5 p6 k7) 43] [Sq p2 k3 inv1.Channels,Sq p6 k7 c5.Epoch.Response.Stages] w) 0 u ⟨S0,wj s d [1,0] [1,0]⟩ ?_)
 repeat clear u
 rintro sv511 a w tv1010 ⟨Sv843,s,d⟩ u hd1009
 refine wp_seq (sz 5 [0] s d rfl rfl fun a s=>?_)
 refine cd s u rfl (fun u=>?_) fun u=>?_
 ·refine sk (wp_seq (wp_block (wp_seq (wp_seq ?_))))
  obtain ⟨x1179,h1177,u⟩:=bt u
  obtain ⟨b1185,o1186,q1183,c1184,h1187,h1180,h1181,h1182,h1178⟩:=d.elemV 0 rfl h1177
  have hsv1188:=s
  have hwv1189:=d
  subst h1187
  have s:=hsv1188
  have d:=hwv1189
  obtain ⟨_,_,_,_,_,rfl,rfl,rfl,rfl,rfl,⟨p1190,n1191,k1192,rfl,h1193⟩⟩:=h1178
  obtain rfl:=h1193.1
  have d:=(d.addE (e:=SlA p1190 _ k1192 x1179.Epochs) h1193).addE h1182
  refine A8 (fun a w=>∃ Sv1194,Sl 51 [(2,pt b9),(3,pt b10),(6,iv sv511),(23,.bool (!((x1179.Source.Network == c5.Source.Network) && ((x1179.Source.Station == c5.Source.Station) && ((x1179.Source.Location == c5.Source.Location) && ((x1179.Source.Channel == c5.Source.Channel) && true))))))] a∧Wd ⟨w0,S0,[]⟩ Sv1194 [.box b9 [sl (some ⟨b1185,o1186,none⟩) k3 inv1.Channels] 29,.box b10 (C43 c5 p6 k7) 43] [Sq (some ⟨b1185,o1186,none⟩) k3 inv1.Channels,Sq p6 k7 c5.Epoch.Response.Stages] w) ?_ ?_
  ·refine h_c [0,1] [0] d rfl rfl (by kernel_rfl) rfl fun hC d=>?_
   refine gn 3 [0,1,2] [0] s hC rfl rfl rfl fun a s=>?_
   refine gx s 3 rfl trivial rfl hC runUnderlying27 sizeOf73 rfl rfl h1180 h1181 fun a s=>?_
   refine gv s 4 rfl rfl hC (fun w hC=>j6 (o':=q1183+0) runUnderlying73 rfl sizeOf32 rfl rfl rfl) fun a s=>?_
   refine gv s 5 rfl rfl hC (fun w hC=>E5 (j:=0) (hC.ceAt 0 rfl) rfl isAgg32 sizeOf32 rfl rfl) fun a s=>?_
   refine gn 2 [6,7] [1] s hC rfl rfl rfl fun a s=>?_
   refine gv s 8 rfl rfl hC (fun w hC=>a9w (by kernel_rfl) rfl rfl (R4 runUnderlying32 (by kernel_rfl) (EqF.cons1 rfl isAgg9 rfl rfl (O5 runUnderlying9) (EqF.cons1 rfl isAgg9 rfl rfl (O5 runUnderlying9) (EqF.cons1 rfl isAgg9 rfl rfl (O5 runUnderlying9) (EqF.cons1 rfl isAgg9 rfl rfl (O5 runUnderlying9) EqF.nil)))))) fun a s=>?_
   refine x8 (by kernel_rfl) ?_
   exact ⟨Sv843,wj s d [0,1] [2,3]⟩
  rintro a w ⟨Sv1194,s,d⟩
  refine tn (cd s u rfl (fun u=>?_) fun u=>?_)
  ·refine wp_exit (j4 (r9 (tn (wp_region_lit (rn0 2 s rfl fun a s=>?_)))))
   obtain ⟨i1198,h1197,u⟩:=bt u
   refine sv s (u6 rfl h1197) rfl fun a s=>?_
   exact nl ⟨_,io u,Sv1194,wj s d [0,1] [0,1]⟩
  refine sk (wp_seq (sz0 1 s rfl fun a s=>?_))
  refine wp_block (w9 (fun sv1342 a w=>∃ Sv1436,Sl 51 [(2,pt b9),(3,pt b10),(6,iv sv511),(7,iv sv1342)] a∧Wd ⟨w0,S0,[]⟩ Sv1436 [.box b9 [sl (some ⟨b1185,o1186,none⟩) k3 inv1.Channels] 29,.box b10 (C43 c5 p6 k7) 43] [Sq (some ⟨b1185,o1186,none⟩) k3 inv1.Channels,Sq p6 k7 c5.Epoch.Response.Stages] w) 0 u ⟨Sv1194,wj s d [0,1] [0,1]⟩ ?_)
  repeat clear u
  rintro sv1342 a w tv1484 ⟨Sv1436,s,d⟩ u hd1483
  refine wp_seq (sn 4 [0] s d rfl rfl fun a s=>?_)
  obtain ⟨x1487,h1485,u⟩:=bt u
  obtain ⟨q1491,c1492,h1488,h1489,h1490,h1486⟩:=d.elemK 0 rfl h1485
  obtain ⟨_,_,_,_,_,rfl,rfl,rfl,rfl,rfl,⟨p1493,n1494,k1495,rfl,h1496⟩⟩:=h1486
  obtain rfl:=h1496.1
  have d:=(d.addE (e:=SlA p1493 _ k1495 x1487.Epochs) h1496).addE h1490
  refine sv s (u7 runUnderlying27 sizeOf73 rfl rfl h1488.1 h1488.2 h1489) rfl fun a s=>?_
  refine sv s (j6 (o':=q1491+4) runUnderlying73 rfl sizeOf71 rfl rfl rfl) rfl fun a s=>?_
  refine sv s (H5 (j:=4) (d.ceAt 0 rfl) rfl isAgg71 rfl) rfl fun a s=>?_
  refine rz0 2 s rfl fun a s=>?_
  refine cd s u rfl (fun u=>?_) fun u=>?_
  ·refine sk (wp_seq (wp_block (wp_seq ?_)))
   obtain ⟨x1534,h1532,u⟩:=bt u
   obtain ⟨q1538,c1539,h1535,h1536,h1537,h1533⟩:=d.elemK 2 rfl h1532
   obtain ⟨_,_,_,_,_,rfl,rfl,rfl,rfl,rfl,⟨p1540,n1541,k1542,rfl,h1543⟩⟩:=h1533
   obtain rfl:=h1543.1
   have d:=(d.addE (e:=SlA p1540 _ k1542 x1534.Epochs) h1543).addE h1537
   obtain ⟨x1546,h1544,u⟩:=bt u
   obtain ⟨b1552,o1553,q1550,c1551,h1554,h1547,h1548,h1549,h1545⟩:=d.elemV 1 rfl h1544
   have hsv1555:=s
   have hwv1556:=d
   subst h1554
   have s:=hsv1555
   have d:=hwv1556
   obtain ⟨_,_,_,_,_,_,_,_,rfl,rfl,rfl,rfl,rfl,rfl,rfl,rfl,⟨p1557,n1558,k1559,rfl,h1560⟩⟩:=h1545
   obtain rfl:=h1560.1
   have d:=(d.addE (e:=SlA p1557 _ k1559 x1546.Response.Stages) h1560).addE h1549
   refine A8 (fun a w=>∃ Sv1561,Sl 51 [(2,pt b9),(3,pt b10),(6,iv sv511),(7,iv sv1342),(47,.bool (x1546.From == c5.From))] a∧Wd ⟨w0,S0,[]⟩ Sv1561 [.box b9 [sl (some ⟨b1185,o1186,none⟩) k3 inv1.Channels] 29,.box b10 (C43 c5 p6 k7) 43] [Sq (some ⟨b1185,o1186,none⟩) k3 inv1.Channels,Sq p6 k7 c5.Epoch.Response.Stages] w) ?_ ?_
   ·refine h_c [0,1] [0,2,4] d rfl rfl (by kernel_rfl) rfl fun hC d=>?_
    refine gn 3 [0,1,2] [0] s hC rfl rfl rfl fun a s=>?_
    refine gx s 3 rfl trivial rfl hC runUnderlying27 sizeOf73 rfl rfl h1535 h1536 fun a s=>?_
    refine gv s 4 rfl rfl hC (fun w hC=>j6 (o':=q1538+4) runUnderlying73 rfl sizeOf71 rfl rfl rfl) fun a s=>?_
    refine gv s 5 rfl rfl hC (fun w hC=>H5 (j:=4) (hC.ceAt 1 rfl) rfl isAgg71 rfl) fun a s=>?_
    refine gm s 6 rfl rfl rfl hC fun a s=>?_
    refine gx s 7 rfl trivial rfl hC runUnderlying71 sizeOf41 rfl rfl h1547 h1548 fun a s=>?_
    refine gv s 8 rfl rfl hC (fun w hC=>j6 (o':=q1550+0) runUnderlying41 rfl sizeOf3 rfl rfl rfl) fun a s=>?_
    refine gv s 9 rfl rfl hC (fun w hC=>H5 (j:=0) (hC.ceAt 0 rfl) rfl isAgg3 rfl) fun a s=>?_
    refine gn 3 [10,11,12] [1] s hC rfl rfl rfl fun a s=>?_
    refine x8 (by kernel_rfl) ?_
    exact ⟨Sv1436,wj s d [0,1] [6,7]⟩
   rintro a w ⟨Sv1561,s,d⟩
   refine tn (cd s u rfl (fun u=>?_) fun u=>?_)
   ·refine sz0 4 s rfl fun a s=>?_
    obtain rfl:=oi u
    have h1564:=hd1483 _ rfl
    subst h1564
    have h1565:=hd1009 _ rfl
    subst h1565
    exact wp_ret (q9 (j3 (j3 (q9 (j3 (q9 (j3 (j3 (q9 (j3 (a0V s rfl (I1 rfl) (I1 rfl) (d.ret rfl))))))))))))
   refine wp_skip (l9 (tn (wp_region_lit (rn0 2 s rfl fun a s=>?_))))
   obtain ⟨k1567,h1566,u⟩:=bt u
   refine sv s (u6 rfl h1566) rfl fun a s=>?_
   exact nl ⟨_,io u,Sv1561,wj s d [0,1] [0,1]⟩
  obtain ⟨rv1569,u,h1570⟩:=a0d u
  have h1570:=(hd1483 _ h1570.symm).symm
  subst h1570
  refine wp_exit (j4 (j4 (r9 (tn (sz0 3 s rfl fun a s=>?_)))))
  obtain rfl:=oi u
  have h1568:=hd1009 _ rfl
  subst h1568
  exact wp_ret (q9 (j3 (j3 (q9 (j3 (a0V s rfl (I1 rfl) (I1 rfl) (d.ret rfl)))))))
 obtain ⟨rv1571,u,h1572⟩:=a0d u
 have h1572:=(hd1009 _ h1572.symm).symm
 subst h1572
 refine wp_exit (j4 (j4 (r9 (tn (sz0 2 s rfl fun a s=>?_)))))
 obtain rfl:=oi u
 exact wp_ret (a0V s rfl (I1 rfl) (I1 rfl) (d.ret rfl))
theorem a8N {w0 S0 p2 k3 p6 k7 l1 e5 r} (u:a3C l1 e5=some r) (hS:Dm S0 w0) (h4:(Sq p2 k3 l1).p S0 w0) (h8:(Sq p6 k7 e5.Response.Stages).p S0 w0):Ck Tryz.prog 75 #[sl p2 k3 l1,V41 e5 p6 k7] w0 S0 [] l7 r:=by
 refine en 30 func75 rfl hS rfl rfl rfl fun a s d=>?_
 have d:=(d.addE h4).addE h8
 refine sr (wb (C41 e5 p6 k7) s d rfl fun b9 a w s d=>?_)
 refine rz0 1 s rfl fun a s=>?_
 refine wp_seq (sz0 1 s rfl fun a s=>?_)
 refine wp_block (w9 (fun sv120 a w=>∃ Sv192,Sl 30 [(0,sl p2 k3 l1),(3,pt b9),(5,iv sv120)] a∧Wd ⟨w0,S0,[]⟩ Sv192 [.box b9 (C41 e5 p6 k7) 41] [Sq p2 k3 l1,Sq p6 k7 e5.Response.Stages] w) 0 u ⟨S0,wj s d [0] [1,0]⟩ ?_)
 repeat clear u
 rintro sv120 a w tv229 ⟨Sv192,s,d⟩ u hd228
 refine wp_seq (sz0 4 s rfl fun a s=>?_)
 refine cd s u rfl (fun u=>?_) fun u=>?_
 ·refine sk (wp_seq (wp_block (wp_seq ?_)))
  obtain ⟨x268,h266,u⟩:=bt u
  obtain ⟨b274,o275,q272,c273,h276,h269,h270,h271,h267⟩:=d.elemV 0 rfl h266
  have hsv277:=s
  have hwv278:=d
  subst h276
  have s:=hsv277
  have d:=hwv278
  obtain ⟨_,_,_,_,_,_,_,_,rfl,rfl,rfl,rfl,rfl,rfl,rfl,rfl,⟨p279,n280,k281,rfl,h282⟩⟩:=h267
  obtain rfl:=h282.1
  have d:=(d.addE (e:=SlA p279 _ k281 x268.Response.Stages) h282).addE h271
  obtain ⟨c295,hc295,u⟩:=bt u
  refine A8 (fun a w=>∃ Sv296,Sl 30 [(0,sl (some ⟨b274,o275,none⟩) k3 l1),(3,pt b9),(5,iv sv120),(29,.bool c295)] a∧Wd ⟨w0,S0,[]⟩ Sv296 [.box b9 (C41 e5 p6 k7) 41] [Sq (some ⟨b274,o275,none⟩) k3 l1,Sq p6 k7 e5.Response.Stages] w) ?_ ?_
  ·rcases Bool.eq_false_or_eq_true (decide (x268.From<e5.To)) with h297 | h297
   ·have h298:=C9 hc295 h297
    obtain ⟨x301,h299,h298⟩:=U1 h298
    obtain ⟨q305,c306,h302,h303,h304,h300⟩:=d.elemK 2 rfl h299
    obtain ⟨_,_,_,_,_,_,_,_,rfl,rfl,rfl,rfl,rfl,rfl,rfl,rfl,⟨p307,n308,k309,rfl,h310⟩⟩:=h300
    obtain rfl:=h310.1
    have d:=(d.addE (e:=SlA p307 _ k309 x301.Response.Stages) h310).addE h304
    refine h_c [0] [0,2] d rfl rfl (by kernel_rfl) rfl fun hC d=>?_
    refine gn 2 [0,1] [] s hC rfl rfl rfl fun a s=>?_
    refine gx s 2 rfl trivial rfl hC runUnderlying71 sizeOf41 rfl rfl h269 h270 fun a s=>?_
    refine gv s 3 rfl rfl hC (fun w hC=>j6 (o':=q272+0) runUnderlying41 rfl sizeOf3 rfl rfl rfl) fun a s=>?_
    refine gv s 4 rfl rfl hC (fun w hC=>H5 (j:=0) (hC.ceAt 1 rfl) rfl isAgg3 rfl) fun a s=>?_
    refine gn 4 [5,6,7,8] [0] s hC rfl rfl rfl fun a s=>?_
    have s:=s.bT 20 rfl h297
    refine gn 4 [9,10,11,12] [0] s hC rfl rfl rfl fun a s=>?_
    refine gx s 13 rfl ⟨_,rfl,rfl⟩ rfl hC runUnderlying71 sizeOf41 rfl rfl h302 h303 fun a s=>?_
    refine gt s 14 rfl ⟨_,rfl,rfl⟩ rfl hC (fun w hC=>j6 (o':=q305+1) runUnderlying41 rfl sizeOf3 rfl rfl rfl) fun a s=>?_
    refine gt s 15 rfl ⟨_,rfl,rfl⟩ rfl hC (fun w hC=>H5 (j:=1) (hC.ceAt 0 rfl) rfl isAgg3 rfl) fun a s=>?_
    refine gt s 16 rfl ⟨_,rfl,rfl⟩ rfl hC (fun w hC=>b1w rfl rfl) fun a s=>?_
    refine gT s 17 rfl rfl hC rfl rfl h298 fun a s=>?_
    refine x8 (by kernel_rfl) ?_
    exact ⟨Sv192,wj s d [0] [4,5]⟩
   have h311:=D6 hc295 h297
   refine h_c [0] [0] d rfl rfl (by kernel_rfl) rfl fun hC d=>?_
   refine gn 2 [0,1] [] s hC rfl rfl rfl fun a s=>?_
   refine gx s 2 rfl trivial rfl hC runUnderlying71 sizeOf41 rfl rfl h269 h270 fun a s=>?_
   refine gv s 3 rfl rfl hC (fun w hC=>j6 (o':=q272+0) runUnderlying41 rfl sizeOf3 rfl rfl rfl) fun a s=>?_
   refine gv s 4 rfl rfl hC (fun w hC=>H5 (j:=0) (hC.ceAt 0 rfl) rfl isAgg3 rfl) fun a s=>?_
   refine gn 4 [5,6,7,8] [0] s hC rfl rfl rfl fun a s=>?_
   have s:=s.bF 20 rfl h297
   refine gn 8 [9,10,11,12,13,14,15,16] [] s hC rfl rfl rfl fun a s=>?_
   refine gF s 17 rfl rfl hC rfl rfl h311 fun a s=>?_
   refine x8 (by kernel_rfl) ?_
   exact ⟨Sv192,wj s d [0] [2,3]⟩
  rintro a w ⟨Sv296,s,d⟩
  refine tn (cd s u rfl (fun u=>?_) fun u=>?_)
  ·refine sz0 1 s rfl fun a s=>?_
   obtain rfl:=oi u
   have h314:=hd228 _ rfl
   subst h314
   exact wp_ret (q9 (j3 (j3 (q9 (j3 (rt s rfl (d.ret rfl)))))))
  refine wp_skip (l9 (tn (wp_region_lit (rn0 2 s rfl fun a s=>?_))))
  obtain ⟨i316,h315,u⟩:=bt u
  refine sv s (u6 rfl h315) rfl fun a s=>?_
  exact nl ⟨_,io u,Sv296,wj s d [0] [0,1]⟩
 obtain ⟨rv317,u,h318⟩:=a0d u
 have h318:=(hd228 _ h318.symm).symm
 subst h318
 refine wp_exit (j4 (j4 (r9 (tn (sz0 1 s rfl fun a s=>?_)))))
 obtain rfl:=oi u
 exact q1 s rfl (d.ret rfl)
theorem b1P {w0 S0 p2 k3 p6 k7 l1 e5 r} (u:a7w l1 e5=some r) (hS:Dm S0 w0) (h4:(Sq p2 k3 l1).p S0 w0) (h8:(Sq p6 k7 e5.Response.Stages).p S0 w0):Ck Tryz.prog 76 #[sl p2 k3 l1,V41 e5 p6 k7] w0 S0 [] H8 r:=by
 refine en 36 func76 rfl hS rfl rfl rfl fun a s d=>?_
 have d:=(d.addE h4).addE h8
 refine sr (wb (C41 e5 p6 k7) s d rfl fun b9 a w s d=>?_)
 refine rz0 1 s rfl fun a s=>?_
 refine sz0 1 s rfl fun a s=>?_
 refine wp_seq ?_
 obtain ⟨e82,h173,u⟩:=bt u
 refine y8 (fun a w=>∃ Sv83,Sl 36 [(0,sl p2 k3 l1),(3,pt b9),(5,iv e82)] a∧Wd ⟨w0,S0,[]⟩ Sv83 [.box b9 (C41 e5 p6 k7) 41] [Sq p2 k3 l1,Sq p6 k7 e5.Response.Stages] w) ?_ ?_
 ·refine wp_block (w9 (fun sv10 a w=>∃ Sv56,Sl 36 [(0,sl p2 k3 l1),(3,pt b9),(5,iv sv10)] a∧Wd ⟨w0,S0,[]⟩ Sv56 [.box b9 (C41 e5 p6 k7) 41] [Sq p2 k3 l1,Sq p6 k7 e5.Response.Stages] w) 0 h173 ⟨S0,wj s d [0] [1,0]⟩ ?_)
  clear h173
  repeat clear u
  rintro sv10 a w tv80 ⟨Sv56,s,d⟩ u hd79
  refine wp_seq (wp_seq ?_)
  obtain ⟨c101,hc101,u⟩:=bt u
  refine A8 (fun a w=>∃ Sv102,Sl 36 [(0,sl p2 k3 l1),(3,pt b9),(5,iv sv10),(20,.bool c101)] a∧Wd ⟨w0,S0,[]⟩ Sv102 [.box b9 (C41 e5 p6 k7) 41] [Sq p2 k3 l1,Sq p6 k7 e5.Response.Stages] w) ?_ ?_
  ·rcases Bool.eq_false_or_eq_true (decide (sv10<(l1.length:Int))) with h103 | h103
   ·have h104:=C9 hc101 h103
    obtain ⟨x107,h105,h104⟩:=U1 h104
    obtain ⟨b113,o114,q111,c112,h115,h108,h109,h110,h106⟩:=d.elemV 0 rfl h105
    have hsv116:=s
    have hwv117:=d
    subst h115
    have s:=hsv116
    have d:=hwv117
    obtain ⟨_,_,_,_,_,_,_,_,rfl,rfl,rfl,rfl,rfl,rfl,rfl,rfl,⟨p118,n119,k120,rfl,h121⟩⟩:=h106
    obtain rfl:=h121.1
    have d:=(d.addE (e:=SlA p118 _ k120 x107.Response.Stages) h121).addE h110
    refine h_c [0] [0] d rfl rfl (by kernel_rfl) rfl fun hC d=>?_
    refine gn 5 [0,1,2,3,4] [] s hC rfl rfl rfl fun a s=>?_
    have s:=s.bT 11 rfl h103
    refine gn 2 [5,6] [] s hC rfl rfl rfl fun a s=>?_
    refine gx s 7 rfl ⟨_,rfl,rfl⟩ rfl hC runUnderlying71 sizeOf41 rfl rfl h108 h109 fun a s=>?_
    refine gt s 8 rfl ⟨_,rfl,rfl⟩ rfl hC (fun w hC=>j6 (o':=q111+0) runUnderlying41 rfl sizeOf3 rfl rfl rfl) fun a s=>?_
    refine gt s 9 rfl ⟨_,rfl,rfl⟩ rfl hC (fun w hC=>H5 (j:=0) (hC.ceAt 0 rfl) rfl isAgg3 rfl) fun a s=>?_
    refine gn 3 [10,11,12] [0] s hC rfl rfl rfl fun a s=>?_
    refine gT s 13 rfl rfl hC rfl rfl h104 fun a s=>?_
    refine x8 (by kernel_rfl) ?_
    exact ⟨Sv56,wj s d [0] [2,3]⟩
   have h122:=D6 hc101 h103
   refine h_c [0] [] d rfl rfl (by kernel_rfl) rfl fun hC d=>?_
   refine gn 5 [0,1,2,3,4] [] s hC rfl rfl rfl fun a s=>?_
   have s:=s.bF 11 rfl h103
   refine gn 8 [5,6,7,8,9,10,11,12] [] s hC rfl rfl rfl fun a s=>?_
   refine gF s 13 rfl rfl hC rfl rfl h122 fun a s=>?_
   refine x8 (by kernel_rfl) ?_
   exact ⟨Sv56,wj s d [0] [0,1]⟩
  rintro a w ⟨Sv102,s,d⟩
  refine tn (cd s u rfl (fun u=>?_) fun u=>?_)
  ·refine sk (wp_block (wp_region_lit (rn0 2 s rfl fun a s=>?_)))
   obtain ⟨k128,h127,u⟩:=bt u
   refine sv s (u6 rfl h127) rfl fun a s=>?_
   refine wpList_nil ?_
   exact l9 (tn ⟨_,io u,Sv102,wj s d [0] [0,1]⟩)
  refine wp_exit (j4 (j4 (r9 ?_)))
  obtain rfl:=oi u
  have h129:=hd79 _ rfl
  subst h129
  exact tn ⟨Sv102,wj s d [0] [0,1]⟩
 rintro a w ⟨Sv83,s,d⟩
 refine tn (sn0 2 s rfl fun a s=>?_)
 obtain ⟨l135,h130,u⟩:=bt u
 obtain ⟨p133,k134,h131,h132⟩:=a7B (d.envAt 0 rfl) h130
 have d:=d.addE h131
 refine sv s (U0 runUnderlying71 sizeOf41 rfl (by exact rfl) ⟨_,rfl⟩ h132) rfl fun a s=>?_
 obtain ⟨l137,h136,u⟩:=bt u
 have d:=d.nilRow Epoch 41
 refine R6 (α:=Epoch) s d a5I 0 rfl rfl rfl 0 rfl 1 rfl h136 rfl trivial ?_
 intro p138 k139 c140 a w s d
 refine rz0 1 s rfl fun a s=>?_
 refine wp_seq ?_
 obtain ⟨rv142,h141,u⟩:=bt u
 obtain ⟨l150,h149,u⟩:=bt u
 obtain ⟨l159,h154,u⟩:=bt u
 obtain ⟨p157,k158,h155,h156⟩:=a7B (d.envAt 3 rfl) h154
 have d:=d.addE h155
 obtain ⟨l161,h160,u⟩:=bt u
 refine A8 (fun a w=>∃ Sv165 c164 k163 p162,Sl 36 [(4,sl p162 k163 l161)] a∧Wd ⟨w0,S0,[]⟩ Sv165 [.row p162 l161.length k163 c164 41 8] [j5 c164 l161] w) ?_ ?_
 ·refine h_c [1] [] d rfl rfl (by kernel_rfl) rfl fun hC d=>?_
  refine gn 4 [0,1,5,6] [0] s hC rfl rfl rfl fun a s=>?_
  refine gv s 7 rfl rfl hC (fun w hC=>U0 runUnderlying71 sizeOf41 rfl ⟨_,rfl⟩ (by exact rfl) h156) fun a s=>?_
  refine ho 2 rfl ?_
  refine cR s (Y4 h141 d.dom (d.envAt 5 rfl)) (d9 call45 rfl) rfl ?_
  rintro v169 Sv166 w a h167 ⟨p143,k144,c146,rfl,h170,h145⟩ s
  have d:=(d.callN h167 h170).addE (e:=j5 c146 rv142.Response.Stages) h145
  refine h_n [2] [] d rfl rfl fun hC=>?_
  refine ho 3 rfl ?_
  obtain ⟨Sv172,d⟩:=A9 (α:=Stage) d 0 rfl 0 rfl
  refine x9 (α:=Epoch) (vs:=[V41 rv142 p143 k144]) (cs:=(C41 rv142 p143 k144)) (xs:=([rv142]:List Epoch)) s d a5I rfl rfl rfl rfl rfl rfl ⟨⟨_,_,_,_,_,_,_,_,rfl,rfl,rfl,rfl,rfl,rfl,rfl,rfl,⟨_,_,_,rfl,d.envAt 0 rfl⟩⟩,rfl⟩ rfl trivial rfl fun b148 a w s d=>?_
  refine h_n [2] [] d rfl rfl fun hC=>?_
  refine h_d [2,0] [] [0] [] d rfl rfl rfl rfl fun hC=>?_
  refine ho 4 rfl ?_
  refine M3 (α:=Epoch) s d a5I 1 rfl rfl rfl 4 rfl 0 rfl 0 rfl h149 rfl trivial ?_
  intro p151 k152 c153 a w s d
  refine h_n [2,0] [] d rfl rfl fun hC=>?_
  refine ho 8 rfl ?_
  refine R6 (α:=Epoch) s d a5I 1 rfl rfl rfl 0 rfl 4 rfl h160 rfl trivial ?_
  intro p162 k163 c164 a w s d
  refine h_n [2,0] [] d rfl rfl fun hC=>?_
  refine gv s 9 rfl rfl hC (fun w hC=>J3 rfl) fun a s=>?_
  refine x8 (by kernel_rfl) ?_
  exact ⟨Sv172,c164,k163,p162,wj s d [1] [0]⟩
 rintro a w ⟨Sv165,c164,k163,p162,s,d⟩
 refine tn ?_
 obtain rfl:=oi u
 exact q1 s rfl (d.ret ⟨p162,k163,c164,rfl,(d.outs [0] (by decide) rfl),(d.envAt 0 rfl)⟩)
abbrev a6X (w0:World) (X:List Nat) (r:(Inventory × Int)):Rd:=fun S w v=>∃ p0_0 k0_0,v=.tuple #[.agg #[sl p0_0 k0_0 r.1.Channels],iv r.2]∧(Sq p0_0 k0_0 r.1.Channels).p S w
abbrev a3S:List Value:=[.slice none ([]:List Channel).length 0]
theorem a0O {w0 S0 p2 k3 p6 k7 inv1 c5 r} (u:Y1 inv1 c5=some r) (hS:Dm S0 w0) (h4:(Sq p2 k3 inv1.Channels).p S0 w0) (h8:(Sq p6 k7 c5.Epoch.Response.Stages).p S0 w0):Ck Tryz.prog 33 #[.agg #[sl p2 k3 inv1.Channels],V43 c5 p6 k7] w0 S0 [] a6X r:=by
 refine en 157 func33 rfl hS rfl rfl rfl fun a s d=>?_
 have d:=(d.addE h4).addE h8
 refine sr (wb [sl p2 k3 inv1.Channels] s d rfl fun b9 a w s d=>?_)
 refine wb (C43 c5 p6 k7) s d rfl fun b10 a w s d=>?_
 refine wa a3S s d zeroValue29 fun b11 a w s d=>?_
 refine rz0 1 s rfl fun a s=>?_
 refine wp_seq (sn 2 [2,1] s d rfl rfl fun a s=>?_)
 obtain ⟨rv13,h12,u⟩:=bt u
 refine cV s d (b0U h12 d.bdom (d.bE 1 rfl) (d.bE 0 rfl)) (d9 call72 rfl) rfl fun a w s d=>?_
 refine rz0 1 s rfl fun a s=>?_
 refine cd s u rfl (fun u=>?_) fun u=>?_
 ·refine sr (sv s (y9 (vs:=[]) a4M rfl rfl) rfl fun a s=>?_)
  refine ws a3S s d 0 rfl rfl rfl sizeOf29 fun a w s d=>?_
  refine rz0 1 s rfl fun a s=>?_
  obtain rfl:=oi u
  have d:=d.addE (e:=SlA (α:=Channel) none 0 0 []) K9
  exact wp_ret (j3 (a0V s rfl (D8 d 0 rfl rfl isAgg29 sizeOf29 rfl) (I1 rfl) (d.ret ⟨none,0,rfl,(d.envAt 0 rfl)⟩)))
 refine sk (sn 1 [2] s d rfl rfl fun a s=>?_)
 obtain ⟨rv23,h22,u⟩:=bt u
 refine cR s (a4m h22 d.dom (d.envAt 1 rfl)) (d9 call73 rfl) rfl ?_
 rintro v31 Sv28 w a h29 ⟨p24,k25,c27,rfl,h32,h26⟩ s
 have d:=(d.callN h29 h32).addE (e:=j5 c27 rv23.Channels) h26
 refine wa a3S s d zeroValue29 fun b34 a w s d=>?_
 refine ws [sl p24 k25 rv23.Channels] s d 0 rfl rfl rfl sizeOf29 fun a w s d=>?_
 refine nl (sn 2 [0,3] s d rfl rfl fun a s=>?_)
 obtain ⟨rv36,h35,u⟩:=bt u
 refine cV s d (b0n h35 d.bdom (d.bRow 1 rfl 0 rfl) (d.bE 1 rfl)) (d9 call74 rfl) rfl fun a w s d=>?_
 refine rz0 5 s rfl fun a s=>?_
 refine wp_seq (sz 3 [3] s d rfl rfl fun a s=>?_)
 refine y8 (fun a w=>∃ (x106:(List Channel)) (c102 p103 k104 Sv105:_),a0N c5 rv36 x106=some r∧Sl 157 [(3,pt b10),(4,pt b11),(6,pt b34),(7,iv rv36.1)] a∧Wd ⟨w0,S0,[]⟩ Sv105 [.box b10 (C43 c5 p6 k7) 43,.box b11 a3S 29,.box b34 [sl p103 k104 x106] 29,.row p103 x106.length k104 c102 73 5] [Sq p6 k7 c5.Epoch.Response.Stages,Sq none 0 ([]:List Channel),j5 c102 x106] w) ?_ ?_
 ·refine cd s u rfl (fun u=>?_) fun u=>?_
  ·refine wp_seq (sz0 2 s rfl fun a s=>?_)
   refine cd s u rfl (fun u=>?_) fun u=>?_
   ·refine sr (sv s (y9 (vs:=[]) a4M rfl rfl) rfl fun a s=>?_)
    refine ws a3S s d 2 rfl rfl rfl sizeOf29 fun a w s d=>?_
    refine rz0 1 s rfl fun a s=>?_
    obtain rfl:=oi u
    have d:=d.addE (e:=SlA (α:=Channel) none 0 0 []) K9
    exact wp_ret (j3 (j3 (j3 (a0V s rfl (D8 d 2 rfl rfl isAgg29 sizeOf29 rfl) (I1 rfl) (d.ret ⟨none,0,rfl,(d.envAt 0 rfl)⟩)))))
   refine sk (sn 3 [0] s d rfl rfl fun a s=>?_)
   obtain ⟨x631,h629,u⟩:=bt u
   obtain ⟨b638,q635,c636,h639,h632,h633,h637,h630⟩:=d.elemRV (α:=Channel) 1 rfl 0 rfl h629
   have hsv640:=s
   have hwv641:=d
   subst h639
   have s:=hsv640
   have d:=hwv641
   obtain ⟨_,_,_,_,_,rfl,rfl,rfl,rfl,rfl,⟨p642,n643,k644,rfl,h645⟩⟩:=h630
   obtain rfl:=h645.1
   have d:=d.addE (e:=SlA p642 _ k644 x631.Epochs) h645
   refine sv s (u7 runUnderlying27 sizeOf73 rfl rfl h632.1 h632.2 h633) rfl fun a s=>?_
   refine sv s (j6 (o':=q635+4) runUnderlying73 rfl sizeOf71 rfl rfl rfl) rfl fun a s=>?_
   refine sv s (a0r (j:=4) (d.ownAt 1 rfl) rfl isAgg71 h637 rfl) rfl fun a s=>?_
   refine rz0 1 s rfl fun a s=>?_
   obtain ⟨l651,h646,u⟩:=bt u
   obtain ⟨p649,k650,h647,h648⟩:=a7B (d.envAt 0 rfl) h646
   have d:=d.addE h647
   obtain ⟨l653,h652,u⟩:=bt u
   obtain ⟨l662,h657,u⟩:=bt u
   obtain ⟨p660,k661,h658,h659⟩:=a7B (d.envAt 1 rfl) h657
   have d:=d.addE h658
   obtain ⟨l664,h663,u⟩:=bt u
   obtain ⟨x670,h668,u⟩:=bt u
   obtain ⟨q674,c675,h671,h672,h676,h669⟩:=d.elemRK (α:=Channel) 1 rfl 3 rfl h668
   obtain ⟨_,_,_,_,_,rfl,rfl,rfl,rfl,rfl,⟨p677,n678,k679,rfl,h680⟩⟩:=h669
   obtain rfl:=h680.1
   have d:=d.addE (e:=SlA p677 _ k679 x670.Epochs) h680
   obtain ⟨l682,h681,u⟩:=bt u
   refine A8 (fun a w=>∃ Sv685 c683,Sl 157 [(3,pt b10),(4,pt b11),(6,pt b34),(7,iv rv36.1)] a∧Wd ⟨w0,S0,[]⟩ Sv685 [.box b10 (C43 c5 p6 k7) 43,.box b11 a3S 29,.box b34 [sl (ad b638) k25 l682] 29,.row (ad b638) l682.length k25 c683 73 5] [Sq p6 k7 c5.Epoch.Response.Stages,Sq none 0 ([]:List Channel),j5 c683 l682] w) ?_ ?_
   ·refine h_c [0,2,3,4] [] d rfl rfl (by kernel_rfl) rfl fun hC d=>?_
    refine gn 5 [0,1,2,3,4] [0] s hC rfl rfl rfl fun a s=>?_
    refine gv s 5 rfl rfl hC (fun w hC=>U0 runUnderlying71 sizeOf41 rfl (by exact rfl) ⟨_,rfl⟩ h648) fun a s=>?_
    refine gn 3 [7,8,9] [] s hC rfl rfl rfl fun a s=>?_
    refine gv s 10 rfl rfl hC (fun w hC=>U0 runUnderlying71 sizeOf41 rfl ⟨_,rfl⟩ (by exact rfl) h659) fun a s=>?_
    refine ho 6 rfl ?_
    have d:=d.nilRow Epoch 41
    refine R6 (α:=Epoch) s d a5I 0 rfl rfl rfl 0 rfl 3 rfl h652 rfl trivial ?_
    intro p654 k655 c656 a w s d
    refine h_n [1,3,4,5] [] d rfl rfl fun hC=>?_
    refine ho 11 rfl ?_
    refine R6 (α:=Epoch) s d a5I 0 rfl rfl rfl 0 rfl 3 rfl h663 rfl trivial ?_
    intro p665 k666 c667 a w s d
    refine h_n [1,3,4,5] [] d rfl rfl fun hC=>?_
    refine gx s 12 rfl trivial rfl hC runUnderlying27 sizeOf73 rfl rfl h671 h672 fun a s=>?_
    refine gv s 13 rfl rfl hC (fun w hC=>j6 (o':=q674+4) runUnderlying73 rfl sizeOf71 rfl rfl rfl) fun a s=>?_
    refine ho 14 rfl ?_
    obtain ⟨Sv686,d⟩:=A9 (α:=Epoch) d 0 rfl 0 rfl
    refine a5U (α:=Channel) (f:=4) (m:=1) s d 1 rfl 8 rfl h672 rfl rfl sizeOf71 rfl rfl rfl h681 (fun es he=>by rw [h676] at he;subst he;exact ⟨_,_,_,_,_,rfl,rfl,rfl,rfl,rfl,⟨_,_,_,rfl,d.envAt 0 rfl⟩⟩) trivial ?_
    intro c683 a w s d
    have h684:=a0p h681
    try have s:=s.fl 36 rfl h684
    refine h_n [0,2,3,4] [] d rfl rfl fun hC=>?_
    refine x8 (by kernel_rfl) ?_
    have d:=(d.fixB 0 0 rfl rfl h684).addE (e:=SlA (α:=Channel) none 0 0 []) K9
    exact ⟨Sv686,c683,wj s d [3,2,0,1] [11,0,1]⟩
   rintro a w ⟨Sv685,c683,s,d⟩
   exact tn ⟨l682,c683,(ad b638),k25,Sv685,u,wj s d [0,1,2,3] [0,1,2]⟩
  refine sk ?_
  have d:=d.addE (e:=SlA (α:=Channel) none 0 0 []) K9
  exact ⟨rv23.Channels,c27,p24,k25,Sv28,u,wj s d [3,2,0,1] [2,0,1]⟩
 rintro a w ⟨x106,c102,p103,k104,Sv105,u,s,d⟩
 refine tn (wp_seq (sz 3 [0] s d rfl rfl fun a s=>?_))
 refine cd s u rfl (fun u=>?_) fun u=>?_
 ·refine wp_seq (sn 3 [2] s d rfl rfl fun a s=>?_)
  obtain ⟨x149,h147,u⟩:=bt u
  obtain ⟨b156,q153,c154,h157,h150,h151,h155,h148⟩:=d.elemRV (α:=Channel) 3 rfl 2 rfl h147
  have hsv158:=s
  have hwv159:=d
  subst h157
  have s:=hsv158
  have d:=hwv159
  obtain ⟨_,_,_,_,_,rfl,rfl,rfl,rfl,rfl,⟨p160,n161,k162,rfl,h163⟩⟩:=h148
  obtain rfl:=h163.1
  have d:=d.addE (e:=SlA p160 _ k162 x149.Epochs) h163
  refine sv s (u7 runUnderlying27 sizeOf73 rfl rfl h150.1 h150.2 h151) rfl fun a s=>?_
  refine sv s (j6 (o':=q153+4) runUnderlying73 rfl sizeOf71 rfl rfl rfl) rfl fun a s=>?_
  refine sv s (a0r (j:=4) (d.ownAt 3 rfl) rfl isAgg71 h155 rfl) rfl fun a s=>?_
  refine rz0 2 s rfl fun a s=>?_
  refine y8 (fun a w=>∃ (x184:(List Channel)) (p181 k182 Sv183:_),a5e x184=some r∧Sl 157 [(4,pt b11),(6,pt b34)] a∧Wd ⟨w0,S0,[]⟩ Sv183 [.box b11 a3S 29,.box b34 [sl p181 k182 x184] 29] [Sq none 0 ([]:List Channel),Sq p181 k182 x184] w) ?_ ?_
  ·refine cd s u rfl (fun u=>?_) fun u=>?_
   ·obtain ⟨Sv188,d⟩:=A9 (α:=Channel) d 3 rfl 3 rfl
    obtain ⟨l190,h186,u⟩:=bt u
    obtain ⟨h189,h187⟩:=sub_env3 (d.envAt 0 rfl) h186
    have d:=d.addE (e:=Sq (ad b156) l190.length l190) h189
    obtain ⟨l196,h191,u⟩:=bt u
    obtain ⟨p194,k195,h192,h193⟩:=a7B (d.envAt 1 rfl) h191
    have d:=d.addE h192
    obtain ⟨l198,h197,u⟩:=bt u
    refine A8 (fun a w=>∃ Sv201 k200 p199,Sl 157 [(4,pt b11),(6,pt b34)] a∧Wd ⟨w0,S0,[]⟩ Sv201 [.box b11 a3S 29,.box b34 [sl p199 k200 l198] 29] [Sq none 0 ([]:List Channel),Sq p199 k200 l198] w) ?_ ?_
    ·refine h_c [0,1] [] d rfl rfl (by kernel_rfl) rfl fun hC d=>?_
     refine gn 6 [0,2,3,5,7,8] [] s hC rfl rfl rfl fun a s=>?_
     refine a3g (rs:=[1,6]) (by kernel_rfl) rfl ?_
     refine P5.cons rfl ?_ ?_
     ·refine sv s (U8 (d.ownAt 2 rfl) rfl isAgg27 rfl) rfl fun a s=>?_
      refine h_n [0,1] [] d rfl rfl fun hC=>?_
      refine gv s 4 rfl rfl hC (fun w hC=>b0J runUnderlying27 sizeOf73 rfl (by exact rfl) rfl rfl h187) fun a s=>?_
      refine ho 6 rfl ?_
      refine sv s (U8 (d.ownAt 2 rfl) rfl isAgg27 rfl) rfl fun a s=>?_
      refine h_n [0,1] [] d rfl rfl fun hC=>?_
      refine gv s 9 rfl rfl hC (fun w hC=>U0 runUnderlying27 sizeOf73 rfl ⟨_,rfl⟩ (by exact rfl) h193) fun a s=>?_
      refine ho 10 rfl ?_
      refine b1t (α:=Channel) s d a6L 1 rfl 0 rfl rfl rfl h197 rfl trivial ?_
      intro p199 k200 Sv202 a w s d
      refine h_n [0,1] [] d rfl rfl fun hC=>?_
      refine gv s 11 rfl rfl hC (fun w hC=>j6 (o':=0) runUnderlying29 rfl sizeOf27 rfl rfl rfl) fun a s=>?_
      refine ho 12 rfl ?_
      refine ws [sl p199 k200 l198] s d 2 rfl rfl rfl sizeOf27 fun a w s d=>?_
      refine h_n [0,1] [] d rfl rfl fun hC=>?_
      refine x8 (by kernel_rfl) ?_
      exact ⟨Sv202,k200,p199,wj s d [1,2] [6,0]⟩
     refine P5.cons rfl ?_ ?_
     ·refine sv s (U8 (d.ownAt 2 rfl) rfl isAgg27 rfl) rfl fun a s=>?_
      refine h_n [0,1] [] d rfl rfl fun hC=>?_
      refine gv s 9 rfl rfl hC (fun w hC=>U0 runUnderlying27 sizeOf73 rfl ⟨_,rfl⟩ (by exact rfl) h193) fun a s=>?_
      refine ho 1 rfl ?_
      refine sv s (U8 (d.ownAt 2 rfl) rfl isAgg27 rfl) rfl fun a s=>?_
      refine h_n [0,1] [] d rfl rfl fun hC=>?_
      refine gv s 4 rfl rfl hC (fun w hC=>b0J runUnderlying27 sizeOf73 rfl (by exact rfl) rfl rfl h187) fun a s=>?_
      refine ho 10 rfl ?_
      refine b1t (α:=Channel) s d a6L 1 rfl 0 rfl rfl rfl h197 rfl trivial ?_
      intro p199 k200 Sv203 a w s d
      refine h_n [0,1] [] d rfl rfl fun hC=>?_
      refine gv s 11 rfl rfl hC (fun w hC=>j6 (o':=0) runUnderlying29 rfl sizeOf27 rfl rfl rfl) fun a s=>?_
      refine ho 12 rfl ?_
      refine ws [sl p199 k200 l198] s d 2 rfl rfl rfl sizeOf27 fun a w s d=>?_
      refine h_n [0,1] [] d rfl rfl fun hC=>?_
      refine x8 (by kernel_rfl) ?_
      exact ⟨Sv203,k200,p199,wj s d [1,2] [6,0]⟩
     exact P5.nil
    rintro a w ⟨Sv201,k200,p199,s,d⟩
    exact tn ⟨l198,p199,k200,Sv201,u,wj s d [0,1] [0,1]⟩
   refine sk ?_
   obtain ⟨Sv207,d⟩:=A9 (α:=Channel) d 3 rfl 3 rfl
   exact ⟨x106,(ad b156),k104,Sv207,u,wj s d [1,2] [3,0]⟩
  rintro a w ⟨x184,p181,k182,Sv183,u,s,d⟩
  refine tn (sn 1 [1] s d rfl rfl fun a s=>?_)
  refine ws [sl p181 k182 x184] s d 0 rfl rfl rfl sizeOf29 fun a w s d=>?_
  refine rz0 1 s rfl fun a s=>?_
  obtain rfl:=oi u
  exact wp_ret (j3 (a0V s rfl (D8 d 0 rfl rfl isAgg29 sizeOf29 rfl) (I1 rfl) (d.ret ⟨p181,k182,rfl,(d.envAt 1 rfl)⟩)))
 refine sk (wp_seq (sz0 2 s rfl fun a s=>?_))
 refine y8 (fun a w=>∃ (x336:(List Channel)) (i337:Int) (c332 p333 k334 Sv335:_),a2d c5 x336 i337=some r∧Sl 157 [(3,pt b10),(4,pt b11),(6,pt b34),(7,iv i337)] a∧Wd ⟨w0,S0,[]⟩ Sv335 [.box b10 (C43 c5 p6 k7) 43,.box b11 a3S 29,.box b34 [sl p333 k334 x336] 29,.row p333 x336.length k334 c332 73 5] [Sq p6 k7 c5.Epoch.Response.Stages,Sq none 0 ([]:List Channel),j5 c332 x336] w) ?_ ?_
 ·refine cd s u rfl (fun u=>?_) fun u=>?_
  ·refine sz0 1 s rfl fun a s=>?_
   refine wp_seq ?_
   obtain ⟨e521,h625,u⟩:=bt u
   refine y8 (fun a w=>∃ Sv522,Sl 157 [(3,pt b10),(4,pt b11),(6,pt b34),(7,iv e521)] a∧Wd ⟨w0,S0,[]⟩ Sv522 [.box b10 (C43 c5 p6 k7) 43,.box b11 a3S 29,.box b34 [sl p103 k104 x106] 29,.row p103 x106.length k104 c102 73 5] [Sq p6 k7 c5.Epoch.Response.Stages,Sq none 0 ([]:List Channel),j5 c102 x106] w) ?_ ?_
   ·refine wp_block (w9 (fun sv443 a w=>∃ Sv493,Sl 157 [(3,pt b10),(4,pt b11),(6,pt b34),(7,iv sv443)] a∧Wd ⟨w0,S0,[]⟩ Sv493 [.box b10 (C43 c5 p6 k7) 43,.box b11 a3S 29,.box b34 [sl p103 k104 x106] 29,.row p103 x106.length k104 c102 73 5] [Sq p6 k7 c5.Epoch.Response.Stages,Sq none 0 ([]:List Channel),j5 c102 x106] w) 0 h625 ⟨Sv105,wj s d [0,1,2,3] [0,1,2]⟩ ?_)
    clear h625
    repeat clear u
    rintro sv443 a w tv519 ⟨Sv493,s,d⟩ u hd518
    refine wp_seq (wp_seq ?_)
    obtain ⟨c542,hc542,u⟩:=bt u
    refine A8 (fun a w=>∃ Sv543,Sl 157 [(3,pt b10),(4,pt b11),(6,pt b34),(7,iv sv443),(91,.bool c542)] a∧Wd ⟨w0,S0,[]⟩ Sv543 [.box b10 (C43 c5 p6 k7) 43,.box b11 a3S 29,.box b34 [sl p103 k104 x106] 29,.row p103 x106.length k104 c102 73 5] [Sq p6 k7 c5.Epoch.Response.Stages,Sq none 0 ([]:List Channel),j5 c102 x106] w) ?_ ?_
    ·rcases Bool.eq_false_or_eq_true (decide (sv443<(x106.length:Int))) with h544 | h544
     ·have h545:=C9 hc542 h544
      obtain ⟨x548,h546,h545⟩:=U1 h545
      obtain ⟨b555,q552,c553,h556,h549,h550,h554,h547⟩:=d.elemRV (α:=Channel) 3 rfl 2 rfl h546
      have hsv557:=s
      have hwv558:=d
      subst h556
      have s:=hsv557
      have d:=hwv558
      obtain ⟨_,_,_,_,_,rfl,rfl,rfl,rfl,rfl,⟨p559,n560,k561,rfl,h562⟩⟩:=h547
      obtain rfl:=h562.1
      have d:=d.addE (e:=SlA p559 _ k561 x548.Epochs) h562
      obtain ⟨rv564,h563,h545⟩:=U1 h545
      refine h_c [0,1,2,3] [] d rfl rfl (by kernel_rfl) rfl fun hC d=>?_
      refine gn 6 [0,1,2,3,4,5] [2] s hC rfl rfl rfl fun a s=>?_
      have s:=s.bT 80 rfl h544
      refine gn 3 [6,7,8] [2] s hC rfl rfl rfl fun a s=>?_
      refine gx s 9 rfl ⟨_,rfl,rfl⟩ rfl hC runUnderlying27 sizeOf73 rfl rfl h549 h550 fun a s=>?_
      refine gt s 10 rfl ⟨_,rfl,rfl⟩ rfl hC (fun w hC=>j6 (o':=q552+0) runUnderlying73 rfl sizeOf32 rfl rfl rfl) fun a s=>?_
      refine gt s 11 rfl ⟨_,rfl,rfl⟩ rfl hC (fun w hC=>Q7 (j:=0) (hC.ownAt 3 rfl) rfl isAgg32 sizeOf32 h554 rfl rfl) fun a s=>?_
      refine gn 2 [12,13] [0] s hC rfl rfl rfl fun a s=>?_
      refine ho 14 rfl ?_
      refine o8 s (a3X h563 d.bdom) (d9 call63 rfl) ⟨_,rfl,rfl⟩ rfl rfl ?_
      rintro v568 Sv565 w a h566 rfl s
      have d:=d.callB h566
      refine h_n [0,1,2,3] [] d rfl rfl fun hC=>?_
      refine gt s 15 rfl ⟨_,rfl,rfl⟩ rfl hC (fun w hC=>b1w rfl rfl) fun a s=>?_
      refine gT s 16 rfl rfl hC rfl rfl h545 fun a s=>?_
      refine x8 (by kernel_rfl) ?_
      exact ⟨Sv493,wj s d [0,1,2,3] [1,2,3]⟩
     have h571:=D6 hc542 h544
     refine h_c [0,1,2,3] [] d rfl rfl (by kernel_rfl) rfl fun hC d=>?_
     refine gn 6 [0,1,2,3,4,5] [2] s hC rfl rfl rfl fun a s=>?_
     have s:=s.bF 80 rfl h544
     refine gn 10 [6,7,8,9,10,11,12,13,14,15] [] s hC rfl rfl rfl fun a s=>?_
     refine gF s 16 rfl rfl hC rfl rfl h571 fun a s=>?_
     refine x8 (by kernel_rfl) ?_
     exact ⟨Sv493,wj s d [0,1,2,3] [0,1,2]⟩
    rintro a w ⟨Sv543,s,d⟩
    refine tn (cd s u rfl (fun u=>?_) fun u=>?_)
    ·refine sk (wp_block (wp_region_lit (rn0 2 s rfl fun a s=>?_)))
     obtain ⟨i577,h576,u⟩:=bt u
     refine sv s (u6 rfl h576) rfl fun a s=>?_
     refine wpList_nil ?_
     exact l9 (tn ⟨_,io u,Sv543,wj s d [0,1,2,3] [0,1,2]⟩)
    refine wp_exit (j4 (j4 (r9 ?_)))
    obtain rfl:=oi u
    have h578:=hd518 _ rfl
    subst h578
    exact tn ⟨Sv543,wj s d [0,1,2,3] [0,1,2]⟩
   rintro a w ⟨Sv522,s,d⟩
   refine tn (sn 2 [2] s d rfl rfl fun a s=>?_)
   refine sv s (y9 (vs:=[]) b2i rfl rfl) rfl fun a s=>?_
   have d:=d.addE (e:=SlA (α:=Epoch) none 0 0 []) K9
   refine x9 (α:=Channel) (vs:=[.agg Z2.toArray]) (cs:=Z2) (xs:=([(⟨(⟨ByteArray.empty,ByteArray.empty,ByteArray.empty,ByteArray.empty⟩:SourceID),([]:List Epoch)⟩:Channel)]:List Channel)) s d a6L rfl rfl rfl rfl rfl rfl ⟨⟨_,_,_,_,_,rfl,rfl,rfl,rfl,rfl,⟨_,_,_,rfl,d.envAt 0 rfl⟩⟩,rfl⟩ rfl trivial rfl fun b580 a w s d=>?_
   obtain ⟨l582,h581,u⟩:=bt u
   refine M3 (α:=Channel) s d a6L 4 rfl rfl rfl 4 rfl 0 rfl 0 rfl h581 rfl trivial ?_
   intro p583 k584 c585 a w s d
   refine sv s (j6 (o':=0) runUnderlying29 rfl sizeOf27 rfl rfl rfl) rfl fun a s=>?_
   refine ws [sl p583 k584 l582] s d 3 rfl rfl rfl sizeOf27 fun a w s d=>?_
   refine nl (wp_seq ?_)
   obtain ⟨l590,h586,u⟩:=bt u
   obtain ⟨p588,k589,h587⟩:=Y0 (α:=Channel) d 4 rfl h586
   obtain ⟨l595,h591,u⟩:=bt u
   obtain ⟨p593,k594,h592⟩:=Y0 (α:=Channel) d 4 rfl h591
   obtain ⟨l596,h597,u⟩:=bt u
   refine A8 (fun a w=>∃ Sv600 c598,Sl 157 [(3,pt b10),(4,pt b11),(6,pt b34),(7,iv e521)] a∧Wd ⟨w0,S0,[]⟩ Sv600 [.box b10 (C43 c5 p6 k7) 43,.box b11 a3S 29,.box b34 [sl p583 k584 l596] 29,.row p583 l596.length k584 c598 73 5] [Sq p6 k7 c5.Epoch.Response.Stages,Sq none 0 ([]:List Channel),j5 c598 l596] w) ?_ ?_
   ·refine h_c [0,1,2,3] [] d rfl rfl (by kernel_rfl) rfl fun hC d=>?_
    refine gn 4 [0,1,2,3] [3] s hC rfl rfl rfl fun a s=>?_
    refine gv s 4 rfl rfl hC (fun w hC=>U0 runUnderlying27 sizeOf73 rfl ⟨_,rfl⟩ (by exact rfl) h587) fun a s=>?_
    refine gn 3 [5,6,7] [3] s hC rfl rfl rfl fun a s=>?_
    refine gv s 8 rfl rfl hC (fun w hC=>U0 runUnderlying27 sizeOf73 rfl ⟨_,rfl⟩ (by exact rfl) h592) fun a s=>?_
    refine ho 9 rfl ?_
    obtain ⟨ds_,h603⟩:=src_vw (d.ownAt 4 rfl) (d.envAt 0 rfl) h591 h592
    refine b2d (α:=Channel) s d 4 rfl 0 rfl runUnderlying27 runUnderlying27 sizeOf73 (by decide) h586 h587 rfl rfl rfl h603.1 h603.2.1 h603.2.2 rfl trivial ?_
    intro c598 a w s d
    rw [Option.some.inj h597] at d
    have h599:=(a5K h586 h597)
    try have s:=s.fl 101 rfl h599
    try have s:=s.fl 106 rfl h599
    refine h_n [0,1,2,3] [] d rfl rfl fun hC=>?_
    refine x8 (by kernel_rfl) ?_
    have d:=d.fixB 3 0 rfl rfl h599
    exact ⟨Sv522,c598,wj s d [1,2,3,4] [4,5,0]⟩
   rintro a w ⟨Sv600,c598,s,d⟩
   refine tn (wp_region_lit (rn 5 [2,0] s d rfl rfl fun a s=>?_))
   refine sv s (y9 (vs:=[(0,V32 c5.Source)]) b2i rfl rfl) rfl fun a s=>?_
   obtain ⟨x606,h604,u⟩:=bt u
   obtain ⟨b613,q610,c611,h614,h607,h608,h612,h605⟩:=d.elemRV (α:=Channel) 3 rfl 2 rfl h604
   have hsv615:=s
   have hwv616:=d
   subst h614
   have s:=hsv615
   have d:=hwv616
   obtain ⟨_,_,_,_,_,rfl,rfl,rfl,rfl,rfl,⟨p617,n618,k619,rfl,h620⟩⟩:=h605
   obtain rfl:=h620.1
   have d:=d.addE (e:=SlA p617 _ k619 x606.Epochs) h620
   refine sv s (u7 runUnderlying27 sizeOf73 rfl rfl h607.1 h607.2 h608) rfl fun a s=>?_
   obtain ⟨l622,h621,u⟩:=bt u
   have d:=d.addE (e:=SlA (α:=Epoch) none 0 0 []) K9
   refine a5T (α:=Channel) s d 3 rfl 4 rfl h608 rfl rfl sizeOf73 rfl h621 ⟨_,_,_,_,_,rfl,rfl,rfl,rfl,rfl,⟨_,_,_,rfl,d.envAt 0 rfl⟩⟩ trivial ?_
   intro c623 a w s d
   have h624:=a0p h621
   try have s:=s.fl 111 rfl h624
   have d:=d.fixB 2 0 rfl rfl h624
   exact nl ⟨l622,e521,c623,(ad b613),k584,Sv600,u,wj s d [0,1,2,3] [3,4,0]⟩
  exact sk ⟨x106,rv36.1,c102,p103,k104,Sv105,u,wj s d [0,1,2,3] [0,1,2]⟩
 rintro a w ⟨x336,i337,c332,p333,k334,Sv335,u,s,d⟩
 refine tn (wp_seq (wp_seq ?_))
 obtain ⟨x340,h338,u⟩:=bt u
 obtain ⟨b347,q344,c345,h348,h341,h342,h346,h339⟩:=d.elemRV (α:=Channel) 3 rfl 2 rfl h338
 have hsv349:=s
 have hwv350:=d
 subst h348
 have s:=hsv349
 have d:=hwv350
 obtain ⟨_,_,_,_,_,rfl,rfl,rfl,rfl,rfl,⟨p351,n352,k353,rfl,h354⟩⟩:=h339
 obtain rfl:=h354.1
 have d:=d.addE (e:=SlA p351 _ k353 x340.Epochs) h354
 obtain ⟨rv356,h355,u⟩:=bt u
 refine A8 (fun a w=>∃ Sv357,Sl 157 [(3,pt b10),(4,pt b11),(6,pt b34),(7,iv i337),(125,.bool rv356)] a∧Wd ⟨w0,S0,[]⟩ Sv357 [.box b10 (C43 c5 p6 k7) 43,.box b11 a3S 29,.box b34 [sl (ad b347) k334 x336] 29,.row (ad b347) x336.length k334 c332 73 5] [Sq p6 k7 c5.Epoch.Response.Stages,Sq none 0 ([]:List Channel),j5 c332 x336] w) ?_ ?_
 ·refine h_c [0,1,2,3] [] d rfl rfl (by kernel_rfl) rfl fun hC d=>?_
  refine gn 3 [0,1,2] [2] s hC rfl rfl rfl fun a s=>?_
  refine gx s 3 rfl trivial rfl hC runUnderlying27 sizeOf73 rfl rfl h341 h342 fun a s=>?_
  refine gv s 4 rfl rfl hC (fun w hC=>j6 (o':=q344+4) runUnderlying73 rfl sizeOf71 rfl rfl rfl) fun a s=>?_
  refine gv s 5 rfl rfl hC (fun w hC=>a0r (j:=4) (hC.ownAt 3 rfl) rfl isAgg71 h346 rfl) fun a s=>?_
  refine gn 2 [6,7] [0] s hC rfl rfl rfl fun a s=>?_
  refine ho 8 rfl ?_
  refine cV s d (a8N h355 d.bdom (d.bE 0 rfl) (d.bE 1 rfl)) (d9 call75 rfl) rfl fun a w s d=>?_
  refine h_n [0,1,2,3] [] d rfl rfl fun hC=>?_
  refine x8 (by kernel_rfl) ?_
  exact ⟨Sv335,wj s d [0,1,2,3] [1,2,3]⟩
 rintro a w ⟨Sv357,s,d⟩
 refine tn (cd s u rfl (fun u=>?_) fun u=>?_)
 ·refine sr (sv s (y9 (vs:=[]) a4M rfl rfl) rfl fun a s=>?_)
  refine ws a3S s d 1 rfl rfl rfl sizeOf29 fun a w s d=>?_
  refine rz0 1 s rfl fun a s=>?_
  obtain rfl:=oi u
  exact wp_ret (j3 (a0V s rfl (D8 d 1 rfl rfl isAgg29 sizeOf29 rfl) (I1 rfl) (d.ret ⟨none,0,rfl,(d.envAt 1 rfl)⟩)))
 refine sk (wp_seq ?_)
 obtain ⟨x368,h366,u⟩:=bt u
 obtain ⟨q372,c373,h369,h370,h374,h367⟩:=d.elemRK (α:=Channel) 3 rfl 2 rfl h366
 obtain ⟨_,_,_,_,_,rfl,rfl,rfl,rfl,rfl,⟨p375,n376,k377,rfl,h378⟩⟩:=h367
 obtain rfl:=h378.1
 have d:=d.addE (e:=SlA p375 _ k377 x368.Epochs) h378
 obtain ⟨rv380,h379,u⟩:=bt u
 obtain ⟨x387,h385,u⟩:=bt u
 obtain ⟨q391,c392,h388,h389,h393,h386⟩:=d.elemRK (α:=Channel) 3 rfl 3 rfl h385
 obtain ⟨_,_,_,_,_,rfl,rfl,rfl,rfl,rfl,⟨p394,n395,k396,rfl,h397⟩⟩:=h386
 obtain rfl:=h397.1
 have d:=d.addE (e:=SlA p394 _ k396 x387.Epochs) h397
 obtain ⟨l399,h398,u⟩:=bt u
 refine A8 (fun a w=>∃ Sv402 c400,Sl 157 [(4,pt b11),(6,pt b34),(7,iv i337)] a∧Wd ⟨w0,S0,[]⟩ Sv402 [.box b11 a3S 29,.box b34 [sl (ad b347) k334 l399] 29,.row (ad b347) l399.length k334 c400 73 5] [Sq none 0 ([]:List Channel),j5 c400 l399] w) ?_ ?_
 ·refine h_c [0,1,2] [] d rfl rfl (by kernel_rfl) rfl fun hC d=>?_
  refine gn 6 [0,1,2,3,4,5] [2,2] s hC rfl rfl rfl fun a s=>?_
  refine gx s 6 rfl trivial rfl hC runUnderlying27 sizeOf73 rfl rfl h369 h370 fun a s=>?_
  refine gn 3 [7,9,10] [0] s hC rfl rfl rfl fun a s=>?_
  refine ho 8 rfl ?_
  refine sv s (a0r (j:=4) (d.ownAt 3 rfl) rfl isAgg71 h374 rfl) rfl fun a s=>?_
  refine h_n [0,1,2] [] d rfl rfl fun hC=>?_
  refine ho 11 rfl ?_
  refine cR s (b1P h379 d.dom (d.envAt 1 rfl) (d.envAt 2 rfl)) (d9 call76 rfl) rfl ?_
  rintro v406 Sv403 w a h404 ⟨p381,k382,c384,rfl,h407,h383⟩ s
  have d:=(d.callN h404 h407).addE (e:=j5 c384 rv380) h383
  refine h_n [1,2,3] [] d rfl rfl fun hC=>?_
  refine gx s 12 rfl trivial rfl hC runUnderlying27 sizeOf73 rfl rfl h388 h389 fun a s=>?_
  refine gv s 13 rfl rfl hC (fun w hC=>j6 (o':=q391+4) runUnderlying73 rfl sizeOf71 rfl rfl rfl) fun a s=>?_
  refine ho 14 rfl ?_
  obtain ⟨Sv409,d⟩:=A9 (α:=Epoch) d 0 rfl 0 rfl
  refine a5U (α:=Channel) (f:=4) (m:=1) s d 3 rfl 6 rfl h389 rfl rfl sizeOf71 rfl rfl rfl h398 (fun es he=>by rw [h393] at he;subst he;exact ⟨_,_,_,_,_,rfl,rfl,rfl,rfl,rfl,⟨_,_,_,rfl,d.envAt 0 rfl⟩⟩) trivial ?_
  intro c400 a w s d
  have h401:=a0p h398
  try have s:=s.fl 128 rfl h401
  try have s:=s.fl 131 rfl h401
  refine h_n [0,1,2] [] d rfl rfl fun hC=>?_
  refine x8 (by kernel_rfl) ?_
  have d:=d.fixB 2 0 rfl rfl h401
  exact ⟨Sv409,c400,wj s d [1,2,3] [6,0]⟩
 rintro a w ⟨Sv402,c400,s,d⟩
 refine tn (wp_seq (sn 5 [1] s d rfl rfl fun a s=>?_))
 obtain ⟨c424,hc424,u⟩:=bt u
 refine o6 9 (fun a w=>∃ Sv425,Sl 157 [(4,pt b11),(6,pt b34),(154,.bool c424)] a∧Wd ⟨w0,S0,[]⟩ Sv425 [.box b11 a3S 29,.box b34 [sl (ad b347) k334 l399] 29,.row (ad b347) l399.length k334 c400 73 5] [Sq none 0 ([]:List Channel),j5 c400 l399] w) ?_ ?_
 ·rcases Bool.eq_false_or_eq_true (decide (128<(l399.length:Int))) with h423 | h423
  ·have s:=s.bT 145 rfl h423
   have u:=C9 hc424 h423
   refine rn0 9 s rfl fun a s=>?_
   refine wpList_nil ?_
   obtain rfl:=oi u
   exact tn ⟨Sv402,wj s d [0,1,2] [0,1]⟩
  have s:=s.bF 145 rfl h423
  have u:=D6 hc424 h423
  refine rn 3 [1] s d rfl rfl fun a s=>?_
  obtain ⟨x428,h426,u⟩:=bt u
  obtain ⟨q432,c433,h429,h430,h434,h427⟩:=d.elemRK (α:=Channel) 2 rfl 1 rfl h426
  obtain ⟨_,_,_,_,_,rfl,rfl,rfl,rfl,rfl,⟨p435,n436,k437,rfl,h438⟩⟩:=h427
  obtain rfl:=h438.1
  have d:=d.addE (e:=SlA p435 _ k437 x428.Epochs) h438
  refine y7 s (u7 runUnderlying27 sizeOf73 rfl rfl h429.1 h429.2 h430) ⟨_,rfl,rfl⟩ rfl rfl fun a s=>?_
  refine y7 s (j6 (o':=q432+4) runUnderlying73 rfl sizeOf71 rfl rfl rfl) ⟨_,rfl,rfl⟩ rfl rfl fun a s=>?_
  refine y7 s (a0r (j:=4) (d.ownAt 2 rfl) rfl isAgg71 h434 rfl) ⟨_,rfl,rfl⟩ rfl rfl fun a s=>?_
  refine rn0 3 s rfl fun a s=>?_
  refine wpList_nil ?_
  obtain rfl:=oi u
  exact tn ⟨Sv402,wj s d [0,1,2] [1,2]⟩
 rintro a w ⟨Sv425,s,d⟩
 refine nl (cd s u rfl (fun u=>?_) fun u=>?_)
 ·refine sr (sv s (y9 (vs:=[]) a4M rfl rfl) rfl fun a s=>?_)
  refine ws a3S s d 0 rfl rfl rfl sizeOf29 fun a w s d=>?_
  refine rz0 1 s rfl fun a s=>?_
  obtain rfl:=oi u
  exact wp_ret (j3 (a0V s rfl (D8 d 0 rfl rfl isAgg29 sizeOf29 rfl) (I1 rfl) (d.ret ⟨none,0,rfl,(d.envAt 0 rfl)⟩)))
 refine sk (sn 1 [1] s d rfl rfl fun a s=>?_)
 refine ws [sl (ad b347) k334 l399] s d 0 rfl rfl rfl sizeOf29 fun a w s d=>?_
 refine rz0 1 s rfl fun a s=>?_
 obtain rfl:=oi u
 obtain ⟨Sv441,d⟩:=A9 (α:=Channel) d 2 rfl 1 rfl
 exact wp_ret (a0V s rfl (D8 d 0 rfl rfl isAgg29 sizeOf29 rfl) (I1 rfl) (d.ret ⟨(ad b347),k334,rfl,(d.envAt 0 rfl)⟩))
abbrev a6k (w0:World) (X:List Nat) (b2:Nat) (r:(Inventory × Dice)):(Nat→Prop)→World→Value→Prop:=fun S w v=>∃ p0_0 k0_0 pq0_0 kq0_0,v=.agg #[sl p0_0 k0_0 r.1.Channels]∧Outs X w0 S w [.box b2 (C94 r.2 pq0_0 kq0_0) 94]∧(Sq p0_0 k0_0 r.1.Channels).p S w∧(Sq pq0_0 kq0_0 r.2.L).p S w
abbrev a8t:List Value:=[.slice none ([]:List Channel).length 0]
theorem a6j {w0 S0 b2 p3 k4 d1 n6 r} (u:X6 d1 n6=some r) (hS:Dm S0 w0) (hin:Ins S0 w0 [.box b2 (C94 d1 p3 k4) 94]) (h5:(Sq p3 k4 d1.L).p S0 w0):Calls Tryz.prog 12 #[pt b2,iv n6] w0 (Ret (H6 [.box b2 (C94 d1 p3 k4) 94]) w0 S0 (a6k w0 (H6 [.box b2 (C94 d1 p3 k4) 94]) b2 r)):=by
 refine enI 29 func12 rfl hS hin rfl rfl rfl fun a s d=>?_
 have d:=d.addE h5
 refine sr (wa a8t s d zeroValue29 fun b7 a w s d=>?_)
 refine nl (sr (wa a8t s d zeroValue29 fun b8 a w s d=>?_))
 refine nl (wp_seq (sn0 3 s rfl fun a s=>?_))
 obtain ⟨rv10,h9,u⟩:=bt u
 refine cR s (o7 h9 d.dom (d.ins [2] (by decide) rfl) (d.envAt 0 rfl)) (d9 call23 rfl) rfl ?_
 rintro v17 Sv14 w a h15 ⟨p11,k12,rfl,h18,h13⟩ s
 have d:=(d.callO [2] [0,1] (by decide) rfl h15 h18).addE (e:=Sq p11 k12 rv10.2.L) h13
 refine rz0 1 s rfl fun a s=>?_
 obtain ⟨e106,h232,u⟩:=bt u
 refine y8 (fun a w=>∃ p107 k108 p109 k110 Sv111,Sl 29 [(4,pt b7),(5,pt b8)] a∧Wd ⟨w0,S0,H6 [.box b2 (C94 d1 p3 k4) 94]⟩ Sv111 [.box b2 [sl p107 k108 e106.1,iv e106.2.1] 94,.box b7 a8t 29,.box b8 [sl p109 k110 e106.2.2] 29] [Sq p107 k108 e106.1,Sq none 0 ([]:List Channel),Sq p109 k110 e106.2.2] w) ?_ ?_
 ·refine wp_block ?_
  have d:=d.addE (e:=SlA (α:=Channel) none 0 0 []) K9
  refine w9 (fun sv20 a w=>∃ p74 k75 p76 k77 Sv78,Sl 29 [(0,pt b2),(4,pt b7),(5,pt b8),(6,iv sv20.2.2.2)] a∧Wd ⟨w0,S0,H6 [.box b2 (C94 d1 p3 k4) 94]⟩ Sv78 [.box b2 [sl p74 k75 sv20.1,iv sv20.2.1] 94,.box b7 a8t 29,.box b8 [sl p76 k77 sv20.2.2.1] 29] [Sq p74 k75 sv20.1,Sq none 0 ([]:List Channel),Sq p76 k77 sv20.2.2.1] w) (rv10.2.L,rv10.2.At,([]:List Channel),rv10.1) h232 ⟨p11,k12,none,0,Sv14,wj s d [0,2,1] [1,0,0]⟩ ?_
  clear h232
  repeat clear u
  rintro sv20 a w tv104 ⟨p74,k75,p76,k77,Sv78,s,d⟩ u hd103
  refine wp_seq (sz0 2 s rfl fun a s=>?_)
  refine cd s u rfl (fun u=>?_) fun u=>?_
  ·refine sk (wp_seq (wp_block (wp_seq ?_)))
   obtain ⟨rv136,h135,u⟩:=bt u
   obtain ⟨rv145,h144,u⟩:=bt u
   refine A8 (fun a w=>∃ Sv150 b149 k142 k147 p141 p146,Sl 29 [(0,pt b2),(4,pt b7),(5,pt b8),(6,iv sv20.2.2.2),(7,pt b149),(8,iv rv145.2)] a∧Wd ⟨w0,S0,H6 [.box b2 (C94 d1 p3 k4) 94]⟩ Sv150 [.box b2 (C94 rv136.2 p141 k142) 94,.box b7 a8t 29,.box b8 [sl p76 k77 sv20.2.2.1] 29,.box b149 [sl p146 k147 rv145.1.Channels] 29] [Sq p141 k142 rv136.2.L,Sq none 0 ([]:List Channel),Sq p76 k77 sv20.2.2.1,Sq p146 k147 rv145.1.Channels] w) ?_ ?_
   ·refine h_c [1,2] [] d rfl rfl (by kernel_rfl) rfl fun hC d=>?_
    refine gn 3 [0,1,2] [1,1] s hC rfl rfl rfl fun a s=>?_
    refine a3g (rs:=[3,8]) (by kernel_rfl) rfl ?_
    refine P5.cons rfl ?_ ?_
    ·refine cR s (a0E h135 d.dom (d.ins [0] (by decide) rfl) (d.envAt 0 rfl) (d.envAt 2 rfl)) (d9 call13 rfl) rfl ?_
     rintro v154 Sv151 w a h152 ⟨p137,k138,c140,p141,k142,rfl,h155,h139,h143⟩ s
     have d:=((d.callO [0] [1,2] (by decide) rfl h152 h155).addE (e:=j5 c140 rv136.1.Epoch.Response.Stages) h139).addE (e:=Sq p141 k142 rv136.2.L) h143
     refine h_n [2,3] [] d rfl rfl fun hC=>?_
     refine a3g (rs:=[4,8]) (by kernel_rfl) rfl ?_
     refine P5.cons rfl ?_ ?_
     ·obtain ⟨Sv157,d⟩:=A9 (α:=Stage) d 0 rfl 1 rfl
      refine cR s (a0O h144 d.dom (d.envAt 5 rfl) (d.envAt 0 rfl)) (d9 call33 rfl) rfl ?_
      rintro v161 Sv158 w a h159 ⟨p146,k147,rfl,h148⟩ s
      have d:=(d.call h159).addE (e:=Sq p146 k147 rv145.1.Channels) h148
      refine h_n [1,2] [] d rfl rfl fun hC=>?_
      refine gn 3 [5,6,7] [] s hC rfl rfl rfl fun a s=>?_
      refine ho 8 rfl ?_
      refine wa a8t s d zeroValue29 fun b149 a w s d=>?_
      refine h_n [2,3] [] d rfl rfl fun hC=>?_
      refine ho 9 rfl ?_
      refine ws [sl p146 k147 rv145.1.Channels] s d 0 rfl rfl rfl sizeOf29 fun a w s d=>?_
      refine h_n [2,3] [] d rfl rfl fun hC=>?_
      refine gv s 10 rfl rfl hC (fun w hC=>J3 rfl) fun a s=>?_
      refine x8 (by kernel_rfl) ?_
      exact ⟨Sv158,b149,k142,k147,p141,p146,wj s d [1,2,3,0] [2,5,6,0]⟩
     refine P5.cons rfl ?_ ?_
     ·refine wa a8t s d zeroValue29 fun b149 a w s d=>?_
      refine h_n [3,4] [] d rfl rfl fun hC=>?_
      refine ho 4 rfl ?_
      obtain ⟨Sv164,d⟩:=A9 (α:=Stage) d 1 rfl 1 rfl
      refine cR s (a0O h144 d.dom (d.envAt 5 rfl) (d.envAt 0 rfl)) (d9 call33 rfl) rfl ?_
      rintro v168 Sv165 w a h166 ⟨p146,k147,rfl,h148⟩ s
      have d:=(d.call h166).addE (e:=Sq p146 k147 rv145.1.Channels) h148
      refine h_n [2,3] [] d rfl rfl fun hC=>?_
      refine gn 3 [5,6,7] [] s hC rfl rfl rfl fun a s=>?_
      refine ho 9 rfl ?_
      refine ws [sl p146 k147 rv145.1.Channels] s d 0 rfl rfl rfl sizeOf29 fun a w s d=>?_
      refine h_n [2,3] [] d rfl rfl fun hC=>?_
      refine gv s 10 rfl rfl hC (fun w hC=>J3 rfl) fun a s=>?_
      refine x8 (by kernel_rfl) ?_
      exact ⟨Sv165,b149,k142,k147,p141,p146,wj s d [1,2,3,0] [2,5,6,0]⟩
     exact P5.nil
    refine P5.cons rfl ?_ ?_
    ·refine wa a8t s d zeroValue29 fun b149 a w s d=>?_
     refine h_n [2,3] [] d rfl rfl fun hC=>?_
     refine ho 3 rfl ?_
     refine cR s (a0E h135 d.dom (d.ins [1] (by decide) rfl) (d.envAt 0 rfl) (d.envAt 2 rfl)) (d9 call13 rfl) rfl ?_
     rintro v174 Sv171 w a h172 ⟨p137,k138,c140,p141,k142,rfl,h175,h139,h143⟩ s
     have d:=((d.callO [1] [0,2,3] (by decide) rfl h172 h175).addE (e:=j5 c140 rv136.1.Epoch.Response.Stages) h139).addE (e:=Sq p141 k142 rv136.2.L) h143
     refine h_n [3,4] [] d rfl rfl fun hC=>?_
     refine ho 4 rfl ?_
     obtain ⟨Sv177,d⟩:=A9 (α:=Stage) d 0 rfl 1 rfl
     refine cR s (a0O h144 d.dom (d.envAt 5 rfl) (d.envAt 0 rfl)) (d9 call33 rfl) rfl ?_
     rintro v181 Sv178 w a h179 ⟨p146,k147,rfl,h148⟩ s
     have d:=(d.call h179).addE (e:=Sq p146 k147 rv145.1.Channels) h148
     refine h_n [2,3] [] d rfl rfl fun hC=>?_
     refine gn 3 [5,6,7] [] s hC rfl rfl rfl fun a s=>?_
     refine ho 9 rfl ?_
     refine ws [sl p146 k147 rv145.1.Channels] s d 1 rfl rfl rfl sizeOf29 fun a w s d=>?_
     refine h_n [2,3] [] d rfl rfl fun hC=>?_
     refine gv s 10 rfl rfl hC (fun w hC=>J3 rfl) fun a s=>?_
     refine x8 (by kernel_rfl) ?_
     exact ⟨Sv178,b149,k142,k147,p141,p146,wj s d [0,2,3,1] [2,5,6,0]⟩
    exact P5.nil
   rintro a w ⟨Sv150,b149,k142,k147,p141,p146,s,d⟩
   refine tn (sz0 2 s rfl fun a s=>?_)
   refine y8 (fun a w=>∃ (x227:(List Channel)) (p224 k225 Sv226:_),X9 sv20 rv136 x227=some tv104∧Sl 29 [(0,pt b2),(4,pt b7),(5,pt b8),(6,iv sv20.2.2.2)] a∧Wd ⟨w0,S0,H6 [.box b2 (C94 d1 p3 k4) 94]⟩ Sv226 [.box b2 (C94 rv136.2 p141 k142) 94,.box b7 a8t 29,.box b8 [sl p224 k225 x227] 29] [Sq p141 k142 rv136.2.L,Sq none 0 ([]:List Channel),Sq p224 k225 x227] w) ?_ ?_
   ·refine cd s u rfl (fun u=>?_) fun u=>?_
    ·refine wp_region_lit (sv s (a0U (d.ownAt 3 rfl) rfl isAgg29 sizeOf29 rfl rfl) rfl fun a s=>?_)
     refine ws [sl p146 k147 rv145.1.Channels] s d 2 rfl rfl rfl sizeOf29 fun a w s d=>?_
     exact nl ⟨rv145.1.Channels,p146,k147,Sv150,u,wj s d [0,1,2] [0,1,3]⟩
    exact sk ⟨sv20.2.2.1,p76,k77,Sv150,u,wj s d [0,1,2] [0,1,2]⟩
   rintro a w ⟨x227,p224,k225,Sv226,u,s,d⟩
   refine l9 (tn (wp_region_lit (rn0 2 s rfl fun a s=>?_)))
   obtain ⟨i229,h228,u⟩:=bt u
   refine sv s (u6 rfl h228) rfl fun a s=>?_
   exact nl ⟨_,io u,p141,k142,p224,k225,Sv226,wj s d [0,1,2] [0,1,2]⟩
  refine wp_exit (j4 (j4 (r9 ?_)))
  obtain rfl:=oi u
  have h231:=hd103 _ rfl
  subst h231
  exact tn ⟨p74,k75,p76,k77,Sv78,wj s d [0,1,2] [0,1,2]⟩
 rintro a w ⟨p107,k108,p109,k110,Sv111,s,d⟩
 refine tn (sn 1 [2] s d rfl rfl fun a s=>?_)
 refine ws [sl p109 k110 e106.2.2] s d 1 rfl rfl rfl sizeOf29 fun a w s d=>?_
 refine nl ?_
 obtain rfl:=oi u
 exact wp_ret (a6u s rfl (D8 d 1 rfl rfl isAgg29 sizeOf29 rfl) (d.ret ⟨p109,k110,p107,k108,rfl,(d.outs [0] (by decide) rfl),(d.envAt 2 rfl),(d.envAt 0 rfl)⟩))
abbrev a9l (w0:World) (X:List Nat) (r:(Inventory × Bool)):Rd:=fun S w v=>∃ p0_0 k0_0,v=.tuple #[.agg #[sl p0_0 k0_0 r.1.Channels],.bool r.2]∧(Sq p0_0 k0_0 r.1.Channels).p S w
abbrev a9U:List Value:=[.slice none ([]:List Channel).length 0]
theorem a3Z {w0 S0 p2 k3 p4 k5 h1 n8 r} (u:a1E h1 n8=some r) (hS:Dm S0 w0) (h6:(Sq p2 k3 h1.Base.Channels).p S0 w0) (h7:(Sq p4 k5 h1.Changes).p S0 w0):Ck Tryz.prog 69 #[V65 h1 p2 k3 p4 k5,iv n8] w0 S0 [] a9l r:=by
 refine en 33 func69 rfl hS rfl rfl rfl fun a s d=>?_
 have d:=(d.addE h6).addE h7
 refine sr (wb (C65 h1 p2 k3 p4 k5) s d rfl fun b9 a w s d=>?_)
 refine wa a9U s d zeroValue29 fun b10 a w s d=>?_
 refine rz0 1 s rfl fun a s=>?_
 refine sn 2 [1] s d rfl rfl fun a s=>?_
 obtain ⟨rv12,h11,u⟩:=bt u
 refine cR s (a4m h11 d.dom (d.envAt 1 rfl)) (d9 call73 rfl) rfl ?_
 rintro v20 Sv17 w a h18 ⟨p13,k14,c16,rfl,h21,h15⟩ s
 have d:=(d.callN h18 h21).addE (e:=j5 c16 rv12.Channels) h15
 refine wa a9U s d zeroValue29 fun b23 a w s d=>?_
 refine ws [sl p13 k14 rv12.Channels] s d 0 rfl rfl rfl sizeOf29 fun a w s d=>?_
 refine nl (wp_seq (sz0 1 s rfl fun a s=>?_))
 refine wp_block ?_
 obtain ⟨Sv211,d⟩:=A9 (α:=Channel) d 1 rfl 0 rfl
 have d:=d.addE (e:=SlA (α:=Channel) none 0 0 []) K9
 refine w9 (fun sv118 a w=>∃ p178 k179 Sv180,Sl 33 [(1,iv n8),(2,pt b9),(4,pt b10),(6,pt b23),(7,iv sv118.2)] a∧Wd ⟨w0,S0,[]⟩ Sv180 [.box b9 (C65 h1 p2 k3 p4 k5) 65,.box b10 a9U 29,.box b23 [sl p178 k179 sv118.1] 29] [Sq p2 k3 h1.Base.Channels,Sq p4 k5 h1.Changes,Sq none 0 ([]:List Channel),Sq p178 k179 sv118.1] w) (rv12.Channels,0) u ⟨p13,k14,Sv211,wj s d [2,1,0] [4,3,0,1]⟩ ?_
 repeat clear u
 rintro sv118 a w tv210 ⟨p178,k179,Sv180,s,d⟩ u hd209
 refine wp_seq (sz0 3 s rfl fun a s=>?_)
 refine cd s u rfl (fun u=>?_) fun u=>?_
 ·refine sk (wp_seq (wp_block (wp_seq ?_)))
  obtain ⟨x243,h241,u⟩:=bt u
  obtain ⟨b249,o250,q247,c248,h251,h244,h245,h246,h242⟩:=d.elemV 1 rfl h241
  have hsv252:=s
  have hwv253:=d
  subst h251
  have s:=hsv252
  have d:=hwv253
  obtain ⟨_,_,_,_,_,_,_,_,_,_,_,_,_,_,rfl,rfl,rfl,rfl,rfl,rfl,rfl,rfl,rfl,rfl,rfl,rfl,rfl,rfl,⟨p254,n255,k256,rfl,h257⟩⟩:=h242
  obtain rfl:=h257.1
  have d:=(d.addE (e:=SlA p254 _ k256 x243.Epoch.Response.Stages) h257).addE h246
  obtain ⟨rv259,h258,u⟩:=bt u
  refine A8 (fun a w=>∃ Sv264 b263 k261 p260,Sl 33 [(1,iv n8),(2,pt b9),(4,pt b10),(6,pt b23),(7,iv sv118.2),(8,pt b263),(9,iv rv259.2)] a∧Wd ⟨w0,S0,[]⟩ Sv264 [.box b9 (C65 h1 p2 k3 (some ⟨b249,o250,none⟩) k5) 65,.box b10 a9U 29,.box b23 [sl p178 k179 sv118.1] 29,.box b263 [sl p260 k261 rv259.1.Channels] 29] [Sq p2 k3 h1.Base.Channels,Sq (some ⟨b249,o250,none⟩) k5 h1.Changes,Sq none 0 ([]:List Channel),Sq p178 k179 sv118.1,Sq p260 k261 rv259.1.Channels] w) ?_ ?_
  ·refine h_c [0,1,2] [0] d rfl rfl (by kernel_rfl) rfl fun hC d=>?_
   refine gn 4 [0,1,2,3] [2,0] s hC rfl rfl rfl fun a s=>?_
   refine gx s 4 rfl trivial rfl hC runUnderlying63 sizeOf43 rfl rfl h244 h245 fun a s=>?_
   refine gv s 5 rfl rfl hC (fun w hC=>E5 (j:=0) (hC.ceAt 0 rfl) rfl isAgg43 sizeOf43 rfl rfl) fun a s=>?_
   refine a3g (rs:=[6,10]) (by kernel_rfl) rfl ?_
   refine P5.cons rfl ?_ ?_
   ·refine cR s (a0O h258 d.dom (d.envAt 5 rfl) (d.envAt 1 rfl)) (d9 call33 rfl) rfl ?_
    rintro v268 Sv265 w a h266 ⟨p260,k261,rfl,h262⟩ s
    have d:=(d.call h266).addE (e:=Sq p260 k261 rv259.1.Channels) h262
    refine h_n [0,1,2] [1] d rfl rfl fun hC=>?_
    refine gn 3 [7,8,9] [] s hC rfl rfl rfl fun a s=>?_
    refine ho 10 rfl ?_
    refine wa a9U s d zeroValue29 fun b263 a w s d=>?_
    refine h_n [1,2,3] [1] d rfl rfl fun hC=>?_
    refine ho 11 rfl ?_
    refine ws [sl p260 k261 rv259.1.Channels] s d 0 rfl rfl rfl sizeOf29 fun a w s d=>?_
    refine h_n [1,2,3] [1] d rfl rfl fun hC=>?_
    refine gv s 12 rfl rfl hC (fun w hC=>J3 rfl) fun a s=>?_
    refine x8 (by kernel_rfl) ?_
    exact ⟨Sv265,b263,k261,p260,wj s d [1,2,3,0] [3,4,5,6,0]⟩
   refine P5.cons rfl ?_ ?_
   ·refine wa a9U s d zeroValue29 fun b263 a w s d=>?_
    refine h_n [1,2,3] [0] d rfl rfl fun hC=>?_
    refine ho 6 rfl ?_
    refine cR s (a0O h258 d.dom (d.envAt 5 rfl) (d.envAt 1 rfl)) (d9 call33 rfl) rfl ?_
    rintro v274 Sv271 w a h272 ⟨p260,k261,rfl,h262⟩ s
    have d:=(d.call h272).addE (e:=Sq p260 k261 rv259.1.Channels) h262
    refine h_n [1,2,3] [1] d rfl rfl fun hC=>?_
    refine gn 3 [7,8,9] [] s hC rfl rfl rfl fun a s=>?_
    refine ho 11 rfl ?_
    refine ws [sl p260 k261 rv259.1.Channels] s d 0 rfl rfl rfl sizeOf29 fun a w s d=>?_
    refine h_n [1,2,3] [1] d rfl rfl fun hC=>?_
    refine gv s 12 rfl rfl hC (fun w hC=>J3 rfl) fun a s=>?_
    refine x8 (by kernel_rfl) ?_
    exact ⟨Sv271,b263,k261,p260,wj s d [1,2,3,0] [3,4,5,6,0]⟩
   exact P5.nil
  rintro a w ⟨Sv264,b263,k261,p260,s,d⟩
  refine tn (wp_seq (sz0 2 s rfl fun a s=>?_))
  refine cd s u rfl (fun u=>?_) fun u=>?_
  ·refine sr (sv s (y9 (vs:=[]) a4M rfl rfl) rfl fun a s=>?_)
   refine ws a9U s d 1 rfl rfl rfl sizeOf29 fun a w s d=>?_
   refine rz0 1 s rfl fun a s=>?_
   obtain rfl:=oi u
   have h297:=hd209 _ rfl
   subst h297
   exact wp_ret (j3 (q9 (j3 (j3 (q9 (j3 (a0V s rfl (D8 d 1 rfl rfl isAgg29 sizeOf29 rfl) (I1 rfl) (d.ret ⟨none,0,rfl,(d.envAt 2 rfl)⟩))))))))
  refine sk (wp_region_lit (sv s (a0U (d.ownAt 3 rfl) rfl isAgg29 sizeOf29 rfl rfl) rfl fun a s=>?_))
  refine ws [sl p260 k261 rv259.1.Channels] s d 2 rfl rfl rfl sizeOf29 fun a w s d=>?_
  refine wpList_nil ?_
  refine l9 (tn (wp_region_lit (rn0 2 s rfl fun a s=>?_)))
  obtain ⟨i299,h298,u⟩:=bt u
  refine sv s (u6 rfl h298) rfl fun a s=>?_
  exact nl ⟨_,io u,p260,k261,Sv264,wj s d [0,1,2] [0,1,2,4]⟩
 obtain ⟨rv300,u,h301⟩:=a0d u
 have h301:=(hd209 _ h301.symm).symm
 subst h301
 refine wp_exit (j4 (j4 (r9 (tn (sn 1 [2] s d rfl rfl fun a s=>?_)))))
 refine ws [sl p178 k179 sv118.1] s d 1 rfl rfl rfl sizeOf29 fun a w s d=>?_
 refine rz0 1 s rfl fun a s=>?_
 obtain rfl:=oi u
 exact wp_ret (a0V s rfl (D8 d 1 rfl rfl isAgg29 sizeOf29 rfl) (I1 rfl) (d.ret ⟨p178,k179,rfl,(d.envAt 3 rfl)⟩))
theorem a6Y {w0 S0 p2 k3 p4 k5 h1 r} (u:a4x h1=some r) (hS:Dm S0 w0) (h6:(Sq p2 k3 h1.Base.Channels).p S0 w0) (h7:(Sq p4 k5 h1.Changes).p S0 w0):Ck Tryz.prog 37 #[V65 h1 p2 k3 p4 k5] w0 S0 [] l7 r:=by
 refine en 24 func37 rfl hS rfl rfl rfl fun a s d=>?_
 have d:=(d.addE h6).addE h7
 refine sr (wb (C65 h1 p2 k3 p4 k5) s d rfl fun b8 a w s d=>?_)
 refine rz0 1 s rfl fun a s=>?_
 refine wp_seq (sn 2 [0] s d rfl rfl fun a s=>?_)
 obtain ⟨rv10,h9,u⟩:=bt u
 refine cV s d (a6V h9 d.bdom (d.bE 1 rfl)) (d9 call18 rfl) rfl fun a w s d=>?_
 refine rn0 2 s rfl fun a s=>?_
 refine rO 5 9 [0] s d rfl rfl rfl rfl rfl fun a s=>?_
 refine nl (cd s u rfl (fun u=>?_) fun u=>?_)
 ·refine sz0 1 s rfl fun a s=>?_
  obtain rfl:=oi u
  exact wp_ret (j3 (rt s rfl (d.ret rfl)))
 refine sk (sn 4 [0,0] s d rfl rfl fun a s=>?_)
 obtain ⟨rv21,h20,u⟩:=bt u
 refine cR s (a3Z h20 d.dom (d.envAt 1 rfl) (d.envAt 0 rfl)) (d9 call69 rfl) rfl ?_
 rintro v28 Sv25 w a h26 ⟨p22,k23,rfl,h24⟩ s
 have d:=(d.call h26).addE (e:=Sq p22 k23 rv21.1.Channels) h24
 refine rn0 3 s rfl fun a s=>?_
 refine wa [.slice none ([]:List Channel).length 0] s d zeroValue29 fun b31 a w s d=>?_
 refine ws [sl p22 k23 rv21.1.Channels] s d 0 rfl rfl rfl sizeOf29 fun a w s d=>?_
 refine rz0 1 s rfl fun a s=>?_
 refine sz0 2 s rfl fun a s=>?_
 obtain rfl:=oi u
 exact q1 s rfl (d.ret rfl)
abbrev E22_0:List Value:=[.slice none ([]:List Channel).length 0]
theorem a9k {w0 S0 p2 k3 p4 k5 h1 n8 r} (u:a2E h1 n8=some r) (hS:Dm S0 w0) (h6:(Sq p2 k3 h1.Base.Channels).p S0 w0) (h7:(Sq p4 k5 h1.Changes).p S0 w0):Ck Tryz.prog 22 #[V65 h1 p2 k3 p4 k5,iv n8] w0 S0 [] a6X r:=by
 refine en 26 func22 rfl hS rfl rfl rfl fun a s d=>?_
 have d:=(d.addE h6).addE h7
 refine sr (wb (C65 h1 p2 k3 p4 k5) s d rfl fun b9 a w s d=>?_)
 refine wa E22_0 s d zeroValue29 fun b10 a w s d=>?_
 refine rz0 1 s rfl fun a s=>?_
 refine wp_seq (sn 1 [1] s d rfl rfl fun a s=>?_)
 obtain ⟨rv12,h11,u⟩:=bt u
 refine cV s d (a6Y h11 d.bdom (d.bE 1 rfl) (d.bE 0 rfl)) (d9 call37 rfl) rfl fun a w s d=>?_
 refine rz0 1 s rfl fun a s=>?_
 refine cd s u rfl (fun u=>?_) fun u=>?_
 ·refine sr (sv s (y9 (vs:=[]) a4M rfl rfl) rfl fun a s=>?_)
  refine ws E22_0 s d 0 rfl rfl rfl sizeOf29 fun a w s d=>?_
  refine rz0 1 s rfl fun a s=>?_
  obtain rfl:=oi u
  have d:=d.addE (e:=SlA (α:=Channel) none 0 0 []) K9
  exact wp_ret (j3 (a0V s rfl (D8 d 0 rfl rfl isAgg29 sizeOf29 rfl) (I1 rfl) (d.ret ⟨none,0,rfl,(d.envAt 0 rfl)⟩)))
 refine sk (wp_seq (sn 4 [1] s d rfl rfl fun a s=>?_))
 obtain ⟨rv22,h21,u⟩:=bt u
 refine cV s d (M5 h21 d.bdom) (d9 call64 rfl) rfl fun a w s d=>?_
 refine rz0 1 s rfl fun a s=>?_
 refine cd s u rfl (fun u=>?_) fun u=>?_
 ·refine sr (sv s (y9 (vs:=[]) a4M rfl rfl) rfl fun a s=>?_)
  refine ws E22_0 s d 0 rfl rfl rfl sizeOf29 fun a w s d=>?_
  refine rz0 1 s rfl fun a s=>?_
  obtain rfl:=oi u
  have d:=d.addE (e:=SlA (α:=Channel) none 0 0 []) K9
  exact wp_ret (j3 (a0V s rfl (D8 d 0 rfl rfl isAgg29 sizeOf29 rfl) (I1 rfl) (d.ret ⟨none,0,rfl,(d.envAt 0 rfl)⟩)))
 refine sk (sn 2 [1] s d rfl rfl fun a s=>?_)
 obtain ⟨rv32,h31,u⟩:=bt u
 refine cR s (a3Z h31 d.dom (d.envAt 1 rfl) (d.envAt 0 rfl)) (d9 call69 rfl) rfl ?_
 rintro v39 Sv36 w a h37 ⟨p33,k34,rfl,h35⟩ s
 have d:=(d.call h37).addE (e:=Sq p33 k34 rv32.1.Channels) h35
 refine rn0 3 s rfl fun a s=>?_
 refine wa E22_0 s d zeroValue29 fun b42 a w s d=>?_
 refine ws [sl p33 k34 rv32.1.Channels] s d 0 rfl rfl rfl sizeOf29 fun a w s d=>?_
 refine rz0 1 s rfl fun a s=>?_
 refine sn 1 [0] s d rfl rfl fun a s=>?_
 refine ws [sl p33 k34 rv32.1.Channels] s d 1 rfl rfl rfl sizeOf29 fun a w s d=>?_
 refine rz0 1 s rfl fun a s=>?_
 obtain rfl:=oi u
 exact wp_ret (a0V s rfl (D8 d 1 rfl rfl isAgg29 sizeOf29 rfl) (I1 rfl) (d.ret ⟨p33,k34,rfl,(d.envAt 0 rfl)⟩))
abbrev a9J (w0:World) (X:List Nat) (r:(History × Int)):Rd:=fun S w v=>∃ p0_0 k0_0 c0_0 p0_1 k0_1 c0_1,v=.tuple #[V65 r.1 p0_0 k0_0 p0_1 k0_1,iv r.2]∧Outs X w0 S w [.row p0_0 r.1.Base.Channels.length k0_0 c0_0 73 5,.row p0_1 r.1.Changes.length k0_1 c0_1 43 14]∧(j5 c0_0 r.1.Base.Channels).p S w∧(j5 c0_1 r.1.Changes).p S w
theorem a4C {w0 S0 p2 k3 p4 k5 p9 k10 h1 c8 r} (u:a1h h1 c8=some r) (hS:Dm S0 w0) (h6:(Sq p2 k3 h1.Base.Channels).p S0 w0) (h7:(Sq p4 k5 h1.Changes).p S0 w0) (h11:(Sq p9 k10 c8.Epoch.Response.Stages).p S0 w0):Ck Tryz.prog 41 #[V65 h1 p2 k3 p4 k5,V43 c8 p9 k10] w0 S0 [] a9J r:=by
 refine en 51 func41 rfl hS rfl rfl rfl fun a s d=>?_
 have d:=((d.addE h6).addE h7).addE h11
 refine sr (wb (C65 h1 p2 k3 p4 k5) s d rfl fun b12 a w s d=>?_)
 refine wb (C43 c8 p9 k10) s d rfl fun b13 a w s d=>?_
 refine wa Z21 s d zeroValue65 fun b14 a w s d=>?_
 refine rz0 1 s rfl fun a s=>?_
 refine wp_seq (sn 1 [2] s d rfl rfl fun a s=>?_)
 obtain ⟨rv16,h15,u⟩:=bt u
 refine cV s d (a6Y h15 d.bdom (d.bE 2 rfl) (d.bE 1 rfl)) (d9 call37 rfl) rfl fun a w s d=>?_
 refine rz0 1 s rfl fun a s=>?_
 refine cd s u rfl (fun u=>?_) fun u=>?_
 ·refine sr (sv s (y9 (vs:=[]) a9T rfl rfl) rfl fun a s=>?_)
  refine ws Z21 s d 0 rfl rfl rfl sizeOf65 fun a w s d=>?_
  refine rz0 1 s rfl fun a s=>?_
  obtain rfl:=oi u
  have d:=(d.nilRow Channel 73).nilRow Change 43
  exact wp_ret (j3 (a0V s rfl (D8 d 2 rfl rfl isAgg65 sizeOf65 rfl) (I1 rfl) (d.ret ⟨none,0,[],none,0,[],rfl,(d.outs [1,0] (by decide) rfl),(d.envAt 1 rfl),(d.envAt 0 rfl)⟩)))
 refine sk (wp_seq (sz 4 [2] s d rfl rfl fun a s=>?_))
 refine cd s u rfl (fun u=>?_) fun u=>?_
 ·refine sr (sv s (y9 (vs:=[]) a9T rfl rfl) rfl fun a s=>?_)
  refine ws Z21 s d 0 rfl rfl rfl sizeOf65 fun a w s d=>?_
  refine rz0 1 s rfl fun a s=>?_
  obtain rfl:=oi u
  have d:=(d.nilRow Channel 73).nilRow Change 43
  exact wp_ret (j3 (a0V s rfl (D8 d 2 rfl rfl isAgg65 sizeOf65 rfl) (I1 rfl) (d.ret ⟨none,0,[],none,0,[],rfl,(d.outs [1,0] (by decide) rfl),(d.envAt 1 rfl),(d.envAt 0 rfl)⟩)))
 refine sk (sn 4 [2,2] s d rfl rfl fun a s=>?_)
 obtain ⟨rv28,h27,u⟩:=bt u
 refine cR s (a3Z h27 d.dom (d.envAt 2 rfl) (d.envAt 1 rfl)) (d9 call69 rfl) rfl ?_
 rintro v35 Sv32 w a h33 ⟨p29,k30,rfl,h31⟩ s
 have d:=(d.call h33).addE (e:=Sq p29 k30 rv28.1.Channels) h31
 refine rn0 3 s rfl fun a s=>?_
 refine wa [.slice none ([]:List Channel).length 0] s d zeroValue29 fun b38 a w s d=>?_
 refine ws [sl p29 k30 rv28.1.Channels] s d 0 rfl rfl rfl sizeOf29 fun a w s d=>?_
 refine rz0 1 s rfl fun a s=>?_
 refine wp_seq (sn 2 [0,2] s d rfl rfl fun a s=>?_)
 obtain ⟨rv40,h39,u⟩:=bt u
 refine cR s (a0O h39 d.dom (d.envAt 0 rfl) (d.envAt 1 rfl)) (d9 call33 rfl) rfl ?_
 rintro v47 Sv44 w a h45 ⟨p41,k42,rfl,h43⟩ s
 have d:=(d.call h45).addE (e:=Sq p41 k42 rv40.1.Channels) h43
 refine rn0 3 s rfl fun a s=>?_
 refine wa [.slice none ([]:List Channel).length 0] s d zeroValue29 fun b50 a w s d=>?_
 refine ws [sl p41 k42 rv40.1.Channels] s d 0 rfl rfl rfl sizeOf29 fun a w s d=>?_
 refine rz0 1 s rfl fun a s=>?_
 refine sz0 2 s rfl fun a s=>?_
 refine cd s u rfl (fun u=>?_) fun u=>?_
 ·refine sr (sv s (y9 (vs:=[]) a9T rfl rfl) rfl fun a s=>?_)
  refine mv s rfl rfl fun a s=>?_
  refine ws Z21 s d 2 rfl rfl rfl sizeOf65 fun a w s d=>?_
  refine rz0 1 s rfl fun a s=>?_
  obtain rfl:=oi u
  have d:=(d.nilRow Channel 73).nilRow Change 43
  exact wp_ret (j3 (a0V s rfl (D8 d 4 rfl rfl isAgg65 sizeOf65 rfl) (I1 rfl) (d.ret ⟨none,0,[],none,0,[],rfl,(d.outs [1,0] (by decide) rfl),(d.envAt 1 rfl),(d.envAt 0 rfl)⟩)))
 refine sk (sn 2 [3] s d rfl rfl fun a s=>?_)
 obtain ⟨rv54,h53,u⟩:=bt u
 refine cR s (Y4 h53 d.dom (d.envAt 2 rfl)) (d9 call45 rfl) rfl ?_
 rintro v62 Sv59 w a h60 ⟨p55,k56,c58,rfl,h63,h57⟩ s
 have d:=(d.callN h60 h63).addE (e:=j5 c58 rv54.Response.Stages) h57
 refine sv s (j6 (o':=6) runUnderlying43 rfl sizeOf41 rfl rfl rfl) rfl fun a s=>?_
 refine ws (C43 ⟨c8.Kind,c8.Source,c8.From,rv54⟩ p55 k56) s d 4 rfl rfl rfl sizeOf41 fun a w s d=>?_
 refine nl (wp_seq ?_)
 obtain ⟨rv66,h65,u⟩:=bt u
 obtain ⟨l72,h71,u⟩:=bt u
 obtain ⟨l79,h78,u⟩:=bt u
 refine A8 (fun a w=>∃ Sv83 c70 c82 k68 k81 p67 p80,Sl 51 [(4,pt b14),(5,iv 0)] a∧Wd ⟨w0,S0,[]⟩ Sv83 [.box b14 [sl p67 k68 rv66.Channels,sl p80 k81 l79] 65,.row p67 rv66.Channels.length k68 c70 73 5,.row p80 l79.length k81 c82 43 14] [j5 c70 rv66.Channels,j5 c82 l79] w) ?_ ?_
 ·refine h_c [1,2,4,5] [] d rfl rfl (by kernel_rfl) rfl fun hC d=>?_
  refine gn 5 [0,1,3,4,6] [3,3,2] s hC rfl rfl rfl fun a s=>?_
  refine a3g (rs:=[2,7]) (by kernel_rfl) rfl ?_
  refine P5.cons rfl ?_ ?_
  ·refine cR s (a4m h65 d.dom (d.envAt 5 rfl)) (d9 call73 rfl) rfl ?_
   rintro v87 Sv84 w a h85 ⟨p67,k68,c70,rfl,h88,h69⟩ s
   have d:=(d.callN h85 h88).addE (e:=j5 c70 rv66.Channels) h69
   refine h_n [2,3,5,6] [] d rfl rfl fun hC=>?_
   refine h_d [2,3,5,6,0] [] [0,1,2,3] [] d rfl rfl rfl rfl fun hC=>?_
   refine a3g (rs:=[5,7]) (by kernel_rfl) rfl ?_
   refine P5.cons rfl ?_ ?_
   ·have d:=d.nilRow Change 43
    refine R6 (α:=Change) s d El63 0 rfl rfl rfl 0 rfl 6 rfl h71 rfl trivial ?_
    intro p73 k74 c75 a w s d
    refine h_n [3,4,6,7,1] [] d rfl rfl fun hC=>?_
    refine ho 7 rfl ?_
    obtain ⟨Sv90,d⟩:=A9 (α:=Stage) d 2 rfl 3 rfl
    refine x9 (α:=Change) (vs:=[V43 ⟨c8.Kind,c8.Source,c8.From,rv54⟩ p55 k56]) (cs:=(C43 ⟨c8.Kind,c8.Source,c8.From,rv54⟩ p55 k56)) (xs:=([(⟨c8.Kind,c8.Source,c8.From,rv54⟩:Change)]:List Change)) s d El63 rfl rfl rfl rfl rfl rfl ⟨⟨_,_,_,_,_,_,_,_,_,_,_,_,_,_,rfl,rfl,rfl,rfl,rfl,rfl,rfl,rfl,rfl,rfl,rfl,rfl,rfl,rfl,⟨_,_,_,rfl,d.envAt 0 rfl⟩⟩,rfl⟩ rfl trivial rfl fun b77 a w s d=>?_
    refine h_n [3,4,6,7,2] [] d rfl rfl fun hC=>?_
    refine h_d [3,4,6,7,2,0] [] [0,1,2,3,4] [] d rfl rfl rfl rfl fun hC=>?_
    refine ho 8 rfl ?_
    refine M3 (α:=Change) s d El63 1 rfl rfl rfl 2 rfl 0 rfl 0 rfl h78 rfl trivial ?_
    intro p80 k81 c82 a w s d
    refine h_n [3,4,6,7,2,0] [] d rfl rfl fun hC=>?_
    refine gv s 9 rfl rfl hC (fun w hC=>y9 (vs:=[(0,.agg #[sl p67 k68 rv66.Channels]),(1,sl p80 k81 l79)]) a9T rfl rfl) fun a s=>?_
    refine ho 10 rfl ?_
    refine ws [sl p67 k68 rv66.Channels,sl p80 k81 l79] s d 5 rfl rfl rfl sizeOf65 fun a w s d=>?_
    refine h_n [3,4,6,7,2,0] [] d rfl rfl fun hC=>?_
    refine gv s 11 rfl rfl hC (fun w hC=>J3 rfl) fun a s=>?_
    refine x8 (by kernel_rfl) ?_
    exact ⟨Sv90,c70,c82,k68,k81,p67,p80,wj s d [5,2,1] [5,0]⟩
   refine P5.cons rfl ?_ ?_
   ·obtain ⟨Sv91,d⟩:=A9 (α:=Stage) d 1 rfl 1 rfl
    refine x9 (α:=Change) (vs:=[V43 ⟨c8.Kind,c8.Source,c8.From,rv54⟩ p55 k56]) (cs:=(C43 ⟨c8.Kind,c8.Source,c8.From,rv54⟩ p55 k56)) (xs:=([(⟨c8.Kind,c8.Source,c8.From,rv54⟩:Change)]:List Change)) s d El63 rfl rfl rfl rfl rfl rfl ⟨⟨_,_,_,_,_,_,_,_,_,_,_,_,_,_,rfl,rfl,rfl,rfl,rfl,rfl,rfl,rfl,rfl,rfl,rfl,rfl,rfl,rfl,⟨_,_,_,rfl,d.envAt 0 rfl⟩⟩,rfl⟩ rfl trivial rfl fun b77 a w s d=>?_
    refine h_n [2,3,5,6,1] [] d rfl rfl fun hC=>?_
    refine h_d [2,3,5,6,1,0] [] [0,1,2,3,4] [] d rfl rfl rfl rfl fun hC=>?_
    refine ho 5 rfl ?_
    have d:=d.nilRow Change 43
    refine R6 (α:=Change) s d El63 0 rfl rfl rfl 0 rfl 8 rfl h71 rfl trivial ?_
    intro p73 k74 c75 a w s d
    refine h_n [3,4,6,7,2,1] [] d rfl rfl fun hC=>?_
    refine ho 8 rfl ?_
    refine M3 (α:=Change) s d El63 0 rfl rfl rfl 0 rfl 1 rfl 2 rfl h78 rfl trivial ?_
    intro p80 k81 c82 a w s d
    refine h_n [3,4,6,7,2,1] [] d rfl rfl fun hC=>?_
    refine gv s 9 rfl rfl hC (fun w hC=>y9 (vs:=[(0,.agg #[sl p67 k68 rv66.Channels]),(1,sl p80 k81 l79)]) a9T rfl rfl) fun a s=>?_
    refine ho 10 rfl ?_
    refine ws [sl p67 k68 rv66.Channels,sl p80 k81 l79] s d 5 rfl rfl rfl sizeOf65 fun a w s d=>?_
    refine h_n [3,4,6,7,2,1] [] d rfl rfl fun hC=>?_
    refine gv s 11 rfl rfl hC (fun w hC=>J3 rfl) fun a s=>?_
    refine x8 (by kernel_rfl) ?_
    exact ⟨Sv91,c70,c82,k68,k81,p67,p80,wj s d [5,2,0] [5,0]⟩
   exact P5.nil
  refine P5.cons rfl ?_ ?_
  ·obtain ⟨Sv92,d⟩:=A9 (α:=Stage) d 0 rfl 0 rfl
   refine x9 (α:=Change) (vs:=[V43 ⟨c8.Kind,c8.Source,c8.From,rv54⟩ p55 k56]) (cs:=(C43 ⟨c8.Kind,c8.Source,c8.From,rv54⟩ p55 k56)) (xs:=([(⟨c8.Kind,c8.Source,c8.From,rv54⟩:Change)]:List Change)) s d El63 rfl rfl rfl rfl rfl rfl ⟨⟨_,_,_,_,_,_,_,_,_,_,_,_,_,_,rfl,rfl,rfl,rfl,rfl,rfl,rfl,rfl,rfl,rfl,rfl,rfl,rfl,rfl,⟨_,_,_,rfl,d.envAt 0 rfl⟩⟩,rfl⟩ rfl trivial rfl fun b77 a w s d=>?_
   refine h_n [1,2,4,5] [] d rfl rfl fun hC=>?_
   refine h_d [1,2,4,5,0] [] [0,1,2,3] [] d rfl rfl rfl rfl fun hC=>?_
   refine ho 2 rfl ?_
   refine cR s (a4m h65 d.dom (d.envAt 7 rfl)) (d9 call73 rfl) rfl ?_
   rintro v96 Sv93 w a h94 ⟨p67,k68,c70,rfl,h97,h69⟩ s
   have d:=(d.callN h94 h97).addE (e:=j5 c70 rv66.Channels) h69
   refine h_n [2,3,5,6,1] [] d rfl rfl fun hC=>?_
   refine h_d [2,3,5,6,1,0] [] [0,1,2,3,4] [] d rfl rfl rfl rfl fun hC=>?_
   refine ho 5 rfl ?_
   have d:=d.nilRow Change 43
   refine R6 (α:=Change) s d El63 0 rfl rfl rfl 0 rfl 8 rfl h71 rfl trivial ?_
   intro p73 k74 c75 a w s d
   refine h_n [3,4,6,7,2,1] [] d rfl rfl fun hC=>?_
   refine ho 8 rfl ?_
   refine M3 (α:=Change) s d El63 0 rfl rfl rfl 0 rfl 2 rfl 3 rfl h78 rfl trivial ?_
   intro p80 k81 c82 a w s d
   refine h_n [3,4,6,7,2,1] [] d rfl rfl fun hC=>?_
   refine gv s 9 rfl rfl hC (fun w hC=>y9 (vs:=[(0,.agg #[sl p67 k68 rv66.Channels]),(1,sl p80 k81 l79)]) a9T rfl rfl) fun a s=>?_
   refine ho 10 rfl ?_
   refine ws [sl p67 k68 rv66.Channels,sl p80 k81 l79] s d 5 rfl rfl rfl sizeOf65 fun a w s d=>?_
   refine h_n [3,4,6,7,2,1] [] d rfl rfl fun hC=>?_
   refine gv s 11 rfl rfl hC (fun w hC=>J3 rfl) fun a s=>?_
   refine x8 (by kernel_rfl) ?_
   exact ⟨Sv93,c70,c82,k68,k81,p67,p80,wj s d [5,1,0] [3,0]⟩
  exact P5.nil
 rintro a w ⟨Sv83,c70,c82,k68,k81,p67,p80,s,d⟩
 refine tn ?_
 obtain rfl:=oi u
 exact wp_ret (a0V s rfl (D8 d 0 rfl rfl isAgg65 sizeOf65 rfl) (I1 rfl) (d.ret ⟨p67,k68,c70,p80,k81,c82,rfl,(d.outs [1,2] (by decide) rfl),(d.envAt 0 rfl),(d.envAt 1 rfl)⟩))
abbrev a6Q (w0:World) (X:List Nat) (b2:Nat) (r:(History × Dice)):(Nat→Prop)→World→Value→Prop:=fun S w v=>∃ p0_0 k0_0 p0_1 k0_1 pq0_0 kq0_0,v=V65 r.1 p0_0 k0_0 p0_1 k0_1∧Outs X w0 S w [.box b2 (C94 r.2 pq0_0 kq0_0) 94]∧(Sq p0_0 k0_0 r.1.Base.Channels).p S w∧(Sq p0_1 k0_1 r.1.Changes).p S w∧(Sq pq0_0 kq0_0 r.2.L).p S w
theorem a6P {w0 S0 b2 p3 k4 d1 n6 r} (u:a0g d1 n6=some r) (hS:Dm S0 w0) (hin:Ins S0 w0 [.box b2 (C94 d1 p3 k4) 94]) (h5:(Sq p3 k4 d1.L).p S0 w0):Calls Tryz.prog 21 #[pt b2,iv n6] w0 (Ret (H6 [.box b2 (C94 d1 p3 k4) 94]) w0 S0 (a6Q w0 (H6 [.box b2 (C94 d1 p3 k4) 94]) b2 r)):=by
 refine enI 42 func21 rfl hS hin rfl rfl rfl fun a s d=>?_
 have d:=d.addE h5
 refine sr (wa Z21 s d zeroValue65 fun b7 a w s d=>?_)
 refine nl (sn0 1 s rfl fun a s=>?_)
 obtain ⟨rv9,h8,u⟩:=bt u
 refine cR s (a6j h8 d.dom (d.ins [1] (by decide) rfl) (d.envAt 0 rfl)) (d9 call12 rfl) rfl ?_
 rintro v19 Sv16 w a h17 ⟨p10,k11,p13,k14,rfl,h20,h12,h15⟩ s
 have d:=((d.callO [1] [0] (by decide) rfl h17 h20).addE (e:=Sq p10 k11 rv9.1.Channels) h12).addE (e:=Sq p13 k14 rv9.2.L) h15
 refine sv s (y9 (vs:=[(0,.agg #[sl p10 k11 rv9.1.Channels])]) a9T rfl rfl) rfl fun a s=>?_
 refine wa Z21 s d zeroValue65 fun b22 a w s d=>?_
 refine ws [sl p10 k11 rv9.1.Channels,.slice none ([]:List Change).length 0] s d 0 rfl rfl rfl sizeOf65 fun a w s d=>?_
 refine nl (wp_seq (sn0 3 s rfl fun a s=>?_))
 obtain ⟨rv24,h23,u⟩:=bt u
 refine cR s (o7 h23 d.dom (d.ins [1] (by decide) rfl) (d.envAt 0 rfl)) (d9 call23 rfl) rfl ?_
 rintro v31 Sv28 w a h29 ⟨p25,k26,rfl,h32,h27⟩ s
 have d:=(d.callO [1] [0,2] (by decide) rfl h29 h32).addE (e:=Sq p25 k26 rv24.2.L) h27
 refine rz0 1 s rfl fun a s=>?_
 obtain ⟨e184,h354,u⟩:=bt u
 refine y8 (fun a w=>∃ p185 k186 p187 k188 p189 k190 Sv191,Sl 42 [(4,pt b7),(5,pt b22)] a∧Wd ⟨w0,S0,H6 [.box b2 (C94 d1 p3 k4) 94]⟩ Sv191 [.box b2 [sl p185 k186 e184.1,iv e184.2.1] 94,.box b7 Z21 65,.box b22 [sl p187 k188 e184.2.2.1,sl p189 k190 e184.2.2.2] 65] [Sq p185 k186 e184.1,Sq none 0 ([]:List Channel),Sq none 0 ([]:List Change),Sq p187 k188 e184.2.2.1,Sq p189 k190 e184.2.2.2] w) ?_ ?_
 ·refine wp_block ?_
  have d:=(d.addE (e:=SlA (α:=Channel) none 0 0 []) K9).addE (e:=SlA (α:=Change) none 0 0 []) K9
  refine w9 (fun sv34 a w=>∃ p130 k131 p132 k133 p134 k135 Sv136,Sl 42 [(0,pt b2),(4,pt b7),(5,pt b22),(6,iv sv34.2.2.2.2)] a∧Wd ⟨w0,S0,H6 [.box b2 (C94 d1 p3 k4) 94]⟩ Sv136 [.box b2 [sl p130 k131 sv34.1,iv sv34.2.1] 94,.box b7 Z21 65,.box b22 [sl p132 k133 sv34.2.2.1,sl p134 k135 sv34.2.2.2.1] 65] [Sq p130 k131 sv34.1,Sq none 0 ([]:List Channel),Sq none 0 ([]:List Change),Sq p132 k133 sv34.2.2.1,Sq p134 k135 sv34.2.2.2.1] w) (rv24.2.L,rv24.2.At,rv9.1.Channels,([]:List Change),rv24.1) h354 ⟨p25,k26,p10,k11,none,0,Sv28,wj s d [0,2,1] [2,1,0,4,0]⟩ ?_
  clear h354
  repeat clear u
  rintro sv34 a w tv182 ⟨p130,k131,p132,k133,p134,k135,Sv136,s,d⟩ u hd181
  refine wp_seq (sz0 2 s rfl fun a s=>?_)
  refine cd s u rfl (fun u=>?_) fun u=>?_
  ·refine sk (wp_seq (wp_block (sn 4 [2,2] s d rfl rfl fun a s=>?_)))
   obtain ⟨rv236,h235,u⟩:=bt u
   refine cR s (a9k h235 d.dom (d.envAt 3 rfl) (d.envAt 4 rfl)) (d9 call22 rfl) rfl ?_
   rintro v243 Sv240 w a h241 ⟨p237,k238,rfl,h239⟩ s
   have d:=(d.call h241).addE (e:=Sq p237 k238 rv236.1.Channels) h239
   refine rn0 3 s rfl fun a s=>?_
   refine wa [.slice none ([]:List Channel).length 0] s d zeroValue29 fun b246 a w s d=>?_
   refine ws [sl p237 k238 rv236.1.Channels] s d 0 rfl rfl rfl sizeOf29 fun a w s d=>?_
   refine rz0 1 s rfl fun a s=>?_
   refine wp_seq ?_
   obtain ⟨rv248,h247,u⟩:=bt u
   obtain ⟨rv257,h256,u⟩:=bt u
   refine A8 (fun a w=>∃ Sv267 b266 c261 c265 k254 k259 k263 p253 p258 p262,Sl 42 [(0,pt b2),(4,pt b7),(5,pt b22),(6,iv sv34.2.2.2.2),(9,pt b266),(10,iv rv257.2)] a∧Wd ⟨w0,S0,H6 [.box b2 (C94 d1 p3 k4) 94]⟩ Sv267 [.box b2 (C94 rv248.2 p253 k254) 94,.box b7 Z21 65,.box b22 [sl p132 k133 sv34.2.2.1,sl p134 k135 sv34.2.2.2.1] 65,.box b266 (C65 rv257.1 p258 k259 p262 k263) 65,.row p258 rv257.1.Base.Channels.length k259 c261 73 5,.row p262 rv257.1.Changes.length k263 c265 43 14] [Sq p253 k254 rv248.2.L,Sq none 0 ([]:List Channel),Sq none 0 ([]:List Change),Sq p132 k133 sv34.2.2.1,Sq p134 k135 sv34.2.2.2.1,j5 c261 rv257.1.Base.Channels,j5 c265 rv257.1.Changes] w) ?_ ?_
   ·refine h_c [0,2,3] [] d rfl rfl (by kernel_rfl) rfl fun hC d=>?_
    refine gn 3 [0,1,2] [2,0] s hC rfl rfl rfl fun a s=>?_
    refine a3g (rs:=[3,8]) (by kernel_rfl) rfl ?_
    refine P5.cons rfl ?_ ?_
    ·refine cR s (a0E h247 d.dom (d.ins [1] (by decide) rfl) (d.envAt 1 rfl) (d.envAt 0 rfl)) (d9 call13 rfl) rfl ?_
     rintro v271 Sv268 w a h269 ⟨p249,k250,c252,p253,k254,rfl,h272,h251,h255⟩ s
     have d:=((d.callO [1] [0,2,3] (by decide) rfl h269 h272).addE (e:=j5 c252 rv248.1.Epoch.Response.Stages) h251).addE (e:=Sq p253 k254 rv248.2.L) h255
     refine h_n [2,3,4] [] d rfl rfl fun hC=>?_
     refine a3g (rs:=[4,8]) (by kernel_rfl) rfl ?_
     refine P5.cons rfl ?_ ?_
     ·obtain ⟨Sv274,d⟩:=A9 (α:=Stage) d 0 rfl 1 rfl
      refine cR s (a4C h256 d.dom (d.envAt 7 rfl) (d.envAt 8 rfl) (d.envAt 0 rfl)) (d9 call41 rfl) rfl ?_
      rintro v278 Sv275 w a h276 ⟨p258,k259,c261,p262,k263,c265,rfl,h279,h260,h264⟩ s
      have d:=((d.callN h276 h279).addE (e:=j5 c261 rv257.1.Base.Channels) h260).addE (e:=j5 c265 rv257.1.Changes) h264
      refine h_n [3,4,5] [] d rfl rfl fun hC=>?_
      refine h_d [3,4,5,0,1] [] [0,1,2] [] d rfl rfl rfl rfl fun hC=>?_
      refine gn 3 [5,6,7] [] s hC rfl rfl rfl fun a s=>?_
      refine ho 8 rfl ?_
      refine wa Z21 s d zeroValue65 fun b266 a w s d=>?_
      refine h_n [4,5,6,1,2] [] d rfl rfl fun hC=>?_
      refine ho 9 rfl ?_
      refine ws (C65 rv257.1 p258 k259 p262 k263) s d 0 rfl rfl rfl sizeOf65 fun a w s d=>?_
      refine h_n [4,5,6,1,2] [] d rfl rfl fun hC=>?_
      refine gv s 10 rfl rfl hC (fun w hC=>J3 rfl) fun a s=>?_
      refine x8 (by kernel_rfl) ?_
      exact ⟨Sv275,b266,c261,c265,k254,k259,k263,p253,p258,p262,wj s d [3,5,6,0,1,2] [3,7,8,9,10,1,0]⟩
     refine P5.cons rfl ?_ ?_
     ·refine wa Z21 s d zeroValue65 fun b266 a w s d=>?_
      refine h_n [3,4,5] [] d rfl rfl fun hC=>?_
      refine ho 4 rfl ?_
      obtain ⟨Sv281,d⟩:=A9 (α:=Stage) d 1 rfl 1 rfl
      refine cR s (a4C h256 d.dom (d.envAt 7 rfl) (d.envAt 8 rfl) (d.envAt 0 rfl)) (d9 call41 rfl) rfl ?_
      rintro v285 Sv282 w a h283 ⟨p258,k259,c261,p262,k263,c265,rfl,h286,h260,h264⟩ s
      have d:=((d.callN h283 h286).addE (e:=j5 c261 rv257.1.Base.Channels) h260).addE (e:=j5 c265 rv257.1.Changes) h264
      refine h_n [4,5,6] [] d rfl rfl fun hC=>?_
      refine h_d [4,5,6,0,1] [] [0,1,2] [] d rfl rfl rfl rfl fun hC=>?_
      refine gn 3 [5,6,7] [] s hC rfl rfl rfl fun a s=>?_
      refine ho 9 rfl ?_
      refine ws (C65 rv257.1 p258 k259 p262 k263) s d 2 rfl rfl rfl sizeOf65 fun a w s d=>?_
      refine h_n [4,5,6,0,1] [] d rfl rfl fun hC=>?_
      refine gv s 10 rfl rfl hC (fun w hC=>J3 rfl) fun a s=>?_
      refine x8 (by kernel_rfl) ?_
      exact ⟨Sv282,b266,c261,c265,k254,k259,k263,p253,p258,p262,wj s d [3,5,6,2,0,1] [3,7,8,9,10,1,0]⟩
     exact P5.nil
    refine P5.cons rfl ?_ ?_
    ·refine wa Z21 s d zeroValue65 fun b266 a w s d=>?_
     refine h_n [1,3,4] [] d rfl rfl fun hC=>?_
     refine ho 3 rfl ?_
     refine cR s (a0E h247 d.dom (d.ins [2] (by decide) rfl) (d.envAt 1 rfl) (d.envAt 0 rfl)) (d9 call13 rfl) rfl ?_
     rintro v291 Sv288 w a h289 ⟨p249,k250,c252,p253,k254,rfl,h292,h251,h255⟩ s
     have d:=((d.callO [2] [0,1,3,4] (by decide) rfl h289 h292).addE (e:=j5 c252 rv248.1.Epoch.Response.Stages) h251).addE (e:=Sq p253 k254 rv248.2.L) h255
     refine h_n [3,4,5] [] d rfl rfl fun hC=>?_
     refine ho 4 rfl ?_
     obtain ⟨Sv294,d⟩:=A9 (α:=Stage) d 0 rfl 1 rfl
     refine cR s (a4C h256 d.dom (d.envAt 7 rfl) (d.envAt 8 rfl) (d.envAt 0 rfl)) (d9 call41 rfl) rfl ?_
     rintro v298 Sv295 w a h296 ⟨p258,k259,c261,p262,k263,c265,rfl,h299,h260,h264⟩ s
     have d:=((d.callN h296 h299).addE (e:=j5 c261 rv257.1.Base.Channels) h260).addE (e:=j5 c265 rv257.1.Changes) h264
     refine h_n [4,5,6] [] d rfl rfl fun hC=>?_
     refine h_d [4,5,6,0,1] [] [0,1,2] [] d rfl rfl rfl rfl fun hC=>?_
     refine gn 3 [5,6,7] [] s hC rfl rfl rfl fun a s=>?_
     refine ho 9 rfl ?_
     refine ws (C65 rv257.1 p258 k259 p262 k263) s d 3 rfl rfl rfl sizeOf65 fun a w s d=>?_
     refine h_n [4,5,6,0,1] [] d rfl rfl fun hC=>?_
     refine gv s 10 rfl rfl hC (fun w hC=>J3 rfl) fun a s=>?_
     refine x8 (by kernel_rfl) ?_
     exact ⟨Sv295,b266,c261,c265,k254,k259,k263,p253,p258,p262,wj s d [2,5,6,3,0,1] [3,7,8,9,10,1,0]⟩
    exact P5.nil
   rintro a w ⟨Sv267,b266,c261,c265,k254,k259,k263,p253,p258,p262,s,d⟩
   refine tn (sz0 2 s rfl fun a s=>?_)
   refine y8 (fun a w=>∃ (x346:(List Channel)) (x347:(List Change)) (p341 k342 p343 k344 Sv345:_),a0h sv34 rv248 x346 x347=some tv182∧Sl 42 [(0,pt b2),(4,pt b7),(5,pt b22),(6,iv sv34.2.2.2.2)] a∧Wd ⟨w0,S0,H6 [.box b2 (C94 d1 p3 k4) 94]⟩ Sv345 [.box b2 (C94 rv248.2 p253 k254) 94,.box b7 Z21 65,.box b22 [sl p341 k342 x346,sl p343 k344 x347] 65] [Sq p253 k254 rv248.2.L,Sq none 0 ([]:List Channel),Sq none 0 ([]:List Change),Sq p341 k342 x346,Sq p343 k344 x347] w) ?_ ?_
   ·refine cd s u rfl (fun u=>?_) fun u=>?_
    ·refine wp_region_lit (sv s (a0U (d.ownAt 3 rfl) rfl isAgg65 sizeOf65 rfl rfl) rfl fun a s=>?_)
     refine ws (C65 rv257.1 p258 k259 p262 k263) s d 2 rfl rfl rfl sizeOf65 fun a w s d=>?_
     refine nl ?_
     obtain ⟨Sv351,d⟩:=A9 (α:=Channel) d 4 rfl 5 rfl
     obtain ⟨Sv352,d⟩:=A9 (α:=Change) d 4 rfl 7 rfl
     exact ⟨rv257.1.Base.Channels,rv257.1.Changes,p258,k259,p262,k263,Sv352,u,wj s d [0,1,2] [2,3,4,1,0]⟩
    exact sk ⟨sv34.2.2.1,sv34.2.2.2.1,p132,k133,p134,k135,Sv267,u,wj s d [0,1,2] [0,1,2,3,4]⟩
   rintro a w ⟨x346,x347,p341,k342,p343,k344,Sv345,u,s,d⟩
   refine l9 (tn (wp_region_lit (rn0 2 s rfl fun a s=>?_)))
   obtain ⟨i349,h348,u⟩:=bt u
   refine sv s (u6 rfl h348) rfl fun a s=>?_
   exact nl ⟨_,io u,p253,k254,p341,k342,p343,k344,Sv345,wj s d [0,1,2] [0,1,2,3,4]⟩
  refine wp_exit (j4 (j4 (r9 ?_)))
  obtain rfl:=oi u
  have h353:=hd181 _ rfl
  subst h353
  exact tn ⟨p130,k131,p132,k133,p134,k135,Sv136,wj s d [0,1,2] [0,1,2,3,4]⟩
 rintro a w ⟨p185,k186,p187,k188,p189,k190,Sv191,s,d⟩
 refine tn (sn 1 [2] s d rfl rfl fun a s=>?_)
 refine ws [sl p187 k188 e184.2.2.1,sl p189 k190 e184.2.2.2] s d 1 rfl rfl rfl sizeOf65 fun a w s d=>?_
 refine nl ?_
 obtain rfl:=oi u
 exact wp_ret (a6u s rfl (D8 d 1 rfl rfl isAgg65 sizeOf65 rfl) (d.ret ⟨p187,k188,p189,k190,p185,k186,rfl,(d.outs [0] (by decide) rfl),(d.envAt 3 rfl),(d.envAt 4 rfl),(d.envAt 0 rfl)⟩))
abbrev a9n (w0:World) (X:List Nat) (r:(Inventory × Bool)):Rd:=fun S w v=>∃ p0_0 k0_0 c0_0,v=.tuple #[.agg #[sl p0_0 k0_0 r.1.Channels],.bool r.2]∧Outs X w0 S w [.row p0_0 r.1.Channels.length k0_0 c0_0 73 5]∧(j5 c0_0 r.1.Channels).p S w
theorem a4b {w0 S0 p2 k3 p6 k7 inv1 l5 r} (u:a2G inv1 l5=some r) (hS:Dm S0 w0) (h4:(Sq p2 k3 inv1.Channels).p S0 w0) (h8:(Sq p6 k7 l5).p S0 w0):Ck Tryz.prog 71 #[.agg #[sl p2 k3 inv1.Channels],sl p6 k7 l5] w0 S0 [] a9n r:=by
 refine en 28 func71 rfl hS rfl rfl rfl fun a s d=>?_
 have d:=(d.addE h4).addE h8
 refine sr (wb [sl p2 k3 inv1.Channels] s d rfl fun b9 a w s d=>?_)
 refine wa [.slice none ([]:List Channel).length 0] s d zeroValue29 fun b10 a w s d=>?_
 refine rz0 1 s rfl fun a s=>?_
 refine sn 1 [1] s d rfl rfl fun a s=>?_
 obtain ⟨rv12,h11,u⟩:=bt u
 refine cR s (a8A h11 d.dom (d.envAt 1 rfl)) (d9 call48 rfl) rfl ?_
 rintro v20 Sv17 w a h18 ⟨p13,k14,c16,rfl,h21,h15⟩ s
 have d:=(d.callN h18 h21).addE (e:=j5 c16 rv12.Channels) h15
 refine ws [sl p13 k14 rv12.Channels] s d 2 rfl rfl rfl sizeOf29 fun a w s d=>?_
 refine nl (wp_seq (sz0 3 s rfl fun a s=>?_))
 refine wp_block ?_
 have d:=d.addE (e:=SlA (α:=Channel) none 0 0 []) K9
 refine w9 (fun sv133 a w=>∃ c204 p205 k206 Sv207,Sl 28 [(2,pt b9),(4,pt b10),(11,sl p6 k7 l5),(12,iv (l5.length:Int)),(13,iv sv133.2)] a∧Wd ⟨w0,S0,[]⟩ Sv207 [.box b9 [sl p205 k206 sv133.1] 29,.box b10 [.slice none ([]:List Channel).length 0] 29,.row p205 sv133.1.length k206 c204 73 5] [Sq p6 k7 l5,Sq none 0 ([]:List Channel),j5 c204 sv133.1] w) (rv12.Channels,0) u ⟨c16,p13,k14,Sv17,wj s d [2,1,0] [2,0,1]⟩ ?_
 repeat clear u
 rintro sv133 a w tv242 ⟨c204,p205,k206,Sv207,s,d⟩ u hd241
 refine sz0 1 s rfl fun a s=>?_
 refine wp_seq (cd s u rfl (fun u=>?_) fun u=>?_)
 ·refine sk (wp_seq (wp_block (sr ?_)))
  obtain ⟨x281,h279,u⟩:=bt u
  obtain ⟨b287,o288,q285,c286,h289,h282,h283,h284,h280⟩:=d.elemV 0 rfl h279
  have hsv290:=s
  have hwv291:=d
  subst h289
  have s:=hsv290
  have d:=hwv291
  obtain ⟨_,_,_,_,_,_,_,_,_,_,_,_,_,_,rfl,rfl,rfl,rfl,rfl,rfl,rfl,rfl,rfl,rfl,rfl,rfl,rfl,rfl,⟨p292,n293,k294,rfl,h295⟩⟩:=h280
  obtain rfl:=h295.1
  have d:=(d.addE (e:=SlA p292 _ k294 x281.Epoch.Response.Stages) h295).addE h284
  refine sv s (u7 runUnderlying63 sizeOf43 rfl rfl h282.1 h282.2 h283) rfl fun a s=>?_
  refine sv s (E5 (j:=0) (d.ceAt 0 rfl) rfl isAgg43 sizeOf43 rfl rfl) rfl fun a s=>?_
  refine wa Z18 s d zeroValue43 fun b296 a w s d=>?_
  refine ws (C43 x281 p292 k294) s d 0 rfl rfl rfl sizeOf43 fun a w s d=>?_
  refine nl (sz0 1 s rfl fun a s=>?_)
  refine sn 2 [1,0] s d rfl rfl fun a s=>?_
  obtain ⟨rv298,h297,u⟩:=bt u
  obtain ⟨Sv303,d⟩:=A9 (α:=Channel) d 3 rfl 4 rfl
  refine cR s (R5 h297 d.dom (d.envAt 0 rfl) (d.envAt 2 rfl)) (d9 call14 rfl) rfl ?_
  rintro v307 Sv304 w a h305 ⟨p299,k300,c302,rfl,h308,h301⟩ s
  have d:=(d.callN h305 h308).addE (e:=j5 c302 rv298.1.Channels) h301
  refine rn0 3 s rfl fun a s=>?_
  refine ws [sl p299 k300 rv298.1.Channels] s d 2 rfl rfl rfl sizeOf29 fun a w s d=>?_
  refine rz0 1 s rfl fun a s=>?_
  refine sz0 2 s rfl fun a s=>?_
  refine cd s u rfl (fun u=>?_) fun u=>?_
  ·refine sr (sv s (y9 (vs:=[]) a4M rfl rfl) rfl fun a s=>?_)
   refine ws [.slice none ([]:List Channel).length 0] s d 3 rfl rfl rfl sizeOf29 fun a w s d=>?_
   refine rz0 1 s rfl fun a s=>?_
   obtain rfl:=oi u
   have h312:=hd241 _ rfl
   subst h312
   have d:=d.nilRow Channel 73
   exact wp_ret (q9 (j3 (j3 (q9 (j3 (a0V s rfl (D8 d 4 rfl rfl isAgg29 sizeOf29 rfl) (I1 rfl) (d.ret ⟨none,0,[],rfl,(d.outs [0] (by decide) rfl),(d.envAt 0 rfl)⟩)))))))
  refine wp_skip (l9 (tn (wp_region_lit (rz0 2 s rfl fun a s=>?_))))
  exact ⟨_,io u,c302,p299,k300,Sv304,wj s d [2,3,0] [4,5,0]⟩
 obtain ⟨rv313,u,h314⟩:=a0d u
 have h314:=(hd241 _ h314.symm).symm
 subst h314
 refine wp_exit (j4 (j4 (r9 (tn (sn 1 [0] s d rfl rfl fun a s=>?_)))))
 refine ws [sl p205 k206 sv133.1] s d 1 rfl rfl rfl sizeOf29 fun a w s d=>?_
 refine rz0 1 s rfl fun a s=>?_
 obtain rfl:=oi u
 exact wp_ret (a0V s rfl (D8 d 1 rfl rfl isAgg29 sizeOf29 rfl) (I1 rfl) (d.ret ⟨p205,k206,c204,rfl,(d.outs [2] (by decide) rfl),(d.envAt 2 rfl)⟩))
theorem a5q {w0 S0 p2 k3 p4 k5 h1 r} (u:a2e h1=some r) (hS:Dm S0 w0) (h6:(Sq p2 k3 h1.Base.Channels).p S0 w0) (h7:(Sq p4 k5 h1.Changes).p S0 w0):Ck Tryz.prog 32 #[V65 h1 p2 k3 p4 k5] w0 S0 [] l7 r:=by
 refine en 24 func32 rfl hS rfl rfl rfl fun a s d=>?_
 have d:=(d.addE h6).addE h7
 refine sr (wb (C65 h1 p2 k3 p4 k5) s d rfl fun b8 a w s d=>?_)
 refine rz0 1 s rfl fun a s=>?_
 refine wp_seq (sn 2 [0] s d rfl rfl fun a s=>?_)
 obtain ⟨rv10,h9,u⟩:=bt u
 refine cV s d (a1c h9 d.bdom (d.bE 1 rfl)) (d9 call55 rfl) rfl fun a w s d=>?_
 refine rn0 2 s rfl fun a s=>?_
 refine rO 5 9 [0] s d rfl rfl rfl rfl rfl fun a s=>?_
 refine nl (cd s u rfl (fun u=>?_) fun u=>?_)
 ·refine sz0 1 s rfl fun a s=>?_
  obtain rfl:=oi u
  exact wp_ret (j3 (rt s rfl (d.ret rfl)))
 refine sk (sn 4 [0,0] s d rfl rfl fun a s=>?_)
 obtain ⟨rv21,h20,u⟩:=bt u
 refine cR s (a4b h20 d.dom (d.envAt 1 rfl) (d.envAt 0 rfl)) (d9 call71 rfl) rfl ?_
 rintro v29 Sv26 w a h27 ⟨p22,k23,c25,rfl,h30,h24⟩ s
 have d:=(d.callN h27 h30).addE (e:=j5 c25 rv21.1.Channels) h24
 refine rn0 3 s rfl fun a s=>?_
 refine wa [.slice none ([]:List Channel).length 0] s d zeroValue29 fun b32 a w s d=>?_
 refine ws [sl p22 k23 rv21.1.Channels] s d 0 rfl rfl rfl sizeOf29 fun a w s d=>?_
 refine rz0 1 s rfl fun a s=>?_
 refine sz0 2 s rfl fun a s=>?_
 obtain rfl:=oi u
 exact q1 s rfl (d.ret rfl)
abbrev b0X:List Value:=[.slice none ([]:List Channel).length 0]
theorem a4J {w0 S0 p2 k3 p4 k5 h1 n8 r} (u:a0Q h1 n8=some r) (hS:Dm S0 w0) (h6:(Sq p2 k3 h1.Base.Channels).p S0 w0) (h7:(Sq p4 k5 h1.Changes).p S0 w0):Ck Tryz.prog 30 #[V65 h1 p2 k3 p4 k5,iv n8] w0 S0 [] a5p r:=by
 refine en 33 func30 rfl hS rfl rfl rfl fun a s d=>?_
 have d:=(d.addE h6).addE h7
 refine sr (wb (C65 h1 p2 k3 p4 k5) s d rfl fun b9 a w s d=>?_)
 refine wa b0X s d zeroValue29 fun b10 a w s d=>?_
 refine rz0 1 s rfl fun a s=>?_
 refine wp_seq (sn 1 [1] s d rfl rfl fun a s=>?_)
 obtain ⟨rv12,h11,u⟩:=bt u
 refine cV s d (a5q h11 d.bdom (d.bE 1 rfl) (d.bE 0 rfl)) (d9 call32 rfl) rfl fun a w s d=>?_
 refine rz0 1 s rfl fun a s=>?_
 refine cd s u rfl (fun u=>?_) fun u=>?_
 ·refine sr (sv s (y9 (vs:=[]) a4M rfl rfl) rfl fun a s=>?_)
  refine ws b0X s d 0 rfl rfl rfl sizeOf29 fun a w s d=>?_
  refine rz0 1 s rfl fun a s=>?_
  obtain rfl:=oi u
  have d:=d.nilRow Channel 73
  exact wp_ret (j3 (a0V s rfl (D8 d 1 rfl rfl isAgg29 sizeOf29 rfl) (I1 rfl) (d.ret ⟨none,0,[],rfl,(d.outs [0] (by decide) rfl),(d.envAt 0 rfl)⟩)))
 refine sk (wp_seq (sn0 3 s rfl fun a s=>?_))
 refine rO 6 14 [1] s d rfl rfl rfl rfl rfl fun a s=>?_
 refine nl (cd s u rfl (fun u=>?_) fun u=>?_)
 ·refine sr (sv s (y9 (vs:=[]) a4M rfl rfl) rfl fun a s=>?_)
  refine ws b0X s d 0 rfl rfl rfl sizeOf29 fun a w s d=>?_
  refine rz0 1 s rfl fun a s=>?_
  obtain rfl:=oi u
  have d:=d.nilRow Channel 73
  exact wp_ret (j3 (a0V s rfl (D8 d 1 rfl rfl isAgg29 sizeOf29 rfl) (I1 rfl) (d.ret ⟨none,0,[],rfl,(d.outs [0] (by decide) rfl),(d.envAt 0 rfl)⟩)))
 refine sk (wp_seq ?_)
 obtain ⟨l29,h24,u⟩:=bt u
 obtain ⟨p27,k28,h25,h26⟩:=a7B (d.envAt 0 rfl) h24
 have d:=d.addE h25
 obtain ⟨rv31,h30,u⟩:=bt u
 refine A8 (fun a w=>∃ Sv37 b36 c35 k33 p32,Sl 33 [(4,pt b10),(6,pt b36)] a∧Wd ⟨w0,S0,[]⟩ Sv37 [.box b10 b0X 29,.box b36 [sl p32 k33 rv31.1.Channels] 29,.row p32 rv31.1.Channels.length k33 c35 73 5] [Sq none 0 ([]:List Channel),j5 c35 rv31.1.Channels] w) ?_ ?_
 ·refine h_c [0,1] [] d rfl rfl (by kernel_rfl) rfl fun hC d=>?_
  refine gn 5 [0,1,2,3,4] [1,1] s hC rfl rfl rfl fun a s=>?_
  refine gv s 5 rfl rfl hC (fun w hC=>U0 runUnderlying63 sizeOf43 rfl (by exact rfl) ⟨_,rfl⟩ h26) fun a s=>?_
  refine a3g (rs:=[6,10]) (by kernel_rfl) rfl ?_
  refine P5.cons rfl ?_ ?_
  ·refine cR s (a4b h30 d.dom (d.envAt 2 rfl) (d.envAt 0 rfl)) (d9 call71 rfl) rfl ?_
   rintro v41 Sv38 w a h39 ⟨p32,k33,c35,rfl,h42,h34⟩ s
   have d:=(d.callN h39 h42).addE (e:=j5 c35 rv31.1.Channels) h34
   refine h_n [1,2] [] d rfl rfl fun hC=>?_
   refine h_d [1,2,0] [] [0,1] [] d rfl rfl rfl rfl fun hC=>?_
   refine gn 3 [7,8,9] [] s hC rfl rfl rfl fun a s=>?_
   refine ho 10 rfl ?_
   refine wa b0X s d zeroValue29 fun b36 a w s d=>?_
   refine h_n [2,3,1] [] d rfl rfl fun hC=>?_
   refine ho 11 rfl ?_
   refine ws [sl p32 k33 rv31.1.Channels] s d 0 rfl rfl rfl sizeOf29 fun a w s d=>?_
   refine h_n [2,3,1] [] d rfl rfl fun hC=>?_
   refine gv s 12 rfl rfl hC (fun w hC=>J3 rfl) fun a s=>?_
   refine x8 (by kernel_rfl) ?_
   have d:=d.addE (e:=SlA (α:=Channel) none 0 0 []) K9
   exact ⟨Sv38,b36,c35,k33,p32,wj s d [2,0,1] [0,1]⟩
  refine P5.cons rfl ?_ ?_
  ·refine wa b0X s d zeroValue29 fun b36 a w s d=>?_
   refine h_n [1,2] [] d rfl rfl fun hC=>?_
   refine ho 6 rfl ?_
   refine cR s (a4b h30 d.dom (d.envAt 2 rfl) (d.envAt 0 rfl)) (d9 call71 rfl) rfl ?_
   rintro v47 Sv44 w a h45 ⟨p32,k33,c35,rfl,h48,h34⟩ s
   have d:=(d.callN h45 h48).addE (e:=j5 c35 rv31.1.Channels) h34
   refine h_n [2,3] [] d rfl rfl fun hC=>?_
   refine h_d [2,3,0] [] [0,1] [] d rfl rfl rfl rfl fun hC=>?_
   refine gn 3 [7,8,9] [] s hC rfl rfl rfl fun a s=>?_
   refine ho 11 rfl ?_
   refine ws [sl p32 k33 rv31.1.Channels] s d 1 rfl rfl rfl sizeOf29 fun a w s d=>?_
   refine h_n [2,3,0] [] d rfl rfl fun hC=>?_
   refine gv s 12 rfl rfl hC (fun w hC=>J3 rfl) fun a s=>?_
   refine x8 (by kernel_rfl) ?_
   have d:=d.addE (e:=SlA (α:=Channel) none 0 0 []) K9
   exact ⟨Sv44,b36,c35,k33,p32,wj s d [2,1,0] [0,1]⟩
  exact P5.nil
 rintro a w ⟨Sv37,b36,c35,k33,p32,s,d⟩
 refine tn (sn 1 [1] s d rfl rfl fun a s=>?_)
 refine ws [sl p32 k33 rv31.1.Channels] s d 0 rfl rfl rfl sizeOf29 fun a w s d=>?_
 refine rz0 1 s rfl fun a s=>?_
 obtain rfl:=oi u
 exact wp_ret (a0V s rfl (D8 d 0 rfl rfl isAgg29 sizeOf29 rfl) (I1 rfl) (d.ret ⟨p32,k33,c35,rfl,(d.outs [2] (by decide) rfl),(d.envAt 1 rfl)⟩))
abbrev a7H (w0:World) (X:List Nat) (r:(Change × Int)):Rd:=fun S w v=>∃ p0_13 k0_13,v=.tuple #[V43 r.1 p0_13 k0_13,iv r.2]∧(Sq p0_13 k0_13 r.1.Epoch.Response.Stages).p S w
theorem a4I {w0 S0 p2 k3 p6 k7 inv1 c5 r} (u:a2q inv1 c5=some r) (hS:Dm S0 w0) (h4:(Sq p2 k3 inv1.Channels).p S0 w0) (h8:(Sq p6 k7 c5.Epoch.Response.Stages).p S0 w0):Ck Tryz.prog 31 #[.agg #[sl p2 k3 inv1.Channels],V43 c5 p6 k7] w0 S0 [] a7H r:=by
 refine en 61 func31 rfl hS rfl rfl rfl fun a s d=>?_
 have d:=(d.addE h4).addE h8
 refine sr (wb [sl p2 k3 inv1.Channels] s d rfl fun b9 a w s d=>?_)
 refine wb (C43 c5 p6 k7) s d rfl fun b10 a w s d=>?_
 refine wa Z18 s d zeroValue43 fun b11 a w s d=>?_
 refine rz0 1 s rfl fun a s=>?_
 refine wp_seq (sn 2 [2,1] s d rfl rfl fun a s=>?_)
 obtain ⟨rv13,h12,u⟩:=bt u
 refine cR s (R5 h12 d.dom (d.envAt 1 rfl) (d.envAt 0 rfl)) (d9 call14 rfl) rfl ?_
 rintro v21 Sv18 w a h19 ⟨p14,k15,c17,rfl,h22,h16⟩ s
 have d:=(d.callN h19 h22).addE (e:=j5 c17 rv13.1.Channels) h16
 refine rn0 3 s rfl fun a s=>?_
 refine wa [.slice none ([]:List Channel).length 0] s d zeroValue29 fun b24 a w s d=>?_
 refine ws [sl p14 k15 rv13.1.Channels] s d 0 rfl rfl rfl sizeOf29 fun a w s d=>?_
 refine rz0 1 s rfl fun a s=>?_
 refine sz0 2 s rfl fun a s=>?_
 refine cd s u rfl (fun u=>?_) fun u=>?_
 ·refine sr (sv s (y9 (vs:=[]) a9S rfl rfl) rfl fun a s=>?_)
  refine mv s rfl rfl fun a s=>?_
  refine ws Z18 s d 2 rfl rfl rfl sizeOf43 fun a w s d=>?_
  refine rz0 1 s rfl fun a s=>?_
  obtain rfl:=oi u
  have d:=d.addE (e:=SlA (α:=Stage) none 0 0 []) K9
  exact wp_ret (j3 (a0V s rfl (D8 d 2 rfl rfl isAgg43 sizeOf43 rfl) (I1 rfl) (d.ret ⟨none,0,rfl,(d.envAt 0 rfl)⟩)))
 refine sk (wp_seq (sz 3 [3] s d rfl rfl fun a s=>?_))
 refine cd s u rfl (fun u=>?_) fun u=>?_
 ·refine sn 4 [3,3] s d rfl rfl fun a s=>?_
  refine sv s (y9 (vs:=[(0,iv 1),(1,V32 c5.Source),(2,iv c5.From)]) a9S rfl rfl) rfl fun a s=>?_
  refine ws (C43 ⟨1,c5.Source,c5.From,⟨0,0,⟨0,0⟩,⟨0,0,0⟩,⟨([]:List Stage)⟩⟩⟩ none 0) s d 2 rfl rfl rfl sizeOf43 fun a w s d=>?_
  refine rz0 1 s rfl fun a s=>?_
  obtain rfl:=oi u
  have d:=d.addE (e:=SlA (α:=Stage) none 0 0 []) K9
  exact wp_ret (j3 (a0V s rfl (D8 d 2 rfl rfl isAgg43 sizeOf43 rfl) (I1 rfl) (d.ret ⟨none,0,rfl,(d.envAt 0 rfl)⟩)))
 refine sk (sn 3 [4,3] s d rfl rfl fun a s=>?_)
 obtain ⟨rv30,h29,u⟩:=bt u
 refine cR s (a3u h29 d.dom (d.envAt 2 rfl)) (d9 call58 rfl) rfl ?_
 rintro v38 Sv35 w a h36 ⟨p31,k32,c34,rfl,h39,h33⟩ s
 have d:=(d.callN h36 h39).addE (e:=j5 c34 rv30.1.Epochs) h33
 refine rn0 3 s rfl fun a s=>?_
 refine wa Z2 s d zeroValue73 fun b41 a w s d=>?_
 refine ws (C73 rv30.1 p31 k32) s d 0 rfl rfl rfl sizeOf73 fun a w s d=>?_
 refine rz0 1 s rfl fun a s=>?_
 refine wp_seq ?_
 obtain ⟨rv43,h42,u⟩:=bt u
 obtain ⟨x46,h44,u⟩:=bt u
 obtain ⟨b53,q50,c51,h54,h47,h48,h52,h45⟩:=d.elemRV (α:=Epoch) 1 rfl 0 rfl h44
 have hsv55:=s
 have hwv56:=d
 subst h54
 have s:=hsv55
 have d:=hwv56
 obtain ⟨_,_,_,_,_,_,_,_,rfl,rfl,rfl,rfl,rfl,rfl,rfl,rfl,⟨p57,n58,k59,rfl,h60⟩⟩:=h45
 obtain rfl:=h60.1
 have d:=d.addE (e:=SlA p57 _ k59 x46.Response.Stages) h60
 refine A8 (fun a w=>∃ Sv62 b61,Sl 61 [(3,pt b10),(4,pt b11),(10,pt b61)] a∧Wd ⟨w0,S0,[]⟩ Sv62 [.box b10 (C43 c5 p6 k7) 43,.box b11 Z18 43,.box b61 (C41 x46 p57 k59) 41] [Sq p6 k7 c5.Epoch.Response.Stages,Sq none 0 ([]:List Stage),Sq p57 k59 x46.Response.Stages] w) ?_ ?_
 ·refine h_c [0,1,2,3,4,5,6] [] d rfl rfl (by kernel_rfl) rfl fun hC d=>?_
  refine gn 6 [0,1,2,3,4,5] [0,0,5] s hC rfl rfl rfl fun a s=>?_
  refine a3g (rs:=[6,9]) (by kernel_rfl) rfl ?_
  refine P5.cons rfl ?_ ?_
  ·refine cV s d (a4F h42 d.bdom (d.bRow 1 rfl 1 rfl)) (d9 call50 rfl) rfl fun a w s d=>?_
   refine h_n [0,1,2,3,4,5,6] [] d rfl rfl fun hC=>?_
   refine gx s 7 rfl trivial rfl hC runUnderlying71 sizeOf41 rfl rfl h47 h48 fun a s=>?_
   refine gv s 8 rfl rfl hC (fun w hC=>Q7 (j:=0) (hC.ownAt 1 rfl) rfl isAgg41 sizeOf41 h52 rfl rfl) fun a s=>?_
   refine ho 9 rfl ?_
   refine wa Z1 s d zeroValue41 fun b61 a w s d=>?_
   refine h_n [1,2,3,4,5,6,7] [] d rfl rfl fun hC=>?_
   refine ho 10 rfl ?_
   refine ws (C41 x46 p57 k59) s d 0 rfl rfl rfl sizeOf41 fun a w s d=>?_
   refine h_n [1,2,3,4,5,6,7] [] d rfl rfl fun hC=>?_
   refine x8 (by kernel_rfl) ?_
   have d:=d.addE (e:=SlA (α:=Stage) none 0 0 []) K9
   exact ⟨Sv35,b61,wj s d [6,5,0] [4,0,1]⟩
  refine P5.cons rfl ?_ ?_
  ·refine wa Z1 s d zeroValue41 fun b61 a w s d=>?_
   refine h_n [1,2,3,4,5,6,7] [] d rfl rfl fun hC=>?_
   refine ho 6 rfl ?_
   refine cV s d (a4F h42 d.bdom (d.bRow 2 rfl 1 rfl)) (d9 call50 rfl) rfl fun a w s d=>?_
   refine h_n [1,2,3,4,5,6,7] [] d rfl rfl fun hC=>?_
   refine gx s 7 rfl trivial rfl hC runUnderlying71 sizeOf41 rfl rfl h47 h48 fun a s=>?_
   refine gv s 8 rfl rfl hC (fun w hC=>Q7 (j:=0) (hC.ownAt 1 rfl) rfl isAgg41 sizeOf41 h52 rfl rfl) fun a s=>?_
   refine ho 10 rfl ?_
   refine ws (C41 x46 p57 k59) s d 0 rfl rfl rfl sizeOf41 fun a w s d=>?_
   refine h_n [1,2,3,4,5,6,7] [] d rfl rfl fun hC=>?_
   refine x8 (by kernel_rfl) ?_
   have d:=d.addE (e:=SlA (α:=Stage) none 0 0 []) K9
   exact ⟨Sv35,b61,wj s d [6,5,0] [4,0,1]⟩
  exact P5.nil
 rintro a w ⟨Sv62,b61,s,d⟩
 refine tn (wp_seq (sz 3 [0] s d rfl rfl fun a s=>?_))
 refine cd s u rfl (fun u=>?_) fun u=>?_
 ·refine sn 5 [0,0,2] s d rfl rfl fun a s=>?_
  refine sv s (y9 (vs:=[(0,iv 0),(1,V32 c5.Source),(2,iv c5.From),(3,V41 x46 p57 k59)]) a9S rfl rfl) rfl fun a s=>?_
  refine ws (C43 ⟨0,c5.Source,c5.From,x46⟩ p57 k59) s d 1 rfl rfl rfl sizeOf43 fun a w s d=>?_
  refine rz0 1 s rfl fun a s=>?_
  obtain rfl:=oi u
  exact wp_ret (j3 (a0V s rfl (D8 d 1 rfl rfl isAgg43 sizeOf43 rfl) (I1 rfl) (d.ret ⟨p57,k59,rfl,(d.envAt 2 rfl)⟩)))
 refine sk (sn 6 [0,0,2] s d rfl rfl fun a s=>?_)
 refine sv s (y9 (vs:=[(0,iv 2),(1,V32 c5.Source),(2,iv c5.Epoch.From),(3,V41 x46 p57 k59)]) a9S rfl rfl) rfl fun a s=>?_
 refine ws (C43 ⟨2,c5.Source,c5.Epoch.From,x46⟩ p57 k59) s d 1 rfl rfl rfl sizeOf43 fun a w s d=>?_
 refine rz0 1 s rfl fun a s=>?_
 obtain rfl:=oi u
 exact wp_ret (a0V s rfl (D8 d 1 rfl rfl isAgg43 sizeOf43 rfl) (I1 rfl) (d.ret ⟨p57,k59,rfl,(d.envAt 2 rfl)⟩))
theorem a7Q {w0 S0 p2 k3 p6 k7 a1 b5 r} (u:a5c a1 b5=some r) (hS:Dm S0 w0) (h4:(Sq p2 k3 a1.Channels).p S0 w0) (h8:(Sq p6 k7 b5.Channels).p S0 w0):Ck Tryz.prog 19 #[.agg #[sl p2 k3 a1.Channels],.agg #[sl p6 k7 b5.Channels]] w0 S0 [] l7 r:=by
 refine en 66 func19 rfl hS rfl rfl rfl fun a s d=>?_
 have d:=(d.addE h4).addE h8
 refine sr (wb [sl p2 k3 a1.Channels] s d rfl fun b9 a w s d=>?_)
 refine wb [sl p6 k7 b5.Channels] s d rfl fun b10 a w s d=>?_
 refine rz0 1 s rfl fun a s=>?_
 refine wp_seq (sz 7 [1,0] s d rfl rfl fun a s=>?_)
 refine cd s u rfl (fun u=>?_) fun u=>?_
 ·refine sz0 1 s rfl fun a s=>?_
  obtain rfl:=oi u
  exact wp_ret (j3 (rt s rfl (d.ret rfl)))
 refine sk (wp_seq (sz0 1 s rfl fun a s=>?_))
 refine wp_block (w9 (fun sv528 a w=>∃ Sv870,Sl 66 [(2,pt b9),(3,pt b10),(5,iv sv528)] a∧Wd ⟨w0,S0,[]⟩ Sv870 [.box b9 [sl p2 k3 a1.Channels] 29,.box b10 [sl p6 k7 b5.Channels] 29] [Sq p2 k3 a1.Channels,Sq p6 k7 b5.Channels] w) 0 u ⟨S0,wj s d [1,0] [1,0]⟩ ?_)
 repeat clear u
 rintro sv528 a w tv1042 ⟨Sv870,s,d⟩ u hd1041
 refine wp_seq (sz 5 [0] s d rfl rfl fun a s=>?_)
 refine cd s u rfl (fun u=>?_) fun u=>?_
 ·refine sk (wp_seq (wp_block (wp_seq ?_)))
  obtain ⟨x1216,h1214,u⟩:=bt u
  obtain ⟨b1222,o1223,q1220,c1221,h1224,h1217,h1218,h1219,h1215⟩:=d.elemV 0 rfl h1214
  have hsv1225:=s
  have hwv1226:=d
  subst h1224
  have s:=hsv1225
  have d:=hwv1226
  obtain ⟨_,_,_,_,_,rfl,rfl,rfl,rfl,rfl,⟨p1227,n1228,k1229,rfl,h1230⟩⟩:=h1215
  obtain rfl:=h1230.1
  have d:=(d.addE (e:=SlA p1227 _ k1229 x1216.Epochs) h1230).addE h1219
  obtain ⟨x1233,h1231,u⟩:=bt u
  obtain ⟨b1239,o1240,q1237,c1238,h1241,h1234,h1235,h1236,h1232⟩:=d.elemV 3 rfl h1231
  have hsv1242:=s
  have hwv1243:=d
  subst h1241
  have s:=hsv1242
  have d:=hwv1243
  obtain ⟨_,_,_,_,_,rfl,rfl,rfl,rfl,rfl,⟨p1244,n1245,k1246,rfl,h1247⟩⟩:=h1232
  obtain rfl:=h1247.1
  have d:=(d.addE (e:=SlA p1244 _ k1246 x1233.Epochs) h1247).addE h1236
  refine A8 (fun a w=>∃ Sv1250 b1248 b1249,Sl 66 [(2,pt b9),(3,pt b10),(5,iv sv528),(6,pt b1248),(7,pt b1249)] a∧Wd ⟨w0,S0,[]⟩ Sv1250 [.box b9 [sl (some ⟨b1222,o1223,none⟩) k3 a1.Channels] 29,.box b10 [sl (some ⟨b1239,o1240,none⟩) k7 b5.Channels] 29,.box b1248 (C73 x1216 p1227 k1229) 73,.box b1249 (C73 x1233 p1244 k1246) 73] [Sq (some ⟨b1222,o1223,none⟩) k3 a1.Channels,Sq (some ⟨b1239,o1240,none⟩) k7 b5.Channels,Sq p1227 k1229 x1216.Epochs,Sq p1244 k1246 x1233.Epochs] w) ?_ ?_
  ·refine h_c [0,1] [0,2] d rfl rfl (by kernel_rfl) rfl fun hC d=>?_
   refine gn 3 [0,1,2] [0] s hC rfl rfl rfl fun a s=>?_
   refine gx s 3 rfl trivial rfl hC runUnderlying27 sizeOf73 rfl rfl h1217 h1218 fun a s=>?_
   refine gv s 4 rfl rfl hC (fun w hC=>E5 (j:=0) (hC.ceAt 1 rfl) rfl isAgg73 sizeOf73 rfl rfl) fun a s=>?_
   refine gn 3 [5,6,7] [1] s hC rfl rfl rfl fun a s=>?_
   refine gx s 8 rfl trivial rfl hC runUnderlying27 sizeOf73 rfl rfl h1234 h1235 fun a s=>?_
   refine gv s 9 rfl rfl hC (fun w hC=>E5 (j:=0) (hC.ceAt 0 rfl) rfl isAgg73 sizeOf73 rfl rfl) fun a s=>?_
   refine a3g (rs:=[10,11]) (by kernel_rfl) rfl ?_
   refine P5.cons rfl ?_ ?_
   ·refine wa Z2 s d zeroValue73 fun b1248 a w s d=>?_
    refine h_n [1,2] [0,2] d rfl rfl fun hC=>?_
    refine ho 11 rfl ?_
    refine wa Z2 s d zeroValue73 fun b1249 a w s d=>?_
    refine h_n [2,3] [0,2] d rfl rfl fun hC=>?_
    refine ho 12 rfl ?_
    refine ws (C73 x1216 p1227 k1229) s d 1 rfl rfl rfl sizeOf73 fun a w s d=>?_
    refine h_n [2,3] [0,2] d rfl rfl fun hC=>?_
    refine ho 13 rfl ?_
    refine ws (C73 x1233 p1244 k1246) s d 0 rfl rfl rfl sizeOf73 fun a w s d=>?_
    refine h_n [2,3] [0,2] d rfl rfl fun hC=>?_
    refine x8 (by kernel_rfl) ?_
    exact ⟨Sv870,b1248,b1249,wj s d [2,3,1,0] [4,5,3,1]⟩
   refine P5.cons rfl ?_ ?_
   ·refine wa Z2 s d zeroValue73 fun b1249 a w s d=>?_
    refine h_n [1,2] [0,2] d rfl rfl fun hC=>?_
    refine ho 10 rfl ?_
    refine wa Z2 s d zeroValue73 fun b1248 a w s d=>?_
    refine h_n [2,3] [0,2] d rfl rfl fun hC=>?_
    refine ho 12 rfl ?_
    refine ws (C73 x1216 p1227 k1229) s d 0 rfl rfl rfl sizeOf73 fun a w s d=>?_
    refine h_n [2,3] [0,2] d rfl rfl fun hC=>?_
    refine ho 13 rfl ?_
    refine ws (C73 x1233 p1244 k1246) s d 1 rfl rfl rfl sizeOf73 fun a w s d=>?_
    refine h_n [2,3] [0,2] d rfl rfl fun hC=>?_
    refine x8 (by kernel_rfl) ?_
    exact ⟨Sv870,b1248,b1249,wj s d [2,3,0,1] [4,5,3,1]⟩
   exact P5.nil
  rintro a w ⟨Sv1250,b1248,b1249,s,d⟩
  refine tn (wp_seq (sn 4 [2,3] s d rfl rfl fun a s=>?_))
  refine sv s (a9w (by kernel_rfl) rfl rfl (R4 runUnderlying32 (by kernel_rfl) (EqF.cons1 rfl isAgg9 rfl rfl (O5 runUnderlying9) (EqF.cons1 rfl isAgg9 rfl rfl (O5 runUnderlying9) (EqF.cons1 rfl isAgg9 rfl rfl (O5 runUnderlying9) (EqF.cons1 rfl isAgg9 rfl rfl (O5 runUnderlying9) EqF.nil)))))) rfl fun a s=>?_
  refine mv s rfl rfl fun a s=>?_
  refine rO 8 38 [2,3] s d rfl rfl rfl rfl rfl fun a s=>?_
  refine nl (cd s u rfl (fun u=>?_) fun u=>?_)
  ·refine sz0 1 s rfl fun a s=>?_
   obtain rfl:=oi u
   have h1254:=hd1041 _ rfl
   subst h1254
   exact wp_ret (j3 (q9 (j3 (j3 (q9 (j3 (rt s rfl (d.ret rfl))))))))
  refine sk (sz0 1 s rfl fun a s=>?_)
  refine wp_block (w9 (fun sv1383 a w=>∃ Sv1467,Sl 66 [(2,pt b9),(3,pt b10),(5,iv sv528),(6,pt b1248),(7,pt b1249),(8,iv sv1383)] a∧Wd ⟨w0,S0,[]⟩ Sv1467 [.box b9 [sl (some ⟨b1222,o1223,none⟩) k3 a1.Channels] 29,.box b10 [sl (some ⟨b1239,o1240,none⟩) k7 b5.Channels] 29,.box b1248 (C73 x1216 p1227 k1229) 73,.box b1249 (C73 x1233 p1244 k1246) 73] [Sq (some ⟨b1222,o1223,none⟩) k3 a1.Channels,Sq (some ⟨b1239,o1240,none⟩) k7 b5.Channels,Sq p1227 k1229 x1216.Epochs,Sq p1244 k1246 x1233.Epochs] w) 0 u ⟨Sv1250,wj s d [0,1,2,3] [0,1,2,3]⟩ ?_)
  repeat clear u
  rintro sv1383 a w tv1510 ⟨Sv1467,s,d⟩ u hd1509
  refine wp_seq (sz 5 [2] s d rfl rfl fun a s=>?_)
  refine cd s u rfl (fun u=>?_) fun u=>?_
  ·refine sk (wp_seq (wp_block (wp_seq ?_)))
   obtain ⟨x1555,h1553,u⟩:=bt u
   obtain ⟨b1561,o1562,q1559,c1560,h1563,h1556,h1557,h1558,h1554⟩:=d.elemV 2 rfl h1553
   have hsv1564:=s
   have hwv1565:=d
   subst h1563
   have s:=hsv1564
   have d:=hwv1565
   obtain ⟨_,_,_,_,_,_,_,_,rfl,rfl,rfl,rfl,rfl,rfl,rfl,rfl,⟨p1566,n1567,k1568,rfl,h1569⟩⟩:=h1554
   obtain rfl:=h1569.1
   have d:=(d.addE (e:=SlA p1566 _ k1568 x1555.Response.Stages) h1569).addE h1558
   obtain ⟨x1572,h1570,u⟩:=bt u
   obtain ⟨b1578,o1579,q1576,c1577,h1580,h1573,h1574,h1575,h1571⟩:=d.elemV 5 rfl h1570
   have hsv1581:=s
   have hwv1582:=d
   subst h1580
   have s:=hsv1581
   have d:=hwv1582
   obtain ⟨_,_,_,_,_,_,_,_,rfl,rfl,rfl,rfl,rfl,rfl,rfl,rfl,⟨p1583,n1584,k1585,rfl,h1586⟩⟩:=h1571
   obtain rfl:=h1586.1
   have d:=(d.addE (e:=SlA p1583 _ k1585 x1572.Response.Stages) h1586).addE h1575
   obtain ⟨rv1588,h1587,u⟩:=bt u
   refine A8 (fun a w=>∃ Sv1589,Sl 66 [(2,pt b9),(3,pt b10),(5,iv sv528),(6,pt b1248),(7,pt b1249),(8,iv sv1383),(65,.bool (!rv1588))] a∧Wd ⟨w0,S0,[]⟩ Sv1589 [.box b9 [sl (some ⟨b1222,o1223,none⟩) k3 a1.Channels] 29,.box b10 [sl (some ⟨b1239,o1240,none⟩) k7 b5.Channels] 29,.box b1248 (C73 x1216 (some ⟨b1561,o1562,none⟩) k1229) 73,.box b1249 (C73 x1233 (some ⟨b1578,o1579,none⟩) k1246) 73] [Sq (some ⟨b1222,o1223,none⟩) k3 a1.Channels,Sq (some ⟨b1239,o1240,none⟩) k7 b5.Channels,Sq (some ⟨b1561,o1562,none⟩) k1229 x1216.Epochs,Sq (some ⟨b1578,o1579,none⟩) k1246 x1233.Epochs] w) ?_ ?_
   ·refine h_c [0,1,2,3] [0,2] d rfl rfl (by kernel_rfl) rfl fun hC d=>?_
    refine gn 3 [0,1,2] [2] s hC rfl rfl rfl fun a s=>?_
    refine gx s 3 rfl trivial rfl hC runUnderlying71 sizeOf41 rfl rfl h1556 h1557 fun a s=>?_
    refine gv s 4 rfl rfl hC (fun w hC=>E5 (j:=0) (hC.ceAt 1 rfl) rfl isAgg41 sizeOf41 rfl rfl) fun a s=>?_
    refine gn 3 [5,6,7] [3] s hC rfl rfl rfl fun a s=>?_
    refine gx s 8 rfl trivial rfl hC runUnderlying71 sizeOf41 rfl rfl h1573 h1574 fun a s=>?_
    refine gv s 9 rfl rfl hC (fun w hC=>E5 (j:=0) (hC.ceAt 0 rfl) rfl isAgg41 sizeOf41 rfl rfl) fun a s=>?_
    refine ho 10 rfl ?_
    refine cV s d (a5d h1587 d.bdom (d.bE 3 rfl) (d.bE 1 rfl)) (d9 call26 rfl) rfl fun a w s d=>?_
    refine h_n [0,1,2,3] [0,2] d rfl rfl fun hC=>?_
    refine gv s 11 rfl rfl hC (fun w hC=>a9G rfl) fun a s=>?_
    refine x8 (by kernel_rfl) ?_
    exact ⟨Sv1467,wj s d [0,1,2,3] [4,5,6,7]⟩
   rintro a w ⟨Sv1589,s,d⟩
   refine tn (cd s u rfl (fun u=>?_) fun u=>?_)
   ·refine sz0 1 s rfl fun a s=>?_
    obtain rfl:=oi u
    have h1598:=hd1509 _ rfl
    subst h1598
    have h1599:=hd1041 _ rfl
    subst h1599
    exact wp_ret (q9 (j3 (j3 (q9 (q9 (j3 (j3 (q9 (j3 (rt s rfl (d.ret rfl)))))))))))
   refine wp_skip (l9 (tn (wp_region_lit (rn0 2 s rfl fun a s=>?_))))
   obtain ⟨k1601,h1600,u⟩:=bt u
   refine sv s (u6 rfl h1600) rfl fun a s=>?_
   exact nl ⟨_,io u,Sv1589,wj s d [0,1,2,3] [0,1,2,3]⟩
  obtain ⟨rv1604,u,h1605⟩:=a0d u
  have h1605:=(hd1509 _ h1605.symm).symm
  subst h1605
  refine wp_exit (j4 (j4 (r9 (l9 (tn (wp_region_lit (rn0 2 s rfl fun a s=>?_)))))))
  obtain ⟨i1603,h1602,u⟩:=bt u
  refine sv s (u6 rfl h1602) rfl fun a s=>?_
  exact nl ⟨_,io u,Sv1467,wj s d [0,1] [0,1]⟩
 obtain ⟨rv1606,u,h1607⟩:=a0d u
 have h1607:=(hd1041 _ h1607.symm).symm
 subst h1607
 refine wp_exit (j4 (j4 (r9 (tn (sz0 1 s rfl fun a s=>?_)))))
 obtain rfl:=oi u
 exact q1 s rfl (d.ret rfl)
abbrev E7_0:List Value:=[.slice none ([]:List Channel).length 0]
theorem a5M {w0 S0 p2 k3 t1 r} (u:a1Y t1=some r) (hS:Dm S0 w0) (h4:(Sq p2 k3 t1).p S0 w0):Ck Tryz.prog 7 #[sl p2 k3 t1] w0 S0 [] l7 r:=by
 refine en 106 func7 rfl hS rfl rfl rfl fun a s d=>?_
 have d:=d.addE h4
 refine sz0 1 s rfl fun a s=>?_
 refine wp_seq (sn0 1 s rfl fun a s=>?_)
 obtain ⟨rv6,h5,u⟩:=bt u
 refine cV s d (b0N h5 d.bdom (d.bE 0 rfl)) (d9 call9 rfl) rfl fun a w s d=>?_
 refine rz0 1 s rfl fun a s=>?_
 refine cd s u rfl (fun u=>?_) fun u=>?_
 ·refine sr ?_
  obtain ⟨rv24,h23,u⟩:=bt u
  refine cV s d (a7P h23 d.bdom) (d9 call10 rfl) rfl fun a w s d=>?_
  refine rz0 1 s rfl fun a s=>?_
  obtain rfl:=oi u
  exact wp_ret (j3 (rt s rfl (d.ret rfl)))
 refine sk (sn0 1 s rfl fun a s=>?_)
 obtain ⟨rv32,h31,u⟩:=bt u
 refine cR s (b1J h31 d.dom (d.envAt 0 rfl)) (d9 call11 rfl) rfl ?_
 rintro v40 Sv37 w a h38 ⟨b33,p34,k35,rfl,h41,h36⟩ s
 have d:=(d.callN h38 h41).addE (e:=Sq p34 k35 rv32.L) h36
 refine rz0 1 s rfl fun a s=>?_
 refine sn0 1 s rfl fun a s=>?_
 obtain ⟨rv44,h43,u⟩:=bt u
 refine cR s (a6P h43 d.dom (d.ins [0] (by decide) rfl) (d.envAt 0 rfl)) (d9 call21 rfl) rfl ?_
 rintro v57 Sv54 w a h55 ⟨p45,k46,p48,k49,p51,k52,rfl,h58,h47,h50,h53⟩ s
 have d:=((d.callO [0] [] (by decide) rfl h55 h58).addE (e:=Sq p45 k46 rv44.1.Base.Channels) h47).addE (e:=Sq p48 k49 rv44.1.Changes) h50
 have d:=d.addE (e:=Sq p51 k52 rv44.2.L) h53
 refine wa Z21 s d zeroValue65 fun b60 a w s d=>?_
 refine ws (C65 rv44.1 p45 k46 p48 k49) s d 0 rfl rfl rfl sizeOf65 fun a w s d=>?_
 refine nl (wp_seq (sn 4 [0] s d rfl rfl fun a s=>?_))
 obtain ⟨i62,h61,u⟩:=bt u
 refine sv s (u6 rfl h61) rfl fun a s=>?_
 refine nl (wp_block (w9 (fun sv458 a w=>∃ Sv720,Sl 106 [(4,pt b60),(5,iv sv458)] a∧Wd ⟨w0,S0,[]⟩ Sv720 [.box b60 (C65 rv44.1 p45 k46 p48 k49) 65] [Sq p45 k46 rv44.1.Base.Channels,Sq p48 k49 rv44.1.Changes] w) i62 u ⟨Sv54,wj s d [0] [2,1]⟩ ?_))
 repeat clear u
 rintro sv458 a w tv852 ⟨Sv720,s,d⟩ u hd851
 refine wp_seq (sz0 2 s rfl fun a s=>?_)
 refine cd s u rfl (fun u=>?_) fun u=>?_
 ·refine sk (wp_seq (wp_block (sn 2 [0] s d rfl rfl fun a s=>?_)))
  obtain ⟨rv985,h984,u⟩:=bt u
  refine cR s (a4J h984 d.dom (d.envAt 0 rfl) (d.envAt 1 rfl)) (d9 call30 rfl) rfl ?_
  rintro v993 Sv990 w a h991 ⟨p986,k987,c989,rfl,h994,h988⟩ s
  have d:=(d.callN h991 h994).addE (e:=j5 c989 rv985.1.Channels) h988
  refine rn0 3 s rfl fun a s=>?_
  refine wa E7_0 s d zeroValue29 fun b996 a w s d=>?_
  refine ws [sl p986 k987 rv985.1.Channels] s d 0 rfl rfl rfl sizeOf29 fun a w s d=>?_
  refine rz0 1 s rfl fun a s=>?_
  refine sn 3 [2] s d rfl rfl fun a s=>?_
  obtain ⟨rv998,h997,u⟩:=bt u
  refine cR s (a4J h997 d.dom (d.envAt 1 rfl) (d.envAt 2 rfl)) (d9 call30 rfl) rfl ?_
  rintro v1006 Sv1003 w a h1004 ⟨p999,k1000,c1002,rfl,h1007,h1001⟩ s
  have d:=(d.callN h1004 h1007).addE (e:=j5 c1002 rv998.1.Channels) h1001
  refine rn0 3 s rfl fun a s=>?_
  refine wa E7_0 s d zeroValue29 fun b1009 a w s d=>?_
  refine ws [sl p999 k1000 rv998.1.Channels] s d 0 rfl rfl rfl sizeOf29 fun a w s d=>?_
  refine rz0 1 s rfl fun a s=>?_
  refine wp_seq ?_
  obtain ⟨x1012,h1010,u⟩:=bt u
  obtain ⟨b1018,o1019,q1016,c1017,h1020,h1013,h1014,h1015,h1011⟩:=d.elemV 3 rfl h1010
  have hsv1021:=s
  have hwv1022:=d
  subst h1020
  have s:=hsv1021
  have d:=hwv1022
  obtain ⟨_,_,_,_,_,_,_,_,_,_,_,_,_,_,rfl,rfl,rfl,rfl,rfl,rfl,rfl,rfl,rfl,rfl,rfl,rfl,rfl,rfl,⟨p1023,n1024,k1025,rfl,h1026⟩⟩:=h1011
  obtain rfl:=h1026.1
  have d:=(d.addE (e:=SlA p1023 _ k1025 x1012.Epoch.Response.Stages) h1026).addE h1015
  obtain ⟨rv1028,h1027,u⟩:=bt u
  refine A8 (fun a w=>∃ Sv1034 b1033 c1032 k1030 p1029,Sl 106 [(4,pt b60),(5,iv sv458),(6,pt b996),(7,iv rv985.2),(8,pt b1009),(9,iv rv998.2),(10,pt b1033),(11,iv rv1028.2)] a∧Wd ⟨w0,S0,[]⟩ Sv1034 [.box b60 (C65 rv44.1 p45 k46 (some ⟨b1018,o1019,none⟩) k49) 65,.box b996 [sl p986 k987 rv985.1.Channels] 29,.box b1009 [sl p999 k1000 rv998.1.Channels] 29,.box b1033 [sl p1029 k1030 rv1028.1.Channels] 29,.row p999 rv998.1.Channels.length k1000 c1002 73 5,.row p1029 rv1028.1.Channels.length k1030 c1032 73 5] [Sq p45 k46 rv44.1.Base.Channels,Sq (some ⟨b1018,o1019,none⟩) k49 rv44.1.Changes,Sq p986 k987 rv985.1.Channels,j5 c1002 rv998.1.Channels,j5 c1032 rv1028.1.Channels] w) ?_ ?_
  ·refine h_c [0,1,2,4] [0] d rfl rfl (by kernel_rfl) rfl fun hC d=>?_
   refine gn 4 [0,1,2,3] [2,3] s hC rfl rfl rfl fun a s=>?_
   refine gx s 4 rfl trivial rfl hC runUnderlying63 sizeOf43 rfl rfl h1013 h1014 fun a s=>?_
   refine gv s 5 rfl rfl hC (fun w hC=>E5 (j:=0) (hC.ceAt 0 rfl) rfl isAgg43 sizeOf43 rfl rfl) fun a s=>?_
   refine a3g (rs:=[6,10]) (by kernel_rfl) rfl ?_
   refine P5.cons rfl ?_ ?_
   ·obtain ⟨Sv1035,d⟩:=A9 (α:=Channel) d 3 rfl 3 rfl
    refine cR s (R5 h1027 d.dom (d.envAt 0 rfl) (d.envAt 2 rfl)) (d9 call14 rfl) rfl ?_
    rintro v1039 Sv1036 w a h1037 ⟨p1029,k1030,c1032,rfl,h1040,h1031⟩ s
    have d:=(d.callN h1037 h1040).addE (e:=j5 c1032 rv1028.1.Channels) h1031
    refine h_n [1,2,3,4] [2] d rfl rfl fun hC=>?_
    refine h_d [1,2,3,4,0] [2] [0,1,2,3] [0] d rfl rfl rfl rfl fun hC=>?_
    refine gn 3 [7,8,9] [] s hC rfl rfl rfl fun a s=>?_
    refine ho 10 rfl ?_
    refine wa E7_0 s d zeroValue29 fun b1033 a w s d=>?_
    refine h_n [2,3,4,5,1] [2] d rfl rfl fun hC=>?_
    refine ho 11 rfl ?_
    refine ws [sl p1029 k1030 rv1028.1.Channels] s d 0 rfl rfl rfl sizeOf29 fun a w s d=>?_
    refine h_n [2,3,4,5,1] [2] d rfl rfl fun hC=>?_
    refine gv s 12 rfl rfl hC (fun w hC=>J3 rfl) fun a s=>?_
    refine x8 (by kernel_rfl) ?_
    exact ⟨Sv1036,b1033,c1032,k1030,p1029,wj s d [5,4,2,0,3,1] [6,7,1,4,0]⟩
   refine P5.cons rfl ?_ ?_
   ·refine wa E7_0 s d zeroValue29 fun b1033 a w s d=>?_
    refine h_n [1,2,3,5] [0] d rfl rfl fun hC=>?_
    refine ho 6 rfl ?_
    obtain ⟨Sv1042,d⟩:=A9 (α:=Channel) d 4 rfl 3 rfl
    refine cR s (R5 h1027 d.dom (d.envAt 0 rfl) (d.envAt 2 rfl)) (d9 call14 rfl) rfl ?_
    rintro v1046 Sv1043 w a h1044 ⟨p1029,k1030,c1032,rfl,h1047,h1031⟩ s
    have d:=(d.callN h1044 h1047).addE (e:=j5 c1032 rv1028.1.Channels) h1031
    refine h_n [2,3,4,5] [2] d rfl rfl fun hC=>?_
    refine h_d [2,3,4,5,0] [2] [0,1,2,3] [0] d rfl rfl rfl rfl fun hC=>?_
    refine gn 3 [7,8,9] [] s hC rfl rfl rfl fun a s=>?_
    refine ho 11 rfl ?_
    refine ws [sl p1029 k1030 rv1028.1.Channels] s d 1 rfl rfl rfl sizeOf29 fun a w s d=>?_
    refine h_n [2,3,4,5,0] [2] d rfl rfl fun hC=>?_
    refine gv s 12 rfl rfl hC (fun w hC=>J3 rfl) fun a s=>?_
    refine x8 (by kernel_rfl) ?_
    exact ⟨Sv1043,b1033,c1032,k1030,p1029,wj s d [5,4,2,1,3,0] [6,7,1,4,0]⟩
   exact P5.nil
  rintro a w ⟨Sv1034,b1033,c1032,k1030,p1029,s,d⟩
  refine tn (wp_seq ?_)
  obtain ⟨x1072,h1070,u⟩:=bt u
  obtain ⟨q1076,c1077,h1073,h1074,h1075,h1071⟩:=d.elemK 1 rfl h1070
  obtain ⟨_,_,_,_,_,_,_,_,_,_,_,_,_,_,rfl,rfl,rfl,rfl,rfl,rfl,rfl,rfl,rfl,rfl,rfl,rfl,rfl,rfl,⟨p1078,n1079,k1080,rfl,h1081⟩⟩:=h1071
  obtain rfl:=h1081.1
  have d:=(d.addE (e:=SlA p1078 _ k1080 x1072.Epoch.Response.Stages) h1081).addE h1075
  obtain ⟨rv1083,h1082,u⟩:=bt u
  refine A8 (fun a w=>∃ Sv1088 b1087 k1085 p1084,Sl 106 [(4,pt b60),(5,iv sv458),(6,pt b996),(7,iv rv985.2),(8,pt b1009),(9,iv rv998.2),(10,pt b1033),(11,iv rv1028.2),(12,pt b1087),(13,iv rv1083.2)] a∧Wd ⟨w0,S0,[]⟩ Sv1088 [.box b60 (C65 rv44.1 p45 k46 (some ⟨b1018,o1019,none⟩) k49) 65,.box b996 [sl p986 k987 rv985.1.Channels] 29,.box b1009 [sl p999 k1000 rv998.1.Channels] 29,.box b1033 [sl p1029 k1030 rv1028.1.Channels] 29,.box b1087 (C43 rv1083.1 p1084 k1085) 43,.row p999 rv998.1.Channels.length k1000 c1002 73 5,.row p1029 rv1028.1.Channels.length k1030 c1032 73 5] [Sq p45 k46 rv44.1.Base.Channels,Sq (some ⟨b1018,o1019,none⟩) k49 rv44.1.Changes,Sq p986 k987 rv985.1.Channels,Sq p1084 k1085 rv1083.1.Epoch.Response.Stages,j5 c1002 rv998.1.Channels,j5 c1032 rv1028.1.Channels] w) ?_ ?_
  ·refine h_c [0,1,2,3,4,5] [0] d rfl rfl (by kernel_rfl) rfl fun hC d=>?_
   refine gn 4 [0,1,2,3] [1,0] s hC rfl rfl rfl fun a s=>?_
   refine gx s 4 rfl trivial rfl hC runUnderlying63 sizeOf43 rfl rfl h1073 h1074 fun a s=>?_
   refine gv s 5 rfl rfl hC (fun w hC=>E5 (j:=0) (hC.ceAt 0 rfl) rfl isAgg43 sizeOf43 rfl rfl) fun a s=>?_
   refine a3g (rs:=[6,10]) (by kernel_rfl) rfl ?_
   refine P5.cons rfl ?_ ?_
   ·refine cR s (a4I h1082 d.dom (d.envAt 4 rfl) (d.envAt 1 rfl)) (d9 call31 rfl) rfl ?_
    rintro v1092 Sv1089 w a h1090 ⟨p1084,k1085,rfl,h1086⟩ s
    have d:=(d.call h1090).addE (e:=Sq p1084 k1085 rv1083.1.Epoch.Response.Stages) h1086
    refine h_n [0,1,2,3,4,5] [1] d rfl rfl fun hC=>?_
    refine gn 3 [7,8,9] [] s hC rfl rfl rfl fun a s=>?_
    refine ho 10 rfl ?_
    refine wa Z18 s d zeroValue43 fun b1087 a w s d=>?_
    refine h_n [1,2,3,4,5,6] [1] d rfl rfl fun hC=>?_
    refine ho 11 rfl ?_
    refine ws (C43 rv1083.1 p1084 k1085) s d 0 rfl rfl rfl sizeOf43 fun a w s d=>?_
    refine h_n [1,2,3,4,5,6] [1] d rfl rfl fun hC=>?_
    refine gv s 12 rfl rfl hC (fun w hC=>J3 rfl) fun a s=>?_
    refine x8 (by kernel_rfl) ?_
    exact ⟨Sv1089,b1087,k1085,p1084,wj s d [1,2,3,4,0,5,6] [3,4,5,0,6,7]⟩
   refine P5.cons rfl ?_ ?_
   ·refine wa Z18 s d zeroValue43 fun b1087 a w s d=>?_
    refine h_n [1,2,3,4,5,6] [0] d rfl rfl fun hC=>?_
    refine ho 6 rfl ?_
    refine cR s (a4I h1082 d.dom (d.envAt 4 rfl) (d.envAt 1 rfl)) (d9 call31 rfl) rfl ?_
    rintro v1098 Sv1095 w a h1096 ⟨p1084,k1085,rfl,h1086⟩ s
    have d:=(d.call h1096).addE (e:=Sq p1084 k1085 rv1083.1.Epoch.Response.Stages) h1086
    refine h_n [1,2,3,4,5,6] [1] d rfl rfl fun hC=>?_
    refine gn 3 [7,8,9] [] s hC rfl rfl rfl fun a s=>?_
    refine ho 11 rfl ?_
    refine ws (C43 rv1083.1 p1084 k1085) s d 0 rfl rfl rfl sizeOf43 fun a w s d=>?_
    refine h_n [1,2,3,4,5,6] [1] d rfl rfl fun hC=>?_
    refine gv s 12 rfl rfl hC (fun w hC=>J3 rfl) fun a s=>?_
    refine x8 (by kernel_rfl) ?_
    exact ⟨Sv1095,b1087,k1085,p1084,wj s d [1,2,3,4,0,5,6] [3,4,5,0,6,7]⟩
   exact P5.nil
  rintro a w ⟨Sv1088,b1087,k1085,p1084,s,d⟩
  refine tn (sn 2 [2,4] s d rfl rfl fun a s=>?_)
  obtain ⟨rv1120,h1119,u⟩:=bt u
  obtain ⟨Sv1125,d⟩:=A9 (α:=Channel) d 5 rfl 4 rfl
  refine cR s (R5 h1119 d.dom (d.envAt 0 rfl) (d.envAt 4 rfl)) (d9 call14 rfl) rfl ?_
  rintro v1129 Sv1126 w a h1127 ⟨p1121,k1122,c1124,rfl,h1130,h1123⟩ s
  have d:=(d.callN h1127 h1130).addE (e:=j5 c1124 rv1120.1.Channels) h1123
  refine rn0 3 s rfl fun a s=>?_
  refine wa E7_0 s d zeroValue29 fun b1132 a w s d=>?_
  refine ws [sl p1121 k1122 rv1120.1.Channels] s d 0 rfl rfl rfl sizeOf29 fun a w s d=>?_
  refine rz0 1 s rfl fun a s=>?_
  refine sn0 3 s rfl fun a s=>?_
  refine rO 3 73 [] s d rfl rfl rfl rfl rfl fun a s=>?_
  refine mv s rfl rfl fun a s=>?_
  refine rO 3 77 [] s d rfl rfl rfl rfl rfl fun a s=>?_
  refine mv s rfl rfl fun a s=>?_
  refine rO 3 81 [] s d rfl rfl rfl rfl rfl fun a s=>?_
  refine mv s rfl rfl fun a s=>?_
  refine rO 3 85 [] s d rfl rfl rfl rfl rfl fun a s=>?_
  refine mv s rfl rfl fun a s=>?_
  obtain ⟨c1146,hc1146,u⟩:=bt u
  refine o6 5 (fun a w=>∃ Sv1147,Sl 106 [(4,pt b60),(5,iv sv458),(6,pt b996),(14,pt b1132),(94,.bool c1146)] a∧Wd ⟨w0,S0,[]⟩ Sv1147 [.box b60 (C65 rv44.1 p45 k46 (some ⟨b1018,o1019,none⟩) k49) 65,.box b996 [sl p986 k987 rv985.1.Channels] 29,.box b1132 [sl p1121 k1122 rv1120.1.Channels] 29,.row p1121 rv1120.1.Channels.length k1122 c1124 73 5] [Sq p45 k46 rv44.1.Base.Channels,Sq (some ⟨b1018,o1019,none⟩) k49 rv44.1.Changes,Sq p986 k987 rv985.1.Channels,j5 c1124 rv1120.1.Channels] w) ?_ ?_
  ·rcases Bool.eq_false_or_eq_true (((((rv985.2 != 0) || (rv998.2 != 0)) || (rv1028.2 != 0)) || (rv1083.2 != 0)) || (rv1120.2 != 0)) with h1145 | h1145
   ·have s:=s.bT 89 rfl h1145
    have u:=C9 hc1146 h1145
    refine rn0 5 s rfl fun a s=>?_
    refine wpList_nil ?_
    obtain rfl:=oi u
    exact tn ⟨Sv1126,wj s d [2,3,0,1] [2,3,4,0]⟩
   have s:=s.bF 89 rfl h1145
   have u:=D6 hc1146 h1145
   refine rn 2 [5,4] s d rfl rfl fun a s=>?_
   obtain ⟨rv1149,h1148,u⟩:=bt u
   refine o8 s (a7Q h1148 d.bdom (d.bRow 7 rfl 7 rfl) (d.bE 1 rfl)) (d9 call19 rfl) ⟨_,rfl,rfl⟩ rfl rfl ?_
   rintro v1153 Sv1150 w a h1151 rfl s
   have d:=d.callB h1151
   refine rn0 2 s rfl fun a s=>?_
   refine wpList_nil ?_
   obtain rfl:=oi u
   exact tn ⟨Sv1126,wj s d [2,3,0,1] [2,3,4,0]⟩
  rintro a w ⟨Sv1147,s,d⟩
  refine mv s rfl rfl fun a s=>?_
  obtain ⟨c1165,hc1165,u⟩:=bt u
  refine o6 5 (fun a w=>∃ Sv1166,Sl 106 [(4,pt b60),(5,iv sv458),(100,.bool c1165)] a∧Wd ⟨w0,S0,[]⟩ Sv1166 [.box b60 (C65 rv44.1 p45 k46 (some ⟨b1018,o1019,none⟩) k49) 65] [Sq p45 k46 rv44.1.Base.Channels,Sq (some ⟨b1018,o1019,none⟩) k49 rv44.1.Changes] w) ?_ ?_
  ·rcases Bool.eq_false_or_eq_true c1146 with h1164 | h1164
   ·have s:=s.bT 95 rfl h1164
    have u:=C9 hc1165 h1164
    refine rn0 5 s rfl fun a s=>?_
    refine wpList_nil ?_
    obtain rfl:=oi u
    exact tn ⟨Sv1147,wj s d [0] [0,1]⟩
   have s:=s.bF 95 rfl h1164
   have u:=D6 hc1165 h1164
   refine rn 2 [2,1] s d rfl rfl fun a s=>?_
   obtain ⟨rv1168,h1167,u⟩:=bt u
   refine o8 s (a7Q h1167 d.bdom (d.bRow 3 rfl 3 rfl) (d.bE 2 rfl)) (d9 call19 rfl) ⟨_,rfl,rfl⟩ rfl rfl ?_
   rintro v1172 Sv1169 w a h1170 rfl s
   have d:=d.callB h1170
   refine rn0 2 s rfl fun a s=>?_
   refine wpList_nil ?_
   obtain rfl:=oi u
   exact tn ⟨Sv1147,wj s d [0] [0,1]⟩
  rintro a w ⟨Sv1166,s,d⟩
  refine nl (cd s u rfl (fun u=>?_) fun u=>?_)
  ·refine sz0 1 s rfl fun a s=>?_
   obtain rfl:=oi u
   have h1177:=hd851 _ rfl
   subst h1177
   exact wp_ret (q9 (j3 (j3 (q9 (j3 (rt s rfl (d.ret rfl)))))))
  refine wp_skip (l9 (tn (wp_region_lit (rn0 2 s rfl fun a s=>?_))))
  obtain ⟨i1179,h1178,u⟩:=bt u
  refine sv s (u6 rfl h1178) rfl fun a s=>?_
  exact nl ⟨_,io u,Sv1166,wj s d [0] [0,1]⟩
 obtain ⟨rv1207,u,h1208⟩:=a0d u
 have h1208:=(hd851 _ h1208.symm).symm
 subst h1208
 refine wp_exit (j4 (j4 (r9 (tn (sn 1 [0] s d rfl rfl fun a s=>?_)))))
 obtain ⟨rv1181,h1180,u⟩:=bt u
 refine cV s d (a5q h1180 d.bdom (d.bE 0 rfl) (d.bE 1 rfl)) (d9 call32 rfl) rfl fun a w s d=>?_
 refine mv s rfl rfl fun a s=>?_
 obtain ⟨c1197,hc1197,u⟩:=bt u
 refine o6 2 (fun a w=>∃ Sv1198,Sl 106 [(105,.bool c1197)] a∧Wd ⟨w0,S0,[]⟩ Sv1198 [] [] w) ?_ ?_
 ·rcases Bool.eq_false_or_eq_true rv1181 with h1196 | h1196
  ·have s:=s.bT 103 rfl h1196
   have u:=C9 hc1197 h1196
   obtain ⟨rv1200,h1199,u⟩:=bt u
   refine o8 s (a7P h1199 d.bdom) (d9 call10 rfl) ⟨_,rfl,rfl⟩ rfl rfl ?_
   rintro v1204 Sv1201 w a h1202 rfl s
   have d:=d.callB h1202
   refine sv s (G6 rfl rfl) rfl fun a s=>?_
   refine wpList_nil ?_
   obtain rfl:=oi u
   exact tn ⟨Sv720,wj s d [] []⟩
  have s:=s.bF 103 rfl h1196
  have u:=D6 hc1197 h1196
  refine rn0 2 s rfl fun a s=>?_
  refine wpList_nil ?_
  obtain rfl:=oi u
  exact tn ⟨Sv720,wj s d [] []⟩
 rintro a w ⟨Sv1198,s,d⟩
 refine rz0 1 s rfl fun a s=>?_
 obtain rfl:=oi u
 exact q1 s rfl (d.ret rfl)
end Go.Proofs.YteanekphncdhiaaGreat.Wk

/- The walks of RevisionLaws, part 4: each Go function computes what its plain program computes. Printed by a program of ours. -/
import Derived.Test.YteanekphncdhiaaGreatProg
import Derived.Test.YteanekphncdhiaaGreatLibMs
import Derived.Test.YteanekphncdhiaaGreatDat
import Derived.Test.YteanekphncdhiaaGreatSh
import Derived.Test.YteanekphncdhiaaGreatLa1
import Derived.Test.YteanekphncdhiaaGreatLa2
import Derived.Test.YteanekphncdhiaaGreatLibCh
import Derived.KernelRfl
import Derived.Test.YteanekphncdhiaaGreatLb1
import Derived.Shelf.SlLaysF0
import Derived.Test.YteanekphncdhiaaGreatWRevisionLaws3
namespace Go.Proofs.YteanekphncdhiaaGreat.Wk
open Go Go.RowKit Go.Proofs Go.Proofs.YteanekphncdhiaaGreat.Sh Go.Proofs.Tryz
set_option linter.unusedVariables false
set_option linter.unusedSimpArgs false
set_option maxHeartbeats 4000000
set_option maxRecDepth 100000
theorem a6H {w0 S0 p2 k3 t1 r} (u:a3a t1=some r) (hS:Dm S0 w0) (h4:(Sq p2 k3 t1).p S0 w0):Ck Tryz.prog 6 #[sl p2 k3 t1] w0 S0 [] l7 r:=by
 refine en 135 func6 rfl hS rfl rfl rfl fun a s d=>?_
 have d:=d.addE h4
 refine sz0 1 s rfl fun a s=>?_
 refine wp_seq (sn0 1 s rfl fun a s=>?_)
 obtain ⟨rv6,h5,u⟩:=bt u
 refine cV s d (b1e h5 d.bdom (d.bE 0 rfl)) (d9 call9 rfl) rfl fun a w s d=>?_
 refine rz0 1 s rfl fun a s=>?_
 refine cd s u rfl (fun u=>?_) fun u=>?_
 ·refine sr ?_
  obtain ⟨rv24,h23,u⟩:=bt u
  refine cV s d (a7W h23 d.bdom) (d9 call10 rfl) rfl fun a w s d=>?_
  refine rz0 1 s rfl fun a s=>?_
  obtain rfl:=oi u
  exact wp_ret (j3 (rt s rfl (d.ret rfl)))
 refine sk (sn0 1 s rfl fun a s=>?_)
 obtain ⟨rv32,h31,u⟩:=bt u
 refine cR s (b1Z h31 d.dom (d.envAt 0 rfl)) (d9 call11 rfl) rfl ?_
 rintro v40 Sv37 w a h38 ⟨b33,p34,k35,rfl,h41,h36⟩ s
 have d:=(d.callN h38 h41).addE (e:=Sq p34 k35 rv32.L) h36
 refine rz0 1 s rfl fun a s=>?_
 refine sn0 1 s rfl fun a s=>?_
 obtain ⟨rv44,h43,u⟩:=bt u
 refine cR s (a6W h43 d.dom (d.ins [0] (by decide) rfl) (d.envAt 0 rfl)) (d9 call21 rfl) rfl ?_
 rintro v57 Sv54 w a h55 ⟨p45,k46,p48,k49,p51,k52,rfl,h58,h47,h50,h53⟩ s
 have d:=((d.callO [0] [] (by decide) rfl h55 h58).addE (e:=Sq p45 k46 rv44.1.Base.Channels) h47).addE (e:=Sq p48 k49 rv44.1.Changes) h50
 have d:=d.addE (e:=Sq p51 k52 rv44.2.L) h53
 refine wa Z21 s d zeroValue65 fun b60 a w s d=>?_
 refine ws (C65 rv44.1 p45 k46 p48 k49) s d 0 rfl rfl rfl sizeOf65 fun a w s d=>?_
 refine nl (sn 3 [0] s d rfl rfl fun a s=>?_)
 obtain ⟨n62,h61,u⟩:=bt u
 refine sv s (q8 rfl h61) rfl fun a s=>?_
 refine nl (sn 2 [0] s d rfl rfl fun a s=>?_)
 obtain ⟨rv64,h63,u⟩:=bt u
 refine cR s (a0O h63 d.dom (d.envAt 2 rfl) (d.envAt 1 rfl)) (d9 call27 rfl) rfl ?_
 rintro v72 Sv69 w a h70 ⟨p65,k66,c68,rfl,h73,h67⟩ s
 have d:=(d.callN h70 h73).addE (e:=j6 c68 rv64.1) h67
 refine rz0 5 s rfl fun a s=>?_
 refine sn 2 [1] s d rfl rfl fun a s=>?_
 obtain ⟨rv76,h75,u⟩:=bt u
 refine cR s (a0O h75 d.dom (d.envAt 3 rfl) (d.envAt 2 rfl)) (d9 call27 rfl) rfl ?_
 rintro v84 Sv81 w a h82 ⟨p77,k78,c80,rfl,h85,h79⟩ s
 have d:=(d.callN h82 h85).addE (e:=j6 c80 rv76.1) h79
 refine rz0 5 s rfl fun a s=>?_
 refine sn 3 [2] s d rfl rfl fun a s=>?_
 obtain ⟨rv88,h87,u⟩:=bt u
 refine cR s (a0O h87 d.dom (d.envAt 4 rfl) (d.envAt 3 rfl)) (d9 call27 rfl) rfl ?_
 rintro v96 Sv93 w a h94 ⟨p89,k90,c92,rfl,h97,h91⟩ s
 have d:=(d.callN h94 h97).addE (e:=j6 c92 rv88.1) h91
 refine rz0 5 s rfl fun a s=>?_
 refine wp_seq (sn0 3 s rfl fun a s=>?_)
 refine rO 3 52 [] s d rfl rfl rfl rfl rfl fun a s=>?_
 refine mv s rfl rfl fun a s=>?_
 refine rO 3 56 [] s d rfl rfl rfl rfl rfl fun a s=>?_
 refine mv s rfl rfl fun a s=>?_
 refine rO 4 60 [] s d rfl rfl rfl rfl rfl fun a s=>?_
 refine mv s rfl rfl fun a s=>?_
 obtain ⟨c111,hc111,u⟩:=bt u
 refine o7 5 (fun a w=>∃ Sv112,Sl 135 [(4,pt b60),(5,iv n62),(6,sl p65 k66 rv64.1),(70,.bool c111)] a∧Wd ⟨w0,S0,[]⟩ Sv112 [.box b60 (C65 rv44.1 p45 k46 p48 k49) 65,.row p65 rv64.1.length k66 c68 56 5] [Sq p45 k46 rv44.1.Base.Channels,Sq p48 k49 rv44.1.Changes,j6 c68 rv64.1] w) ?_ ?_
 ·rcases Bool.eq_false_or_eq_true ((((rv64.2 != 0) || (rv76.2 != 0)) || (rv88.2 != 0)) || ((rv88.1.length:Int) != 0)) with h110 | h110
  ·have s:=s.bT 65 rfl h110
   have u:=D5 hc111 h110
   refine rn0 5 s rfl fun a s=>?_
   refine wpList_nil ?_
   obtain rfl:=oi u
   exact tn ⟨Sv93,wj s d [3,2] [5,4,2]⟩
  have s:=s.bF 65 rfl h110
  have u:=D6 hc111 h110
  refine rn0 2 s rfl fun a s=>?_
  obtain ⟨rv114,h113,u⟩:=bt u
  refine q9 s (a6J h113 d.bdom (d.bRow 2 rfl 2 rfl) (d.bRow 1 rfl 1 rfl)) (d9 call28 rfl) ⟨_,rfl,rfl⟩ rfl rfl ?_
  rintro v118 Sv115 w a h116 rfl s
  have d:=d.callB h116
  refine rn0 2 s rfl fun a s=>?_
  refine wpList_nil ?_
  obtain rfl:=oi u
  exact tn ⟨Sv93,wj s d [3,2] [5,4,2]⟩
 rintro a w ⟨Sv112,s,d⟩
 refine nl (cd s u rfl (fun u=>?_) fun u=>?_)
 ·refine sz0 1 s rfl fun a s=>?_
  obtain rfl:=oi u
  exact wp_ret (j3 (rt s rfl (d.ret rfl)))
 refine sk (sr (b3O (κ:=SourceID) (α:=(List Span)) (kt:=32) (z:=.slice none 0 0) (zd:=([]:List Span)) s d rfl trivial (fun _=>⟨_,rfl,none,0,0,rfl,M8⟩) ?_))
 intro b123 y124 a w s d
 refine rz0 1 s rfl fun a s=>?_
 refine wp_seq (sz0 1 s rfl fun a s=>?_)
 refine wp_block (u7 (fun sv672 a w=>∃ (y1035:SourceID→Value) (Sv1036:_),Sl 135 [(4,pt b60),(5,iv n62),(6,sl p65 k66 rv64.1),(12,.map (some b123)),(13,iv sv672.2)] a∧Wd ⟨w0,S0,[]⟩ Sv1036 [.box b60 (C65 rv44.1 p45 k46 p48 k49) 65,mkR Tryz.prog 32 (.slice none 0 0) sv672.1.n y1035 b123,.row p65 rv64.1.length k66 c68 56 5] [Sq p45 k46 rv44.1.Base.Channels,Sq p48 k49 rv44.1.Changes,MkA y1035 sv672.1,j6 c68 rv64.1] w) ((⟨0,fun _=>([]:List Span)⟩:Mk SourceID (List Span)),0) u ⟨y124,Sv112,wj s d [1,0,2] [1,2,0,3]⟩ ?_)
 repeat clear u
 rintro sv672 a w tv1218 ⟨y1035,Sv1036,s,d⟩ u hd1217
 refine wp_seq (sz0 3 s rfl fun a s=>?_)
 refine cd s u rfl (fun u=>?_) fun u=>?_
 ·refine sk (wp_seq (wp_block (sn 4 [0] s d rfl rfl fun a s=>?_)))
  obtain ⟨rv1401,h1400,u⟩:=bt u
  refine cR s (a0O h1400 d.dom (d.envAt 0 rfl) (d.envAt 1 rfl)) (d9 call27 rfl) rfl ?_
  rintro v1409 Sv1406 w a h1407 ⟨p1402,k1403,c1405,rfl,h1410,h1404⟩ s
  have d:=(d.callN h1407 h1410).addE (e:=j6 c1405 rv1401.1) h1404
  refine rz0 5 s rfl fun a s=>?_
  refine wp_seq (sn0 3 s rfl fun a s=>?_)
  refine rO 4 87 [] s d rfl rfl rfl rfl rfl fun a s=>?_
  refine nl (cd s u rfl (fun u=>?_) fun u=>?_)
  ·refine sz0 1 s rfl fun a s=>?_
   obtain rfl:=oi u
   have h1415:=hd1217 _ rfl
   subst h1415
   exact wp_ret (j3 (r9 (j3 (j3 (r9 (j3 (rt s rfl (d.ret rfl))))))))
  refine sk (sz0 3 s rfl fun a s=>?_)
  refine wp_block (u7 (fun sv1579 a w=>∃ (y1686:SourceID→Value) (Sv1687:_),Sl 135 [(4,pt b60),(5,iv n62),(6,sl p65 k66 rv64.1),(12,.map (some b123)),(13,iv sv672.2),(92,sl p1402 k1403 rv1401.1),(93,iv (rv1401.1.length:Int)),(94,iv sv1579.2)] a∧Wd ⟨w0,S0,[]⟩ Sv1687 [.box b60 (C65 rv44.1 p45 k46 p48 k49) 65,mkR Tryz.prog 32 (.slice none 0 0) sv1579.1.n y1686 b123,.row p65 rv64.1.length k66 c68 56 5,.row p1402 rv1401.1.length k1403 c1405 56 5] [Sq p45 k46 rv44.1.Base.Channels,Sq p48 k49 rv44.1.Changes,MkA y1686 sv1579.1,j6 c68 rv64.1,j6 c1405 rv1401.1] w) (sv672.1,0) u ⟨y1035,Sv1406,wj s d [1,2,3,0] [1,2,3,4,0]⟩ ?_)
  repeat clear u
  rintro sv1579 a w tv1741 ⟨y1686,Sv1687,s,d⟩ u hd1740
  refine sz0 1 s rfl fun a s=>?_
  refine wp_seq (cd s u rfl (fun u=>?_) fun u=>?_)
  ·refine sk (wp_seq (wp_block (sr ?_)))
   obtain ⟨x1799,h1797,u⟩:=bt u
   obtain ⟨b1806,q1803,c1804,h1807,h1800,h1801,h1805,h1798⟩:=d.elemRV (α:=Affected) 3 rfl 4 rfl h1797
   have hsv1808:=s
   have hwv1809:=d
   subst h1807
   have s:=hsv1808
   have d:=hwv1809
   obtain ⟨_,_,_,_,_,rfl,rfl,rfl,rfl,rfl,⟨p1810,n1811,k1812,rfl,h1813⟩⟩:=h1798
   obtain rfl:=h1813.1
   have d:=d.addE (e:=SlA p1810 _ k1812 x1799.Spans) h1813
   refine sv s (o8 runUnderlying48 sizeOf56 rfl rfl h1800.1 h1800.2 h1801) rfl fun a s=>?_
   refine sv s (Q0 (j:=0) (d.ownAt 3 rfl) rfl isAgg56 sizeOf56 h1805 rfl rfl) rfl fun a s=>?_
   refine wa Z22 s d zeroValue56 fun b1814 a w s d=>?_
   refine ws (C56 x1799 p1810 k1812) s d 0 rfl rfl rfl sizeOf56 fun a w s d=>?_
   refine nl (wp_seq (wp_seq ?_))
   obtain ⟨x1817,h1815,u⟩:=bt u
   obtain ⟨b1823,o1824,q1821,c1822,h1825,h1818,h1819,h1820,h1816⟩:=d.elemV 2 rfl h1815
   have hsv1826:=s
   have hwv1827:=d
   subst h1825
   have s:=hsv1826
   have d:=hwv1827
   obtain ⟨_,_,_,_,_,_,_,_,_,_,_,_,_,_,rfl,rfl,rfl,rfl,rfl,rfl,rfl,rfl,rfl,rfl,rfl,rfl,rfl,rfl,⟨p1828,n1829,k1830,rfl,h1831⟩⟩:=h1816
   obtain rfl:=h1831.1
   have d:=(d.addE (e:=SlA p1828 _ k1830 x1817.Epoch.Response.Stages) h1831).addE h1820
   refine y9 (fun a w=>∃ Sv1832,Sl 135 [(4,pt b60),(5,iv n62),(6,sl p65 k66 rv64.1),(12,.map (some b123)),(13,iv sv672.2),(17,pt b1814),(92,sl (ad b1806) k1403 rv1401.1),(93,iv (rv1401.1.length:Int)),(94,iv sv1579.2),(106,.bool (!((x1799.Source.Network == x1817.Source.Network) && ((x1799.Source.Station == x1817.Source.Station) && ((x1799.Source.Location == x1817.Source.Location) && ((x1799.Source.Channel == x1817.Source.Channel) && true))))))] a∧Wd ⟨w0,S0,[]⟩ Sv1832 [.box b60 (C65 rv44.1 p45 k46 (some ⟨b1823,o1824,none⟩) k49) 65,mkR Tryz.prog 32 (.slice none 0 0) sv1579.1.n y1686 b123,.box b1814 (C56 x1799 p1810 k1812) 56,.row p65 rv64.1.length k66 c68 56 5,.row (ad b1806) rv1401.1.length k1403 c1405 56 5] [Sq p45 k46 rv44.1.Base.Channels,Sq (some ⟨b1823,o1824,none⟩) k49 rv44.1.Changes,MkA y1686 sv1579.1,Sq p1810 k1812 x1799.Spans,j6 c68 rv64.1,j6 c1405 rv1401.1] w) ?_ ?_
   ·refine h_c [0,1,2,3,4] [0,5] d rfl rfl (by kernel_rfl) rfl fun hC d=>?_
    refine gn 5 [0,1,2,3,4] [0,1] s hC rfl rfl rfl fun a s=>?_
    refine gx s 5 rfl trivial rfl hC runUnderlying63 sizeOf43 rfl rfl h1818 h1819 fun a s=>?_
    refine gv s 6 rfl rfl hC (fun w hC=>j5 (o':=q1821+1) runUnderlying43 rfl sizeOf32 rfl rfl rfl) fun a s=>?_
    refine gv s 7 rfl rfl hC (fun w hC=>D9 (j:=1) (hC.ceAt 0 rfl) rfl isAgg32 sizeOf32 rfl rfl) fun a s=>?_
    refine gv s 8 rfl rfl hC (fun w hC=>a7v (by kernel_rfl) rfl rfl (P6 runUnderlying32 (by kernel_rfl) (EqF.cons1 rfl isAgg9 rfl rfl (J3 runUnderlying9) (EqF.cons1 rfl isAgg9 rfl rfl (J3 runUnderlying9) (EqF.cons1 rfl isAgg9 rfl rfl (J3 runUnderlying9) (EqF.cons1 rfl isAgg9 rfl rfl (J3 runUnderlying9) EqF.nil)))))) fun a s=>?_
    refine x8 (by kernel_rfl) ?_
    exact ⟨Sv1687,wj s d [1,2,0,3,4] [3,4,5,2,6,7]⟩
   rintro a w ⟨Sv1832,s,d⟩
   refine tn (cd s u rfl (fun u=>?_) fun u=>?_)
   ·refine sz0 1 s rfl fun a s=>?_
    obtain rfl:=oi u
    have h1835:=hd1740 _ rfl
    subst h1835
    have h1836:=hd1217 _ rfl
    subst h1836
    exact wp_ret (j3 (r9 (j3 (j3 (r9 (r9 (j3 (j3 (r9 (j3 (rt s rfl (d.ret rfl))))))))))))
   refine sk ?_
   obtain ⟨g1838,h1837,u⟩:=bt u
   obtain ⟨rv1842,h1841,u⟩:=bt u
   obtain ⟨m1849,h1847,u⟩:=bt u
   refine y9 (fun a w=>∃ (Sv1850:_) (y1848:SourceID→Value),Sl 135 [(4,pt b60),(5,iv n62),(6,sl p65 k66 rv64.1),(12,.map (some b123)),(13,iv sv672.2),(92,sl (ad b1806) k1403 rv1401.1),(93,iv (rv1401.1.length:Int)),(94,iv sv1579.2)] a∧Wd ⟨w0,S0,[]⟩ Sv1850 [.box b60 (C65 rv44.1 p45 k46 (some ⟨b1823,o1824,none⟩) k49) 65,mkR Tryz.prog 32 (.slice none 0 0) m1849.n y1848 b123,.row p65 rv64.1.length k66 c68 56 5,.row (ad b1806) rv1401.1.length k1403 c1405 56 5] [Sq p45 k46 rv44.1.Base.Channels,Sq (some ⟨b1823,o1824,none⟩) k49 rv44.1.Changes,MkA y1848 m1849,j6 c68 rv64.1,j6 c1405 rv1401.1] w) ?_ ?_
   ·refine h_c [0,2,3,4] [2] d rfl rfl (by kernel_rfl) rfl fun hC d=>?_
    refine gn 8 [0,1,2,3,4,5,7,8] [1,1,1] s hC rfl rfl rfl fun a s=>?_
    refine ho 6 rfl ?_
    refine b3h (s:=x1799.Source) s d rfl trivial (d.ownAt 1 rfl) (d.envAt 2 rfl) kok32 underlying80 zeroValue50 rfl rfl h1837 ?_
    intro p1839 k1840 a s d
    refine h_n [0,2,3,4] [3] d rfl rfl fun hC=>?_
    refine ho 9 rfl ?_
    refine cR s (b0z h1841 d.dom (d.envAt 0 rfl) (d.envAt 4 rfl)) (d9 call29 rfl) rfl ?_
    rintro v1854 Sv1851 w a h1852 ⟨p1843,k1844,c1846,rfl,h1855,h1845⟩ s
    have d:=(d.callN h1852 h1855).addE (e:=j6 c1846 rv1842) h1845
    refine h_n [1,3,4,5] [4] d rfl rfl fun hC=>?_
    refine ho 10 rfl ?_
    obtain ⟨Sv1857,d⟩:=A9 (α:=Span) d 0 rfl 0 rfl
    refine w_updK (m:=sv1579.1) (s:=x1799.Source) (v:=rv1842) (et:=50) s d 1 rfl (d.envAt 5 rfl) kok32 underlying80 rfl rfl rfl ⟨_,rfl,_,_,_,rfl,d.envAt 0 rfl⟩ h1847 trivial ?_
    intro y1848 a w s d
    refine h_n [0,2,3,4] [6] d rfl rfl fun hC=>?_
    refine x8 (by kernel_rfl) ?_
    exact ⟨Sv1857,y1848,wj s d [0,1,3,4] [4,5,0,8,9]⟩
   rintro a w ⟨Sv1850,y1848,s,d⟩
   refine l9 (tn (wp_region_lit (rz0 2 s rfl fun a s=>?_)))
   exact ⟨_,io u,y1848,Sv1850,wj s d [0,1,2,3] [0,1,2,3,4]⟩
  obtain ⟨rv1860,u,h1861⟩:=Y7 u
  have h1861:=(hd1740 _ h1861.symm).symm
  subst h1861
  refine wp_exit (j4 (j4 (o9 (l9 (tn (wp_region_lit (rn0 2 s rfl fun a s=>?_)))))))
  obtain ⟨i1859,h1858,u⟩:=bt u
  refine sv s (q8 rfl h1858) rfl fun a s=>?_
  exact nl ⟨_,io u,y1686,Sv1687,wj s d [0,1,2] [0,1,2,3]⟩
 obtain ⟨rv2140,u,h2141⟩:=Y7 u
 have h2141:=(hd1217 _ h2141.symm).symm
 subst h2141
 refine wp_exit (j4 (j4 (o9 (tn (wp_seq (sz0 3 s rfl fun a s=>?_))))))
 refine wp_block (u7 (fun sv1960 a w=>∃ Sv2024,Sl 135 [(12,.map (some b123)),(118,sl p65 k66 rv64.1),(119,iv (rv64.1.length:Int)),(120,iv sv1960)] a∧Wd ⟨w0,S0,[]⟩ Sv2024 [mkR Tryz.prog 32 (.slice none 0 0) sv672.1.n y1035 b123,.row p65 rv64.1.length k66 c68 56 5] [MkA y1035 sv672.1,j6 c68 rv64.1] w) 0 u ⟨Sv1036,wj s d [1,2] [2,3]⟩ ?_)
 repeat clear u
 rintro sv1960 a w tv2057 ⟨Sv2024,s,d⟩ u hd2056
 refine sz0 1 s rfl fun a s=>?_
 refine wp_seq (cd s u rfl (fun u=>?_) fun u=>?_)
 ·refine sk (wp_seq (wp_block (sr ?_)))
  obtain ⟨x2094,h2092,u⟩:=bt u
  obtain ⟨b2101,q2098,c2099,h2102,h2095,h2096,h2100,h2093⟩:=d.elemRV (α:=Affected) 1 rfl 1 rfl h2092
  have hsv2103:=s
  have hwv2104:=d
  subst h2102
  have s:=hsv2103
  have d:=hwv2104
  obtain ⟨_,_,_,_,_,rfl,rfl,rfl,rfl,rfl,⟨p2105,n2106,k2107,rfl,h2108⟩⟩:=h2093
  obtain rfl:=h2108.1
  have d:=d.addE (e:=SlA p2105 _ k2107 x2094.Spans) h2108
  refine sv s (o8 runUnderlying48 sizeOf56 rfl rfl h2095.1 h2095.2 h2096) rfl fun a s=>?_
  refine sv s (Q0 (j:=0) (d.ownAt 1 rfl) rfl isAgg56 sizeOf56 h2100 rfl rfl) rfl fun a s=>?_
  refine wa Z22 s d zeroValue56 fun b2109 a w s d=>?_
  refine ws (C56 x2094 p2105 k2107) s d 0 rfl rfl rfl sizeOf56 fun a w s d=>?_
  refine nl (wp_seq ?_)
  obtain ⟨g2111,h2110,u⟩:=bt u
  obtain ⟨rv2115,h2114,u⟩:=bt u
  refine y9 (fun a w=>∃ Sv2120,Sl 135 [(12,.map (some b123)),(118,sl (ad b2101) k66 rv64.1),(119,iv (rv64.1.length:Int)),(120,iv sv1960),(132,.bool (decide (0<(rv2115.length:Int))))] a∧Wd ⟨w0,S0,[]⟩ Sv2120 [mkR Tryz.prog 32 (.slice none 0 0) sv672.1.n y1035 b123,.row (ad b2101) rv64.1.length k66 c68 56 5] [MkA y1035 sv672.1,j6 c68 rv64.1] w) ?_ ?_
  ·refine h_c [0,2] [1] d rfl rfl (by kernel_rfl) rfl fun hC d=>?_
   refine gn 5 [0,1,2,3,4] [0,0] s hC rfl rfl rfl fun a s=>?_
   refine ho 5 rfl ?_
   refine b3h (s:=x2094.Source) s d rfl trivial (d.ownAt 1 rfl) (d.envAt 1 rfl) kok32 underlying80 zeroValue50 rfl rfl h2110 ?_
   intro p2112 k2113 a s d
   refine h_n [0,2] [2] d rfl rfl fun hC=>?_
   refine ho 6 rfl ?_
   refine cR s (b0y h2114 d.dom (d.envAt 1 rfl) (d.envAt 0 rfl)) (d9 call17 rfl) rfl ?_
   rintro v2124 Sv2121 w a h2122 ⟨p2116,k2117,c2119,rfl,h2125,h2118⟩ s
   have d:=(d.callN h2122 h2125).addE (e:=j6 c2119 rv2115) h2118
   refine h_n [1,3] [3] d rfl rfl fun hC=>?_
   refine h_d [1,3,0] [3] [0,1] [0] d rfl rfl rfl rfl fun hC=>?_
   refine gn 2 [7,8] [] s hC rfl rfl rfl fun a s=>?_
   refine x8 (by kernel_rfl) ?_
   exact ⟨Sv2121,wj s d [2,3] [3,4]⟩
  rintro a w ⟨Sv2120,s,d⟩
  refine tn (cd s u rfl (fun u=>?_) fun u=>?_)
  ·refine sz0 1 s rfl fun a s=>?_
   obtain rfl:=oi u
   have h2129:=hd2056 _ rfl
   subst h2129
   exact wp_ret (r9 (j3 (j3 (r9 (j3 (rt s rfl (d.ret rfl)))))))
  refine wp_skip (l9 (tn (wp_region_lit (rz0 2 s rfl fun a s=>?_))))
  exact ⟨_,io u,Sv2120,wj s d [0,1] [0,1]⟩
 obtain ⟨rv2138,u,h2139⟩:=Y7 u
 have h2139:=(hd2056 _ h2139.symm).symm
 subst h2139
 refine wp_exit (j4 (j4 (o9 (tn (sr ?_)))))
 obtain ⟨rv2131,h2130,u⟩:=bt u
 refine cV s d (a7W h2130 d.bdom) (d9 call10 rfl) rfl fun a w s d=>?_
 refine rz0 1 s rfl fun a s=>?_
 obtain rfl:=oi u
 exact q1 s rfl (d.ret rfl)
end Go.Proofs.YteanekphncdhiaaGreat.Wk

/- The walks of RevisionExact, part 3: each Go function computes what its plain program computes. Printed by a program of ours. -/
import Derived.Test.YteanekphncdhiaaGreatProg
import Derived.Test.YteanekphncdhiaaGreatDat
import Derived.Test.YteanekphncdhiaaGreatSh
import Derived.Test.YteanekphncdhiaaGreatLa1
import Derived.Test.YteanekphncdhiaaGreatLa2
import Derived.Test.YteanekphncdhiaaGreatLibCh
import Derived.KernelRfl
import Derived.Test.YteanekphncdhiaaGreatLb1
import Derived.Shelf.SlLaysF0
import Derived.Test.YteanekphncdhiaaGreatWRevisionExact2
namespace Go.Proofs.YteanekphncdhiaaGreat.Wk
open Go Go.RowKit Go.Proofs Go.Proofs.YteanekphncdhiaaGreat.Sh Go.Proofs.Tryz
set_option linter.unusedVariables false
set_option linter.unusedSimpArgs false
set_option maxHeartbeats 4000000
set_option maxRecDepth 100000
theorem b2q {w0 S0 p2 k3 r1 r} (u:a4p r1=some r) (hS:Dm S0 w0) (h4:(Sq p2 k3 r1.Stages).p S0 w0):Ck Tryz.prog 113 #[.agg #[sl p2 k3 r1.Stages]] w0 S0 [] o5 r:=by
 refine en 40 func113 y hS y y y fun a s d=>?_
 have d:=d.addE h4
 refine sr (wb [sl p2 k3 r1.Stages] s d y fun b5 a w s d=>?_)
 refine rz0 1 s y fun a s=>sz0 1 s y fun a s=>l3 (sz0 1 s y fun a s=>?_)
 refine m6 (u7 (fun b a w=>∃ c,Sl 40 [(1,pt b5),(3,iv b.1),(4,iv b.2)] a∧Wd ⟨w0,S0,[]⟩ c [.box b5 [sl p2 k3 r1.Stages] 39] [Sq p2 k3 r1.Stages] w) (1,0) u ⟨S0,wj s d [0] [0]⟩ ?_)
 repeat clear u
 rintro b a w A ⟨c,s,d⟩ u g
 refine l3 (sz 5 [0] s d y y fun a s=>?_)
 refine cd s u y (fun u=>?_) fun u=>?_
 ·refine sk (l3 (m6 (l3 (sn 3 [0] s d y y fun a s=>?_))))
  obtain ⟨ac,B,u⟩:=bt u
  obtain ⟨k,z,ao,ah,F,l,D,E,C⟩:=d.elemV 0 y B
  have v:=s
  have x:=d
  subst F
  have s:=v
  have d:=x
  obtain ⟨_,_,_,_,_,_,_,_,_,_,rfl,rfl,rfl,rfl,rfl,rfl,rfl,rfl,⟨X,al,T,rfl,m⟩,rfl,rfl⟩:=C
  obtain rfl:=m.1
  have d:=(d.addE (e:=SlA X _ T ac.Taps) m).addE E
  refine sv s (o7 C4 C0 y y l.1 l.2 D) y fun a s=>sv s (D5 (j:=0) (d.ceAt 0 y) y H1 C0 y y) y fun a s=>?_
  obtain ⟨af,G,u⟩:=bt u
  refine cV s d (a9o G d.bdom (d.bE 1 y)) (j3 call139 y) y fun a w s d=>rz0 1 s y fun a s=>cd s u y (fun u=>?_) fun u=>?_
  ·refine sz0 1 s y fun a s=>?_
   obtain rfl:=oi u
   have H:=g _ y
   subst H
   exact t7 (j4 (o8 (j4 (j4 (o8 (j4 (rt s y (d.ret y))))))))
  refine sk (sn 3 [0] s d y y fun a s=>?_)
  obtain ⟨ad,I,u⟩:=bt u
  obtain ⟨aa,ai,n,K,L,J⟩:=d.elemK 2 y I
  obtain ⟨_,_,_,_,_,_,_,_,_,_,rfl,rfl,rfl,rfl,rfl,rfl,rfl,rfl,⟨Y,am,U,rfl,o⟩,rfl,rfl⟩:=J
  obtain rfl:=o.1
  have d:=(d.addE (e:=SlA Y _ U ad.Taps) o).addE L
  refine sv s (o7 C4 C0 y y n.1 n.2 K) y fun a s=>sv s (l7 (o':=aa+0) y6 y m8 y y y) y fun a s=>sv s (F5 (j:=0) (d.ceAt 0 y) y s8 y) y fun a s=>rz0 1 s y fun a s=>A7 (fun a w=>∃ (i:Int) (f:_),a2X b i=some A∧Sl 40 [(1,pt b5),(3,iv i),(4,iv b.2)] a∧Wd ⟨w0,S0,[]⟩ f [.box b5 [sl (some ⟨k,z,none⟩) k3 r1.Stages] 39] [Sq (some ⟨k,z,none⟩) k3 r1.Stages] w) ?_ ?_
  ·refine cd s u y (fun u=>?_) fun u=>?_
   ·refine sn 4 [0] s d y y fun a s=>?_
    obtain ⟨ae,N,u⟩:=bt u
    obtain ⟨ab,aj,q,P,Q,O⟩:=d.elemK 4 y N
    obtain ⟨_,_,_,_,_,_,_,_,_,_,rfl,rfl,rfl,rfl,rfl,rfl,rfl,rfl,⟨Z,an,V,rfl,t⟩,rfl,rfl⟩:=O
    obtain rfl:=t.1
    have d:=(d.addE (e:=SlA Z _ V ae.Taps) t).addE Q
    refine sv s (o7 C4 C0 y y q.1 q.2 P) y fun a s=>sv s (l7 (o':=ab+8) y6 y m8 y y y) y fun a s=>sv s (F5 (j:=8) (d.ceAt 0 y) y s8 y) y fun a s=>sv s (y_mul y y) y fun a s=>?_
    obtain ⟨W,R,u⟩:=bt u
    refine sv s (w9 y R) y fun a s=>nl (sz0 2 s y fun a s=>?_)
    refine cd s u y (fun u=>?_) fun u=>?_
    ·refine sz0 1 s y fun a s=>?_
     obtain rfl:=oi u
     have S:=g _ y
     subst S
     exact t7 (j4 (o8 (j4 (j4 (o8 (j4 (rt s y (d.ret y))))))))
    exact sk ⟨W,c,u,wj s d [0] [6]⟩
   exact sk ⟨b.1,c,u,wj s d [0] [4]⟩
  rintro a w ⟨i,f,u,s,d⟩
  refine l9 (tn (j9 (rn0 2 s y fun a s=>?_)))
  obtain ⟨ak,M,u⟩:=bt u
  refine sv s (w9 y M) y fun a s=>nl ⟨_,io u,f,wj s d [0] [0]⟩
 obtain ⟨ag,u,h⟩:=X5 u
 have h:=(g _ h.symm).symm
 subst h
 refine u0 (j5 (j5 (o9 (tn (sz 5 [0] s d y y fun a s=>?_)))))
 obtain rfl:=oi u
 exact q1 s y (d.ret y)
theorem a1z {w0 S0 p2 k3 e1 r} (u:a1F e1=some r) (hS:Dm S0 w0) (h4:(Sq p2 k3 e1.Response.Stages).p S0 w0):Ck Tryz.prog 65 #[V41 e1 p2 k3] w0 S0 [] o5 r:=by
 refine en 46 func65 y hS y y y fun a s d=>?_
 have d:=d.addE h4
 refine sr (wb (C41 e1 p2 k3) s d y fun b5 a w s d=>?_)
 refine rz0 1 s y fun a s=>sn 2 [0] s d y y fun a s=>wa [iv 0,iv 0,iv 0] s d zeroValue36 fun b6 a w s d=>ws (C36 e1.Position) s d 0 y y y K1 fun a w s d=>nl (sn 4 [1] s d y y fun a s=>?_)
 refine rA 6 9 [1,1] s d y y y y y fun a s=>mv s y y fun a s=>rA 4 16 [1] s d y y y y y fun a s=>mv s y y fun a s=>?_
 obtain ⟨v,m,u⟩:=bt u
 refine y7 4 (fun a w=>∃ b,Sl 46 [(1,pt b5),(3,pt b6),(25,.bool v)] a∧Wd ⟨w0,S0,[]⟩ b [.box b5 (C41 e1 p2 k3) 41,.box b6 (C36 e1.Position) 36] [Sq p2 k3 e1.Response.Stages] w) ?_ ?_
 ·rcases j0 (((decide (0≤e1.From)) && (decide (e1.From<e1.To))) && (decide (e1.To≤9007199254740992))) with g | g
  ·have s:=s.bT 21 y g
   have u:=D7 m g
   refine rn 2 [1] s d y y fun a s=>?_
   obtain ⟨R,C,u⟩:=bt u
   refine x9 s (b2n C d.bdom) (j3 call112 y) ⟨_,y,y⟩ y y ?_
   rintro X M w a D rfl s
   have d:=d.callB D
   refine sv s (I6 y y) y fun a s=>l4 ?_
   obtain rfl:=oi u
   exact tn ⟨S0,wj s d [1,0] [0]⟩
  have s:=s.bF 21 y g
  have u:=E8 m g
  refine rn0 4 s y fun a s=>l4 ?_
  obtain rfl:=oi u
  exact tn ⟨S0,wj s d [1,0] [0]⟩
 rintro a w ⟨b,s,d⟩
 refine mv s y y fun a s=>?_
 obtain ⟨x,n,u⟩:=bt u
 refine y7 4 (fun a w=>∃ c,Sl 46 [(3,pt b6),(30,.bool x)] a∧Wd ⟨w0,S0,[]⟩ c [.box b6 (C36 e1.Position) 36] [] w) ?_ ?_
 ·rcases j0 v with h | h
  ·have s:=s.bT 26 y h
   have u:=D7 n h
   refine rn 2 [0] s d y y fun a s=>?_
   obtain ⟨S,E,u⟩:=bt u
   refine x9 s (b2q E d.bdom (d.bE 0 y)) (j3 call113 y) ⟨_,y,y⟩ y y ?_
   rintro Y N w a F rfl s
   have d:=d.callB F
   refine sv s (I6 y y) y fun a s=>l4 ?_
   obtain rfl:=oi u
   exact tn ⟨b,wj s d [1] []⟩
  have s:=s.bF 26 y h
  have u:=E8 n h
  refine rn0 4 s y fun a s=>l4 ?_
  obtain rfl:=oi u
  exact tn ⟨b,wj s d [1] []⟩
 rintro a w ⟨c,s,d⟩
 refine mv s y y fun a s=>?_
 obtain ⟨z,o,u⟩:=bt u
 refine y7 4 (fun a w=>∃ e,Sl 46 [(3,pt b6),(35,.bool z)] a∧Wd ⟨w0,S0,[]⟩ e [.box b6 (C36 e1.Position) 36] [] w) ?_ ?_
 ·rcases j0 x with i | i
  ·have s:=s.bT 31 y i
   have u:=D7 o i
   refine rn 2 [0] s d y y fun a s=>?_
   obtain ⟨T,G,u⟩:=bt u
   refine x9 s (P9 G d.bdom) (j3 call64 y) ⟨_,y,y⟩ y y ?_
   rintro Z O w a H rfl s
   have d:=d.callB H
   refine sv s (I6 y y) y fun a s=>l4 ?_
   obtain rfl:=oi u
   exact tn ⟨c,wj s d [0] []⟩
  have s:=s.bF 31 y i
  have u:=E8 o i
  refine rn0 4 s y fun a s=>l4 ?_
  obtain rfl:=oi u
  exact tn ⟨c,wj s d [0] []⟩
 rintro a w ⟨e,s,d⟩
 refine mv s y y fun a s=>?_
 obtain ⟨A,q,u⟩:=bt u
 refine y7 4 (fun a w=>∃ f,Sl 46 [(3,pt b6),(40,.bool A)] a∧Wd ⟨w0,S0,[]⟩ f [.box b6 (C36 e1.Position) 36] [] w) ?_ ?_
 ·rcases j0 z with j | j
  ·have s:=s.bT 36 y j
   have u:=D7 q j
   refine rn 2 [0] s d y y fun a s=>?_
   obtain ⟨U,I,u⟩:=bt u
   refine x9 s (P9 I d.bdom) (j3 call64 y) ⟨_,y,y⟩ y y ?_
   rintro aa P w a J rfl s
   have d:=d.callB J
   refine sv s (I6 y y) y fun a s=>l4 ?_
   obtain rfl:=oi u
   exact tn ⟨e,wj s d [0] []⟩
  have s:=s.bF 36 y j
  have u:=E8 q j
  refine rn0 4 s y fun a s=>l4 ?_
  obtain rfl:=oi u
  exact tn ⟨e,wj s d [0] []⟩
 rintro a w ⟨f,s,d⟩
 refine mv s y y fun a s=>?_
 obtain ⟨B,t,u⟩:=bt u
 refine y7 4 (fun a w=>∃ l,Sl 46 [(45,.bool B)] a∧Wd ⟨w0,S0,[]⟩ l [] [] w) ?_ ?_
 ·rcases j0 A with k | k
  ·have s:=s.bT 41 y k
   have u:=D7 t k
   refine rn 2 [0] s d y y fun a s=>?_
   obtain ⟨V,K,u⟩:=bt u
   refine x9 s (P9 K d.bdom) (j3 call64 y) ⟨_,y,y⟩ y y ?_
   rintro W Q w a L rfl s
   have d:=d.callB L
   refine sv s (I6 y y) y fun a s=>l4 ?_
   obtain rfl:=oi u
   exact tn ⟨f,wj s d [] []⟩
  have s:=s.bF 41 y k
  have u:=E8 t k
  refine rn0 4 s y fun a s=>l4 ?_
  obtain rfl:=oi u
  exact tn ⟨f,wj s d [] []⟩
 rintro a w ⟨l,s,d⟩
 refine rz0 1 s y fun a s=>?_
 obtain rfl:=oi u
 exact q1 s y (d.ret y)
theorem a4N {w0 S0 p2 k3 b r} (u:a2Z b=some r) (hS:Dm S0 w0) (h4:(Sq p2 k3 b.Channels).p S0 w0):Ck Tryz.prog 18 #[.agg #[sl p2 k3 b.Channels]] w0 S0 [] o5 r:=by
 refine en 84 func18 y hS y y y fun a s d=>?_
 have d:=d.addE h4
 refine sr (wb [sl p2 k3 b.Channels] s d y fun b5 a w s d=>?_)
 refine rz0 1 s y fun a s=>l3 (sz0 1 s y fun a s=>?_)
 refine m6 (u7 (fun A a w=>∃ c,Sl 84 [(1,pt b5),(3,iv A)] a∧Wd ⟨w0,S0,[]⟩ c [.box b5 [sl p2 k3 b.Channels] 29] [Sq p2 k3 b.Channels] w) 0 u ⟨S0,wj s d [0] [0]⟩ ?_)
 repeat clear u
 rintro A a w bA ⟨c,s,d⟩ u L
 refine l3 (sz 5 [0] s d y y fun a s=>?_)
 refine cd s u y (fun u=>?_) fun u=>?_
 ·refine sk (l3 (m6 (sn 3 [0] s d y y fun a s=>?_)))
  obtain ⟨h,az,u⟩:=bt u
  obtain ⟨m,x,bQ,bC,aD,ab,aB,aC,aA⟩:=d.elemV 0 y az
  have ap:=s
  have ar:=d
  subst aD
  have s:=ap
  have d:=ar
  obtain ⟨_,_,_,_,_,rfl,rfl,rfl,rfl,rfl,⟨z,bL,g,rfl,ac⟩⟩:=aA
  obtain rfl:=ac.1
  have d:=(d.addE (e:=SlA z _ g h.Epochs) ac).addE aC
  refine sv s (o7 m5 o3 y y ab.1 ab.2 aB) y fun a s=>sv s (D5 (j:=0) (d.ceAt 0 y) y F2 o3 y y) y fun a s=>wa Z2 s d zeroValue73 fun n a w s d=>ws (C73 h z g) s d 0 y y y o3 fun a w s d=>nl (l3 (l3 ?_))
  obtain ⟨av,B,u⟩:=bt u
  obtain ⟨M,U,u⟩:=bt u
  obtain ⟨ax,l,u⟩:=bt u
  refine C7 (fun a w=>∃ J,Sl 84 [(1,pt b5),(3,iv A),(4,pt n),(45,.bool ax)] a∧Wd ⟨w0,S0,[]⟩ J [.box b5 [sl (some ⟨m,x,none⟩) k3 b.Channels] 29,.box n (C73 h z g) 73] [Sq (some ⟨m,x,none⟩) k3 b.Channels,Sq z g h.Epochs] w) ?_ ?_
  ·rcases j0 (!av) with f | f
   ·have ad:=D7 U f
    have ae:M=true:=(Option.some.inj ad).symm
    have aE:=D7 l ae
    refine h_c [0,1] [0] d y y (by kernel_rfl) y fun hC d=>gn 2 [0,1] [0] s hC y y y fun a s=>ho 2 y ?_
    refine cV s d (a1E B d.bdom) (j3 call62 y) y fun a w s d=>h_n [0,1] [0] d y y fun hC=>gn 2 [3,4] [] s hC y y y fun a s=>?_
    have s:=s.bT 22 y f
    refine gn 15 [5,6,7,8,9,10,11,12,13,14,15,16,17,18,19] [] s hC y y y fun a s=>gT s 20 y y hC y y ad fun a s=>gm s 21 y y y hC fun a s=>?_
    have s:=s.bT 39 y ae
    refine gn 5 [22,23,24,25,26] [] s hC y y y fun a s=>gT s 27 y y hC y y aE fun a s=>q9 (by kernel_rfl) ?_
    exact ⟨c,wj s d [1,0] [2,1]⟩
   have o:=E8 U f
   obtain ⟨H,V,o⟩:=K3 o
   rcases j0 (decide (0<A)) with k | k
   ·have q:=D7 V k
    obtain ⟨bl,aF,q⟩:=K3 q
    obtain ⟨ao,bD,af,ag,aH,aG⟩:=d.elemK 2 y aF
    obtain ⟨_,_,_,_,_,rfl,rfl,rfl,rfl,rfl,⟨bf,bM,bb,rfl,ah⟩⟩:=aG
    obtain rfl:=ah.1
    have d:=(d.addE (e:=SlA bf _ bb bl.Epochs) ah).addE aH
    obtain ⟨bu,ai,q⟩:=K3 q
    rcases j0 M with C | C
    ·have aI:=D7 l C
     refine h_c [0,1] [0,2] d y y (by kernel_rfl) y fun hC d=>gn 2 [0,1] [0] s hC y y y fun a s=>ho 2 y ?_
     refine cV s d (a1E B d.bdom) (j3 call62 y) y fun a w s d=>h_n [0,1] [0,2] d y y fun hC=>gn 2 [3,4] [] s hC y y y fun a s=>?_
     have s:=s.bF 22 y f
     refine gn 3 [5,6,7] [] s hC y y y fun a s=>?_
     have s:=s.bT 25 y k
     refine gn 4 [8,9,10,11] [1] s hC y y y fun a s=>gx s 12 y ⟨_,y,y⟩ y hC m5 o3 y y af ag fun a s=>gt s 13 y ⟨_,y,y⟩ y hC (fun w hC=>l7 (o':=ao+0) u9 y s6 y y y) fun a s=>gt s 14 y ⟨_,y,y⟩ y hC (fun w hC=>D5 (j:=0) (hC.ceAt 0 y) y B9 s6 y y) fun a s=>gn 2 [15,16] [0] s hC y y y fun a s=>ho 17 y ?_
     refine x9 s (a3n ai d.bdom) (j3 call63 y) ⟨_,y,y⟩ y y ?_
     rintro bS bp w a aJ rfl s
     have d:=d.callB aJ
     refine h_n [0,1] [0,2] d y y fun hC=>gt s 18 y ⟨_,y,y⟩ y hC (fun w hC=>a9C y y) fun a s=>gt s 19 y ⟨_,y,y⟩ y hC (fun w hC=>a6H (v:=.bool H) y y (vbs q)) fun a s=>gF s 20 y y hC y y o fun a s=>gm s 21 y y y hC fun a s=>?_
     have s:=s.bT 39 y C
     refine gn 5 [22,23,24,25,26] [] s hC y y y fun a s=>gT s 27 y y hC y y aI fun a s=>q9 (by kernel_rfl) ?_
     exact ⟨c,wj s d [1,0] [4,3]⟩
    have N:=E8 l C
    obtain ⟨bv,aK,N⟩:=K3 N
    refine h_c [0,1] [0,2] d y y (by kernel_rfl) y fun hC d=>gn 2 [0,1] [0] s hC y y y fun a s=>ho 2 y ?_
    refine cV s d (a1E B d.bdom) (j3 call62 y) y fun a w s d=>h_n [0,1] [0,2] d y y fun hC=>gn 2 [3,4] [] s hC y y y fun a s=>?_
    have s:=s.bF 22 y f
    refine gn 3 [5,6,7] [] s hC y y y fun a s=>?_
    have s:=s.bT 25 y k
    refine gn 4 [8,9,10,11] [1] s hC y y y fun a s=>gx s 12 y ⟨_,y,y⟩ y hC m5 o3 y y af ag fun a s=>gt s 13 y ⟨_,y,y⟩ y hC (fun w hC=>l7 (o':=ao+0) u9 y s6 y y y) fun a s=>gt s 14 y ⟨_,y,y⟩ y hC (fun w hC=>D5 (j:=0) (hC.ceAt 0 y) y B9 s6 y y) fun a s=>gn 2 [15,16] [0] s hC y y y fun a s=>ho 17 y ?_
    refine x9 s (a3n ai d.bdom) (j3 call63 y) ⟨_,y,y⟩ y y ?_
    rintro bU bq w a aL rfl s
    have d:=d.callB aL
    refine h_n [0,1] [0,2] d y y fun hC=>gt s 18 y ⟨_,y,y⟩ y hC (fun w hC=>a9C y y) fun a s=>gt s 19 y ⟨_,y,y⟩ y hC (fun w hC=>a6H (v:=.bool H) y y (vbs q)) fun a s=>gF s 20 y y hC y y o fun a s=>gm s 21 y y y hC fun a s=>?_
    have s:=s.bF 39 y C
    refine gn 3 [22,23,24] [0] s hC y y y fun a s=>ho 25 y ?_
    refine x9 s (P9 aK d.bdom) (j3 call64 y) ⟨_,y,y⟩ y y ?_
    rintro bV br w a aM rfl s
    have d:=d.callB aM
    refine h_n [0,1] [0,2] d y y fun hC=>gt s 26 y ⟨_,y,y⟩ y hC (fun w hC=>a5Z y) fun a s=>gF s 27 y y hC y y N fun a s=>q9 (by kernel_rfl) ?_
    exact ⟨c,wj s d [1,0] [4,3]⟩
   have aj:=E8 V k
   rcases j0 M with D | D
   ·have aN:=D7 l D
    refine h_c [0,1] [0] d y y (by kernel_rfl) y fun hC d=>gn 2 [0,1] [0] s hC y y y fun a s=>ho 2 y ?_
    refine cV s d (a1E B d.bdom) (j3 call62 y) y fun a w s d=>h_n [0,1] [0] d y y fun hC=>gn 2 [3,4] [] s hC y y y fun a s=>?_
    have s:=s.bF 22 y f
    refine gn 3 [5,6,7] [] s hC y y y fun a s=>?_
    have s:=s.bF 25 y k
    refine gn 11 [8,9,10,11,12,13,14,15,16,17,18] [] s hC y y y fun a s=>gt s 19 y ⟨_,y,y⟩ y hC (fun w hC=>a7x (v:=.bool H) y y (vbs aj)) fun a s=>gF s 20 y y hC y y o fun a s=>gm s 21 y y y hC fun a s=>?_
    have s:=s.bT 39 y D
    refine gn 5 [22,23,24,25,26] [] s hC y y y fun a s=>gT s 27 y y hC y y aN fun a s=>q9 (by kernel_rfl) ?_
    exact ⟨c,wj s d [1,0] [2,1]⟩
   have O:=E8 l D
   obtain ⟨bw,aO,O⟩:=K3 O
   refine h_c [0,1] [0] d y y (by kernel_rfl) y fun hC d=>gn 2 [0,1] [0] s hC y y y fun a s=>ho 2 y ?_
   refine cV s d (a1E B d.bdom) (j3 call62 y) y fun a w s d=>h_n [0,1] [0] d y y fun hC=>gn 2 [3,4] [] s hC y y y fun a s=>?_
   have s:=s.bF 22 y f
   refine gn 3 [5,6,7] [] s hC y y y fun a s=>?_
   have s:=s.bF 25 y k
   refine gn 11 [8,9,10,11,12,13,14,15,16,17,18] [] s hC y y y fun a s=>gt s 19 y ⟨_,y,y⟩ y hC (fun w hC=>a7x (v:=.bool H) y y (vbs aj)) fun a s=>gF s 20 y y hC y y o fun a s=>gm s 21 y y y hC fun a s=>?_
   have s:=s.bF 39 y D
   refine gn 3 [22,23,24] [0] s hC y y y fun a s=>ho 25 y ?_
   refine x9 s (P9 aO d.bdom) (j3 call64 y) ⟨_,y,y⟩ y y ?_
   rintro bW bs w a aP rfl s
   have d:=d.callB aP
   refine h_n [0,1] [0] d y y fun hC=>gt s 26 y ⟨_,y,y⟩ y hC (fun w hC=>a5Z y) fun a s=>gF s 27 y y hC y y O fun a s=>q9 (by kernel_rfl) ?_
   exact ⟨c,wj s d [1,0] [2,1]⟩
  rintro a w ⟨J,s,d⟩
  refine tn (cd s u y (fun u=>?_) fun u=>?_)
  ·refine sz0 1 s y fun a s=>?_
   obtain rfl:=oi u
   have aQ:=L _ y
   subst aQ
   exact t7 (j4 (o8 (j4 (j4 (o8 (j4 (rt s y (d.ret y))))))))
  refine sk (sz0 1 s y fun a s=>?_)
  refine m6 (u7 (fun G a w=>∃ i,Sl 84 [(1,pt b5),(3,iv A),(4,pt n),(5,iv G)] a∧Wd ⟨w0,S0,[]⟩ i [.box b5 [sl (some ⟨m,x,none⟩) k3 b.Channels] 29,.box n (C73 h z g) 73] [Sq (some ⟨m,x,none⟩) k3 b.Channels,Sq z g h.Epochs] w) 0 u ⟨J,wj s d [0,1] [0,1]⟩ ?_)
  repeat clear u
  rintro G a w bB ⟨i,s,d⟩ u Y
  refine l3 (sz 5 [1] s d y y fun a s=>?_)
  refine cd s u y (fun u=>?_) fun u=>?_
  ·refine sk (l3 (m6 (l3 ?_)))
   obtain ⟨bm,aR,u⟩:=bt u
   obtain ⟨Z,an,bR,bG,aU,P,Q,aT,aS⟩:=d.elemV 1 y aR
   have aq:=s
   have au:=d
   subst aU
   have s:=aq
   have d:=au
   obtain ⟨_,_,_,_,_,_,_,_,rfl,rfl,rfl,rfl,rfl,rfl,rfl,rfl,⟨bg,bN,bc,rfl,ak⟩⟩:=aS
   obtain rfl:=ak.1
   have d:=(d.addE (e:=SlA bg _ bc bm.Response.Stages) ak).addE aT
   obtain ⟨aw,R,u⟩:=bt u
   obtain ⟨ay,W,u⟩:=bt u
   refine C7 (fun a w=>∃ K,Sl 84 [(1,pt b5),(3,iv A),(4,pt n),(5,iv G),(79,.bool ay)] a∧Wd ⟨w0,S0,[]⟩ K [.box b5 [sl (some ⟨m,x,none⟩) k3 b.Channels] 29,.box n (C73 h (some ⟨Z,an,none⟩) g) 73] [Sq (some ⟨m,x,none⟩) k3 b.Channels,Sq (some ⟨Z,an,none⟩) g h.Epochs] w) ?_ ?_
   ·rcases j0 (!aw) with t | t
    ·have aV:=D7 W t
     refine h_c [0,1] [0] d y y (by kernel_rfl) y fun hC d=>gn 3 [0,1,2] [1] s hC y y y fun a s=>gx s 3 y j8 y hC o4 t6 y y P Q fun a s=>gv s 4 y y hC (fun w hC=>D5 (j:=0) (hC.ceAt 0 y) y E3 t6 y y) fun a s=>ho 5 y ?_
     refine cV s d (a1z R d.bdom (d.bE 1 y)) (j3 call65 y) y fun a w s d=>h_n [0,1] [0] d y y fun hC=>gn 2 [6,7] [] s hC y y y fun a s=>?_
     have s:=s.bT 60 y t
     refine gn 18 [8,9,10,11,12,13,14,15,16,17,18,19,20,21,22,23,24,25] [] s hC y y y fun a s=>gT s 26 y y hC y y aV fun a s=>q9 (by kernel_rfl) ?_
     exact ⟨i,wj s d [0,1] [2,3]⟩
    have I:=E8 W t
    obtain ⟨aa,X,I⟩:=K3 I
    rcases j0 (decide (0<G)) with E | E
    ·have F:=D7 X E
     obtain ⟨bn,aW,F⟩:=K3 F
     obtain ⟨bj,bH,aY,aZ,a0,aX⟩:=d.elemK 3 y aW
     obtain ⟨_,_,_,_,_,_,_,_,rfl,rfl,rfl,rfl,rfl,rfl,rfl,rfl,⟨bh,bO,bd,rfl,al⟩⟩:=aX
     obtain rfl:=al.1
     have d:=(d.addE (e:=SlA bh _ bd bn.Response.Stages) al).addE a0
     obtain ⟨bo,a1,F⟩:=K3 F
     obtain ⟨bk,bI,a3,a4,a5,a2⟩:=d.elemK 5 y a1
     obtain ⟨_,_,_,_,_,_,_,_,rfl,rfl,rfl,rfl,rfl,rfl,rfl,rfl,⟨bi,bP,be,rfl,am⟩⟩:=a2
     obtain rfl:=am.1
     have d:=(d.addE (e:=SlA bi _ be bo.Response.Stages) am).addE a5
     refine h_c [0,1] [0,2,4] d y y (by kernel_rfl) y fun hC d=>gn 3 [0,1,2] [1] s hC y y y fun a s=>gx s 3 y j8 y hC o4 t6 y y P Q fun a s=>gv s 4 y y hC (fun w hC=>D5 (j:=0) (hC.ceAt 2 y) y E3 t6 y y) fun a s=>ho 5 y ?_
     refine cV s d (a1z R d.bdom (d.bE 5 y)) (j3 call65 y) y fun a w s d=>h_n [0,1] [0,2,4] d y y fun hC=>gn 2 [6,7] [] s hC y y y fun a s=>?_
     have s:=s.bF 60 y t
     refine gn 3 [8,9,10] [] s hC y y y fun a s=>?_
     have s:=s.bT 63 y E
     refine gn 3 [11,12,13] [1] s hC y y y fun a s=>gx s 14 y ⟨_,y,y⟩ y hC o4 t6 y y aY aZ fun a s=>gt s 15 y ⟨_,y,y⟩ y hC (fun w hC=>l7 (o':=bj+0) B7 y m8 y y y) fun a s=>gt s 16 y ⟨_,y,y⟩ y hC (fun w hC=>F5 (j:=0) (hC.ceAt 1 y) y s8 y) fun a s=>gn 4 [17,18,19,20] [1] s hC y y y fun a s=>gx s 21 y ⟨_,y,y⟩ y hC o4 t6 y y a3 a4 fun a s=>gt s 22 y ⟨_,y,y⟩ y hC (fun w hC=>l7 (o':=bk+1) B7 y m8 y y y) fun a s=>gt s 23 y ⟨_,y,y⟩ y hC (fun w hC=>F5 (j:=1) (hC.ceAt 0 y) y s8 y) fun a s=>gt s 24 y ⟨_,y,y⟩ y hC (fun w hC=>b1G y y) fun a s=>gt s 25 y ⟨_,y,y⟩ y hC (fun w hC=>a6H (v:=.bool aa) y y (vbs F)) fun a s=>gF s 26 y y hC y y I fun a s=>q9 (by kernel_rfl) ?_
     exact ⟨i,wj s d [0,1] [6,7]⟩
    have a6:=E8 X E
    refine h_c [0,1] [0] d y y (by kernel_rfl) y fun hC d=>gn 3 [0,1,2] [1] s hC y y y fun a s=>gx s 3 y j8 y hC o4 t6 y y P Q fun a s=>gv s 4 y y hC (fun w hC=>D5 (j:=0) (hC.ceAt 0 y) y E3 t6 y y) fun a s=>ho 5 y ?_
    refine cV s d (a1z R d.bdom (d.bE 1 y)) (j3 call65 y) y fun a w s d=>h_n [0,1] [0] d y y fun hC=>gn 2 [6,7] [] s hC y y y fun a s=>?_
    have s:=s.bF 60 y t
    refine gn 3 [8,9,10] [] s hC y y y fun a s=>?_
    have s:=s.bF 63 y E
    refine gn 14 [11,12,13,14,15,16,17,18,19,20,21,22,23,24] [] s hC y y y fun a s=>gt s 25 y ⟨_,y,y⟩ y hC (fun w hC=>a7x (v:=.bool aa) y y (vbs a6)) fun a s=>gF s 26 y y hC y y I fun a s=>q9 (by kernel_rfl) ?_
    exact ⟨i,wj s d [0,1] [2,3]⟩
   rintro a w ⟨K,s,d⟩
   refine tn (cd s u y (fun u=>?_) fun u=>?_)
   ·refine sz0 1 s y fun a s=>?_
    obtain rfl:=oi u
    have a7:=Y _ y
    subst a7
    have a8:=L _ y
    subst a8
    exact t7 (o8 (j4 (j4 (o8 (o8 (j4 (j4 (o8 (j4 (rt s y (d.ret y)))))))))))
   refine D1 (l9 (tn (j9 (rn0 2 s y fun a s=>?_))))
   obtain ⟨bK,a9,u⟩:=bt u
   refine sv s (w9 y a9) y fun a s=>nl ⟨_,io u,K,wj s d [0,1] [0,1]⟩
  obtain ⟨bx,u,S⟩:=X5 u
  have S:=(Y _ S.symm).symm
  subst S
  refine u0 (j5 (j5 (o9 (l9 (tn (j9 (rn0 2 s y fun a s=>?_)))))))
  obtain ⟨bJ,ba,u⟩:=bt u
  refine sv s (w9 y ba) y fun a s=>nl ⟨_,io u,i,wj s d [0] [0]⟩
 obtain ⟨bz,u,T⟩:=X5 u
 have T:=(L _ T.symm).symm
 subst T
 refine u0 (j5 (j5 (o9 (tn (sz 5 [0] s d y y fun a s=>?_)))))
 obtain rfl:=oi u
 exact q1 s y (d.ret y)
theorem a9U {w0 S0 p2 k3 p6 k7 a1 b5 r} (u:a3Y a1 b5=some r) (hS:Dm S0 w0) (h4:(Sq p2 k3 a1.Taps).p S0 w0) (h8:(Sq p6 k7 b5.Taps).p S0 w0):Ck Tryz.prog 116 #[V138 a1 p2 k3,V138 b5 p6 k7] w0 S0 [] o5 r:=by
 refine en 66 func116 y hS y y y fun a s d=>?_
 have d:=(d.addE h4).addE h8
 refine sr (wb (a2k a1 p2 k3) s d y fun b9 a w s d=>?_)
 refine wb (a2k b5 p6 k7) s d y fun b a w s d=>rz0 1 s y fun a s=>l3 (sn 6 [1,0] s d y y fun a s=>?_)
 refine y7 6 (fun a w1=>w=w1∧Sl 66 [(2,pt b9),(3,pt b),(17,.bool ((a1.Kind != b5.Kind) || (!((a1.Num.e0 == b5.Num.e0) && ((a1.Num.e1 == b5.Num.e1) && ((a1.Num.e2 == b5.Num.e2) && true))))))] a) ?_ ?_
 ·rcases j0 (a1.Kind != b5.Kind) with g | g
  ·have s:=s.bT 11 y g
   refine rz0 6 s y fun a s=>⟨y,(s.fix 17 (.bool ((a1.Kind != b5.Kind) || (!((a1.Num.e0 == b5.Num.e0) && ((a1.Num.e1 == b5.Num.e1) && ((a1.Num.e2 == b5.Num.e2) && true)))))) y (or_t g)).weaken _ ⟨y,y,y,j8⟩⟩
  have s:=s.bF 11 y g
  refine rn 4 [1,0] s d y y fun a s=>D6 s (a8T (by kernel_rfl) y y (a2v u4 m8 (EqA.cons1 s8 y y (G9 q6) (EqA.cons1 s8 y y (G9 q6) (EqA.cons1 s8 y y (G9 q6) EqA.nil))))) ⟨_,y,y⟩ y y fun a s=>rz0 1 s y fun a s=>⟨y,(s.fix 17 (.bool ((a1.Kind != b5.Kind) || (!((a1.Num.e0 == b5.Num.e0) && ((a1.Num.e1 == b5.Num.e1) && ((a1.Num.e2 == b5.Num.e2) && true)))))) y (or_f g)).weaken _ ⟨y,y,y,j8⟩⟩
 rintro a w1 ⟨O,s⟩
 subst O
 refine mv s y y fun a s=>y7 6 (fun a w1=>w=w1∧Sl 66 [(2,pt b9),(3,pt b),(24,.bool (((a1.Kind != b5.Kind) || (!((a1.Num.e0 == b5.Num.e0) && ((a1.Num.e1 == b5.Num.e1) && ((a1.Num.e2 == b5.Num.e2) && true))))) || (!((a1.Den.e0 == b5.Den.e0) && ((a1.Den.e1 == b5.Den.e1) && ((a1.Den.e2 == b5.Den.e2) && true))))))] a) ?_ ?_
 ·rcases j0 ((a1.Kind != b5.Kind) || (!((a1.Num.e0 == b5.Num.e0) && ((a1.Num.e1 == b5.Num.e1) && ((a1.Num.e2 == b5.Num.e2) && true))))) with h | h
  ·have s:=s.bT 18 y h
   refine rz0 6 s y fun a s=>⟨y,(s.fix 24 (.bool (((a1.Kind != b5.Kind) || (!((a1.Num.e0 == b5.Num.e0) && ((a1.Num.e1 == b5.Num.e1) && ((a1.Num.e2 == b5.Num.e2) && true))))) || (!((a1.Den.e0 == b5.Den.e0) && ((a1.Den.e1 == b5.Den.e1) && ((a1.Den.e2 == b5.Den.e2) && true)))))) y (or_t h)).weaken _ ⟨y,y,y,j8⟩⟩
  have s:=s.bF 18 y h
  refine rn 4 [1,0] s d y y fun a s=>D6 s (a8T (by kernel_rfl) y y (a2v u4 m8 (EqA.cons1 s8 y y (G9 q6) (EqA.cons1 s8 y y (G9 q6) (EqA.cons1 s8 y y (G9 q6) EqA.nil))))) ⟨_,y,y⟩ y y fun a s=>rz0 1 s y fun a s=>⟨y,(s.fix 24 (.bool (((a1.Kind != b5.Kind) || (!((a1.Num.e0 == b5.Num.e0) && ((a1.Num.e1 == b5.Num.e1) && ((a1.Num.e2 == b5.Num.e2) && true))))) || (!((a1.Den.e0 == b5.Den.e0) && ((a1.Den.e1 == b5.Den.e1) && ((a1.Den.e2 == b5.Den.e2) && true)))))) y (or_f h)).weaken _ ⟨y,y,y,j8⟩⟩
 rintro a w1 ⟨N,s⟩
 subst N
 refine mv s y y fun a s=>rO 6 25 [1,0] s d y y y y y fun a s=>mv s y y fun a s=>rO 6 32 [1,0] s d y y y y y fun a s=>mv s y y fun a s=>rO 8 39 [1,0] s d y y y y y fun a s=>nl (cd s u y (fun u=>?_) fun u=>?_)
 ·refine sz0 1 s y fun a s=>?_
  obtain rfl:=oi u
  exact t7 (j4 (rt s y (d.ret y)))
 refine sk (l3 (sz0 1 s y fun a s=>?_))
 refine m6 (u7 (fun f a w=>∃ c,Sl 66 [(2,pt b9),(3,pt b),(5,iv f)] a∧Wd ⟨w0,S0,[]⟩ c [.box b9 (a2k a1 p2 k3) 138,.box b (a2k b5 p6 k7) 138] [Sq p2 k3 a1.Taps,Sq p6 k7 b5.Taps] w) 0 u ⟨S0,wj s d [1,0] [1,0]⟩ ?_)
 repeat clear u
 rintro f a w S ⟨c,s,d⟩ u k
 refine l3 (sz 5 [0] s d y y fun a s=>?_)
 refine cd s u y (fun u=>?_) fun u=>?_
 ·refine sk (l3 (m6 (l3 ?_)))
  obtain ⟨P,z,u⟩:=bt u
  obtain ⟨l,v,W,T,E,B,C,D,A⟩:=d.elemV 0 y z
  have n:=s
  have q:=d
  subst E
  have s:=n
  have d:=q
  obtain ⟨_,rfl,rfl⟩:=A
  have d:=d.addE D
  obtain ⟨Q,F,u⟩:=bt u
  obtain ⟨m,x,X,U,K,H,I,J,G⟩:=d.elemV 2 y F
  have o:=s
  have t:=d
  subst K
  have s:=o
  have d:=t
  obtain ⟨_,rfl,rfl⟩:=G
  have d:=d.addE J
  refine C7 (fun a w=>∃ e,Sl 66 [(2,pt b9),(3,pt b),(5,iv f),(65,.bool (P != Q))] a∧Wd ⟨w0,S0,[]⟩ e [.box b9 (a2k a1 (some ⟨l,v,none⟩) k3) 138,.box b (a2k b5 (some ⟨m,x,none⟩) k7) 138] [Sq (some ⟨l,v,none⟩) k3 a1.Taps,Sq (some ⟨m,x,none⟩) k7 b5.Taps] w) ?_ ?_
  ·refine h_c [0,1] [0,1] d y y (by kernel_rfl) y fun hC d=>gn 3 [0,1,2] [0] s hC y y y fun a s=>gx s 3 y j8 y hC C5 m8 y y B C fun a s=>gv s 4 y y hC (fun w hC=>F5 (j:=0) (hC.ceAt 1 y) y s8 y) fun a s=>gn 3 [5,6,7] [1] s hC y y y fun a s=>gx s 8 y j8 y hC C5 m8 y y H I fun a s=>gv s 9 y y hC (fun w hC=>F5 (j:=0) (hC.ceAt 0 y) y s8 y) fun a s=>gv s 10 y y hC (fun w hC=>y_neq y y) fun a s=>q9 (by kernel_rfl) ?_
   exact ⟨c,wj s d [0,1] [2,3]⟩
  rintro a w ⟨e,s,d⟩
  refine tn (cd s u y (fun u=>?_) fun u=>?_)
  ·refine sz0 1 s y fun a s=>?_
   obtain rfl:=oi u
   have L:=k _ y
   subst L
   exact t7 (o8 (j4 (j4 (o8 (j4 (rt s y (d.ret y)))))))
  refine D1 (l9 (tn (j9 (rn0 2 s y fun a s=>?_))))
  obtain ⟨V,M,u⟩:=bt u
  refine sv s (w9 y M) y fun a s=>nl ⟨_,io u,e,wj s d [0,1] [0,1]⟩
 obtain ⟨R,u,i⟩:=X5 u
 have i:=(k _ i.symm).symm
 subst i
 refine u0 (j5 (j5 (o9 (tn (sz0 1 s y fun a s=>?_)))))
 obtain rfl:=oi u
 exact q1 s y (d.ret y)
theorem b2Z {w0 S0 p2 k3 p6 k7 a1 b5 r} (u:a7Q a1 b5=some r) (hS:Dm S0 w0) (h4:(Sq p2 k3 a1.Stages).p S0 w0) (h8:(Sq p6 k7 b5.Stages).p S0 w0):Ck Tryz.prog 70 #[.agg #[sl p2 k3 a1.Stages],.agg #[sl p6 k7 b5.Stages]] w0 S0 [] o5 r:=by
 refine en 32 func70 y hS y y y fun a s d=>?_
 have d:=(d.addE h4).addE h8
 refine sr (wb [sl p2 k3 a1.Stages] s d y fun b9 a w s d=>?_)
 refine wb [sl p6 k7 b5.Stages] s d y fun h a w s d=>rz0 1 s y fun a s=>l3 (sz 7 [1,0] s d y y fun a s=>?_)
 refine cd s u y (fun u=>?_) fun u=>?_
 ·refine sz0 1 s y fun a s=>?_
  obtain rfl:=oi u
  exact t7 (j4 (rt s y (d.ret y)))
 refine sk (l3 (sz0 1 s y fun a s=>?_))
 refine m6 (u7 (fun f a w=>∃ b,Sl 32 [(2,pt b9),(3,pt h),(5,iv f)] a∧Wd ⟨w0,S0,[]⟩ b [.box b9 [sl p2 k3 a1.Stages] 39,.box h [sl p6 k7 b5.Stages] 39] [Sq p2 k3 a1.Stages,Sq p6 k7 b5.Stages] w) 0 u ⟨S0,wj s d [1,0] [1,0]⟩ ?_)
 repeat clear u
 rintro f a w X ⟨b,s,d⟩ u i
 refine l3 (sz 5 [0] s d y y fun a s=>?_)
 refine cd s u y (fun u=>?_) fun u=>?_
 ·refine sk (l3 (m6 (l3 ?_)))
  obtain ⟨U,B,u⟩:=bt u
  obtain ⟨k,x,ab,Y,G,D,E,F,C⟩:=d.elemV 0 y B
  have o:=s
  have t:=d
  subst G
  have s:=o
  have d:=t
  obtain ⟨_,_,_,_,_,_,_,_,_,_,rfl,rfl,rfl,rfl,rfl,rfl,rfl,rfl,⟨S,n325,Q,rfl,m⟩,rfl,rfl⟩:=C
  obtain rfl:=m.1
  have d:=(d.addE (e:=SlA S _ Q U.Taps) m).addE F
  obtain ⟨V,H,u⟩:=bt u
  obtain ⟨l,z,ac,Z,M,J,K,L,I⟩:=d.elemV 3 y H
  have q:=s
  have v:=d
  subst M
  have s:=q
  have d:=v
  obtain ⟨_,_,_,_,_,_,_,_,_,_,rfl,rfl,rfl,rfl,rfl,rfl,rfl,rfl,⟨T,n342,R,rfl,n⟩,rfl,rfl⟩:=I
  obtain rfl:=n.1
  have d:=(d.addE (e:=SlA T _ R V.Taps) n).addE L
  obtain ⟨A,N,u⟩:=bt u
  refine C7 (fun a w=>∃ c,Sl 32 [(2,pt b9),(3,pt h),(5,iv f),(31,.bool (!A))] a∧Wd ⟨w0,S0,[]⟩ c [.box b9 [sl (some ⟨k,x,none⟩) k3 a1.Stages] 39,.box h [sl (some ⟨l,z,none⟩) k7 b5.Stages] 39] [Sq (some ⟨k,x,none⟩) k3 a1.Stages,Sq (some ⟨l,z,none⟩) k7 b5.Stages] w) ?_ ?_
  ·refine h_c [0,1] [0,2] d y y (by kernel_rfl) y fun hC d=>gn 3 [0,1,2] [0] s hC y y y fun a s=>gx s 3 y j8 y hC C4 C0 y y D E fun a s=>gv s 4 y y hC (fun w hC=>D5 (j:=0) (hC.ceAt 1 y) y H1 C0 y y) fun a s=>gn 3 [5,6,7] [1] s hC y y y fun a s=>gx s 8 y j8 y hC C4 C0 y y J K fun a s=>gv s 9 y y hC (fun w hC=>D5 (j:=0) (hC.ceAt 0 y) y H1 C0 y y) fun a s=>ho 10 y ?_
   refine cV s d (a9U N d.bdom (d.bE 3 y) (d.bE 1 y)) (j3 call116 y) y fun a w s d=>h_n [0,1] [0,2] d y y fun hC=>gv s 11 y y hC (fun w hC=>a5Z y) fun a s=>q9 (by kernel_rfl) ?_
   exact ⟨b,wj s d [0,1] [4,5]⟩
  rintro a w ⟨c,s,d⟩
  refine tn (cd s u y (fun u=>?_) fun u=>?_)
  ·refine sz0 1 s y fun a s=>?_
   obtain rfl:=oi u
   have O:=i _ y
   subst O
   exact t7 (o8 (j4 (j4 (o8 (j4 (rt s y (d.ret y)))))))
  refine D1 (l9 (tn (j9 (rn0 2 s y fun a s=>?_))))
  obtain ⟨aa,P,u⟩:=bt u
  refine sv s (w9 y P) y fun a s=>nl ⟨_,io u,c,wj s d [0,1] [0,1]⟩
 obtain ⟨W,u,g⟩:=X5 u
 have g:=(i _ g.symm).symm
 subst g
 refine u0 (j5 (j5 (o9 (tn (sz0 1 s y fun a s=>?_)))))
 obtain rfl:=oi u
 exact q1 s y (d.ret y)
theorem a1Y {w0 S0 p2 k3 p6 k7 a1 b5 r} (u:Y3 a1 b5=some r) (hS:Dm S0 w0) (h4:(Sq p2 k3 a1.Response.Stages).p S0 w0) (h8:(Sq p6 k7 b5.Response.Stages).p S0 w0):Ck Tryz.prog 26 #[V41 a1 p2 k3,V41 b5 p6 k7] w0 S0 [] o5 r:=by
 refine en 38 func26 y hS y y y fun a s d=>?_
 have d:=(d.addE h4).addE h8
 refine sr (wb (C41 a1 p2 k3) s d y fun b9 a w s d=>?_)
 refine wb (C41 b5 p6 k7) s d y fun h a w s d=>rz0 1 s y fun a s=>sn 6 [1,0] s d y y fun a s=>rA 6 10 [1,0] s d y y y y y fun a s=>mv s y y fun a s=>y7 6 (fun a w1=>w=w1∧Sl 38 [(2,pt b9),(3,pt h),(23,.bool (((a1.From == b5.From) && (a1.To == b5.To)) && ((a1.Rate.Num == b5.Rate.Num) && ((a1.Rate.Den == b5.Rate.Den) && true))))] a) ?_ ?_
 ·rcases j0 ((a1.From == b5.From) && (a1.To == b5.To)) with b | b
  ·have s:=s.bT 17 y b
   refine rn 4 [1,0] s d y y fun a s=>D6 s (a0E (by kernel_rfl) y y (M5 G3 (by kernel_rfl) (EqF.cons1 y s8 y y (G9 q6) (EqF.cons1 y s8 y y (G9 q6) EqF.nil)))) ⟨_,y,y⟩ y y fun a s=>rz0 1 s y fun a s=>⟨y,(s.fix 23 (.bool (((a1.From == b5.From) && (a1.To == b5.To)) && ((a1.Rate.Num == b5.Rate.Num) && ((a1.Rate.Den == b5.Rate.Den) && true)))) y (a3J b)).weaken _ ⟨y,y,y,j8⟩⟩
  have s:=s.bF 17 y b
  refine rz0 6 s y fun a s=>⟨y,(s.fix 23 (.bool (((a1.From == b5.From) && (a1.To == b5.To)) && ((a1.Rate.Num == b5.Rate.Num) && ((a1.Rate.Den == b5.Rate.Den) && true)))) y (a3I b)).weaken _ ⟨y,y,y,j8⟩⟩
 rintro a w1 ⟨m,s⟩
 subst m
 refine mv s y y fun a s=>y7 6 (fun a w1=>w=w1∧Sl 38 [(2,pt b9),(3,pt h),(30,.bool ((((a1.From == b5.From) && (a1.To == b5.To)) && ((a1.Rate.Num == b5.Rate.Num) && ((a1.Rate.Den == b5.Rate.Den) && true))) && ((a1.Position.X == b5.Position.X) && ((a1.Position.Y == b5.Position.Y) && ((a1.Position.Z == b5.Position.Z) && true)))))] a) ?_ ?_
 ·rcases j0 (((a1.From == b5.From) && (a1.To == b5.To)) && ((a1.Rate.Num == b5.Rate.Num) && ((a1.Rate.Den == b5.Rate.Den) && true))) with c | c
  ·have s:=s.bT 24 y c
   refine rn 4 [1,0] s d y y fun a s=>D6 s (a0E (by kernel_rfl) y y (M5 G4 (by kernel_rfl) (EqF.cons1 y s8 y y (G9 q6) (EqF.cons1 y s8 y y (G9 q6) (EqF.cons1 y s8 y y (G9 q6) EqF.nil))))) ⟨_,y,y⟩ y y fun a s=>rz0 1 s y fun a s=>⟨y,(s.fix 30 (.bool ((((a1.From == b5.From) && (a1.To == b5.To)) && ((a1.Rate.Num == b5.Rate.Num) && ((a1.Rate.Den == b5.Rate.Den) && true))) && ((a1.Position.X == b5.Position.X) && ((a1.Position.Y == b5.Position.Y) && ((a1.Position.Z == b5.Position.Z) && true))))) y (a3J c)).weaken _ ⟨y,y,y,j8⟩⟩
  have s:=s.bF 24 y c
  refine rz0 6 s y fun a s=>⟨y,(s.fix 30 (.bool ((((a1.From == b5.From) && (a1.To == b5.To)) && ((a1.Rate.Num == b5.Rate.Num) && ((a1.Rate.Den == b5.Rate.Den) && true))) && ((a1.Position.X == b5.Position.X) && ((a1.Position.Y == b5.Position.Y) && ((a1.Position.Z == b5.Position.Z) && true))))) y (a3I c)).weaken _ ⟨y,y,y,j8⟩⟩
 rintro a w1 ⟨l,s⟩
 subst l
 refine mv s y y fun a s=>?_
 obtain ⟨i,g,u⟩:=bt u
 refine y7 6 (fun a w=>∃ f,Sl 38 [(37,.bool i)] a∧Wd ⟨w0,S0,[]⟩ f [] [] w) ?_ ?_
 ·rcases j0 ((((a1.From == b5.From) && (a1.To == b5.To)) && ((a1.Rate.Num == b5.Rate.Num) && ((a1.Rate.Den == b5.Rate.Den) && true))) && ((a1.Position.X == b5.Position.X) && ((a1.Position.Y == b5.Position.Y) && ((a1.Position.Z == b5.Position.Z) && true)))) with e | e
  ·have s:=s.bT 31 y e
   have u:=D7 g e
   refine rn 4 [1,0] s d y y fun a s=>?_
   obtain ⟨o,j,u⟩:=bt u
   refine x9 s (b2Z j d.bdom (d.bE 1 y) (d.bE 0 y)) (j3 call70 y) ⟨_,y,y⟩ y y ?_
   rintro q n w a k rfl s
   have d:=d.callB k
   refine sv s (I6 y y) y fun a s=>l4 ?_
   obtain rfl:=oi u
   exact tn ⟨S0,wj s d [] []⟩
  have s:=s.bF 31 y e
  have u:=E8 g e
  refine rn0 6 s y fun a s=>l4 ?_
  obtain rfl:=oi u
  exact tn ⟨S0,wj s d [] []⟩
 rintro a w ⟨f,s,d⟩
 refine rz0 1 s y fun a s=>?_
 obtain rfl:=oi u
 exact q1 s y (d.ret y)
theorem b3d {w0 S0 p2 k3 e1 r} (u:a7U e1=some r) (hS:Dm S0 w0) (h4:(Sq p2 k3 e1.Response.Stages).p S0 w0):Ck Tryz.prog 117 #[V41 e1 p2 k3] w0 S0 [] o5 r:=by
 refine en 6 func117 y hS y y y fun a s d=>?_
 have d:=d.addE h4
 refine sr (wb (C41 e1 p2 k3) s d y fun b5 a w s d=>?_)
 refine rz0 1 s y fun a s=>sn 1 [0] s d y y fun a s=>sv s (A8 (vs:=[]) Bld41 y y) y fun a s=>?_
 obtain ⟨b,h6,u⟩:=bt u
 have d:=d.addE (e:=SlA (α:=Stage) none 0 0 []) K9
 refine cV s d (a1Y h6 d.bdom (d.bE 1 y) (d.bE 0 y)) (j3 call26 y) y fun a w s d=>rz0 1 s y fun a s=>?_
 obtain rfl:=oi u
 exact q1 s y (d.ret y)
theorem b3c {w0 S0 p2 k3 p6 k7 c c5 r} (u:a7T c c5=some r) (hS:Dm S0 w0) (h4:(Sq p2 k3 c.Channels).p S0 w0) (h8:(Sq p6 k7 c5.Epoch.Response.Stages).p S0 w0):Ck Tryz.prog 72 #[.agg #[sl p2 k3 c.Channels],V43 c5 p6 k7] w0 S0 [] o5 r:=by
 refine en 42 func72 y hS y y y fun a s d=>?_
 have d:=(d.addE h4).addE h8
 refine sr (wb [sl p2 k3 c.Channels] s d y fun b9 a w s d=>?_)
 refine wb (C43 c5 p6 k7) s d y fun i a w s d=>rz0 1 s y fun a s=>l3 (sn 1 [1] s d y y fun a s=>?_)
 obtain ⟨n,q,u⟩:=bt u
 refine cV s d (a4N q d.bdom (d.bE 1 y)) (j3 call18 y) y fun a w s d=>rn0 2 s y fun a s=>?_
 obtain ⟨m,k,u⟩:=bt u
 refine y7 5 (fun a w=>∃ b,Sl 42 [(3,pt i),(13,.bool m)] a∧Wd ⟨w0,S0,[]⟩ b [.box i (C43 c5 p6 k7) 43] [Sq p6 k7 c5.Epoch.Response.Stages] w) ?_ ?_
 ·rcases j0 (!n) with f | f
  ·have s:=s.bT 8 y f
   have u:=D7 k f
   refine rn0 5 s y fun a s=>l4 ?_
   obtain rfl:=oi u
   exact tn ⟨S0,wj s d [0] [0]⟩
  have s:=s.bF 8 y f
  have u:=E8 k f
  refine rn 2 [0] s d y y fun a s=>?_
  obtain ⟨F,t,u⟩:=bt u
  refine x9 s (P9 t d.bdom) (j3 call64 y) ⟨_,y,y⟩ y y ?_
  rintro I D w a v rfl s
  have d:=d.callB v
  refine rn0 2 s y fun a s=>l4 ?_
  obtain rfl:=oi u
  exact tn ⟨S0,wj s d [0] [0]⟩
 rintro a w ⟨b,s,d⟩
 refine mv s y y fun a s=>?_
 obtain ⟨o,l,u⟩:=bt u
 refine y7 5 (fun a w=>∃ j,Sl 42 [(3,pt i),(19,.bool o)] a∧Wd ⟨w0,S0,[]⟩ j [.box i (C43 c5 p6 k7) 43] [Sq p6 k7 c5.Epoch.Response.Stages] w) ?_ ?_
 ·rcases j0 m with g | g
  ·have s:=s.bT 14 y g
   have u:=D7 l g
   refine rn0 5 s y fun a s=>l4 ?_
   obtain rfl:=oi u
   exact tn ⟨b,wj s d [0] [0]⟩
  have s:=s.bF 14 y g
  have u:=E8 l g
  refine rn 2 [0] s d y y fun a s=>?_
  obtain ⟨G,x,u⟩:=bt u
  refine x9 s (a1E x d.bdom) (j3 call62 y) ⟨_,y,y⟩ y y ?_
  rintro J E w a z rfl s
  have d:=d.callB z
  refine rn0 2 s y fun a s=>l4 ?_
  obtain rfl:=oi u
  exact tn ⟨b,wj s d [0] [0]⟩
 rintro a w ⟨j,s,d⟩
 refine nl (cd s u y (fun u=>?_) fun u=>?_)
 ·refine sz0 1 s y fun a s=>?_
  obtain rfl:=oi u
  exact t7 (j4 (rt s y (d.ret y)))
 refine sk (l3 (sz 3 [0] s d y y fun a s=>?_))
 refine cd s u y (fun u=>?_) fun u=>?_
 ·refine sn 2 [0] s d y y fun a s=>?_
  obtain ⟨H,A,u⟩:=bt u
  refine cV s d (b3d A d.bdom (d.bE 0 y)) (j3 call117 y) y fun a w s d=>rz0 1 s y fun a s=>?_
  obtain rfl:=oi u
  exact t7 (j4 (rt s y (d.ret y)))
 refine sk (sn 2 [0] s d y y fun a s=>?_)
 obtain ⟨e,B,u⟩:=bt u
 refine cV s d (a1z B d.bdom (d.bE 0 y)) (j3 call65 y) y fun a w s d=>mv s y y fun a s=>y7 12 (fun a w1=>w=w1∧Sl 42 [(41,.bool (e && ((c5.Kind == 2) || (c5.From == c5.Epoch.From))))] a) ?_ ?_
 ·rcases j0 e with h | h
  ·have s:=s.bT 29 y h
   refine rn 4 [0] s d y y fun a s=>rO 7 33 [0,0] s d y y y y y fun a s=>rz0 1 s y fun a s=>⟨y,(s.fix 41 (.bool (e && ((c5.Kind == 2) || (c5.From == c5.Epoch.From)))) y (a3J h)).weaken _ ⟨y,j8⟩⟩
  have s:=s.bF 29 y h
  refine rz0 12 s y fun a s=>⟨y,(s.fix 41 (.bool (e && ((c5.Kind == 2) || (c5.From == c5.Epoch.From)))) y (a3I h)).weaken _ ⟨y,j8⟩⟩
 rintro a w1 ⟨C,s⟩
 subst C
 refine rz0 1 s y fun a s=>?_
 obtain rfl:=oi u
 exact q1 s y (d.ret y)
abbrev b1V:List Value:=[.slice none ([]:List Channel).length 0]
theorem a3K {w0 S0 p2 k3 i r} (u:a4j i=some r) (hS:Dm S0 w0) (h4:(Sq p2 k3 i.Channels).p S0 w0):Ck Tryz.prog 73 #[.agg #[sl p2 k3 i.Channels]] w0 S0 [] a6L r:=by
 refine en 54 func73 y hS y y y fun a s d=>?_
 have d:=d.addE h4
 refine sr (wb [sl p2 k3 i.Channels] s d y fun b5 a w s d=>?_)
 refine wa b1V s d zeroValue29 fun b6 a w s d=>nl (sr (wa b1V s d zeroValue29 fun b7 a w s d=>?_))
 refine nl (l3 (sz0 1 s y fun a s=>?_))
 obtain ⟨P,ab,u⟩:=bt u
 refine A7 (fun a w=>∃ O L K T,Sl 54 [(2,pt b6),(3,pt b7)] a∧Wd ⟨w0,S0,[]⟩ T [.box b6 b1V 29,.box b7 [sl L K P] 29,.row L P.length K O 73 5] [Sq none 0 ([]:List Channel),j6 O P] w) ?_ ?_
 ·refine m6 ?_
  have d:=(d.nilRow Channel 73).addE (e:=SlA (α:=Channel) none 0 0 []) K9
  refine u7 (fun h a w=>∃ l n m E,Sl 54 [(1,pt b5),(2,pt b6),(3,pt b7),(4,iv h.2)] a∧Wd ⟨w0,S0,[]⟩ E [.box b5 [sl p2 k3 i.Channels] 29,.box b6 b1V 29,.box b7 [sl n m h.1] 29,.row n h.1.length m l 73 5] [Sq p2 k3 i.Channels,Sq none 0 ([]:List Channel),j6 l h.1] w) (([]:List Channel),0) ab ⟨[],none,0,S0,wj s d [3,2,1,0] [2,0,1]⟩ ?_
  clear ab
  repeat clear u
  rintro h a w bq ⟨l,n,m,E,s,d⟩ u aQ
  refine l3 (sz 5 [0] s d y y fun a s=>?_)
  refine cd s u y (fun u=>?_) fun u=>?_
  ·refine sk (l3 (m6 (sn 3 [0] s d y y fun a s=>?_)))
   obtain ⟨k,a3,u⟩:=bt u
   obtain ⟨B,D,ba,bu,a7,ak,a5,a6,a4⟩:=d.elemV 0 y a3
   have an:=s
   have ao:=d
   subst a7
   have s:=an
   have d:=ao
   obtain ⟨_,_,_,_,_,rfl,rfl,rfl,rfl,rfl,⟨a9,bv,a8,rfl,al⟩⟩:=a4
   obtain rfl:=al.1
   have d:=(d.addE (e:=SlA a9 _ a8 k.Epochs) al).addE a6
   refine sv s (o7 m5 o3 y y ak.1 ak.2 a5) y fun a s=>sv s (l7 (o':=ba+0) u9 y s6 y y y) y fun a s=>sv s (D5 (j:=0) (d.ceAt 0 y) y B9 s6 y y) y fun a s=>sv s (A8 (vs:=[(0,V32 k.Source)]) b1T y y) y fun a s=>wa Z2 s d zeroValue73 fun C a w s d=>ws (C73 ⟨k.Source,([]:List Epoch)⟩ none 0) s d 0 y y y o3 fun a w s d=>nl (l3 (sz0 1 s y fun a s=>?_))
   obtain ⟨t,aa,u⟩:=bt u
   refine A7 (fun a w=>∃ M A z S,Sl 54 [(1,pt b5),(2,pt b6),(3,pt b7),(4,iv h.2),(5,pt C)] a∧Wd ⟨w0,S0,[]⟩ S [.box b5 [sl (some ⟨B,D,none⟩) k3 i.Channels] 29,.box b6 b1V 29,.box b7 [sl n m h.1] 29,.box C (C73 ⟨k.Source,t⟩ A z) 73,.row n h.1.length m l 73 5,.row A t.length z M 41 8] [Sq (some ⟨B,D,none⟩) k3 i.Channels,Sq none 0 ([]:List Channel),j6 l h.1,j6 M t] w) ?_ ?_
   ·refine m6 ?_
    have d:=d.nilRow Epoch 41
    refine u7 (fun x a w=>∃ F H G I,Sl 54 [(1,pt b5),(2,pt b6),(3,pt b7),(4,iv h.2),(5,pt C),(6,iv x.2)] a∧Wd ⟨w0,S0,[]⟩ I [.box b5 [sl (some ⟨B,D,none⟩) k3 i.Channels] 29,.box b6 b1V 29,.box b7 [sl n m h.1] 29,.box C (C73 ⟨k.Source,x.1⟩ H G) 73,.row n h.1.length m l 73 5,.row H x.1.length G F 41 8] [Sq (some ⟨B,D,none⟩) k3 i.Channels,Sq none 0 ([]:List Channel),j6 l h.1,j6 F x.1] w) (([]:List Epoch),0) aa ⟨[],none,0,E,wj s d [2,3,4,1,5,0] [3,4,5,0]⟩ ?_
    clear aa
    repeat clear u
    rintro x a w bd ⟨F,H,G,I,s,d⟩ u am
    refine l3 (sn 4 [0] s d y y fun a s=>?_)
    obtain ⟨a0,aq,u⟩:=bt u
    obtain ⟨aY,bg,V,au,av,ar⟩:=d.elemK 0 y aq
    obtain ⟨_,_,_,_,_,rfl,rfl,rfl,rfl,rfl,⟨aV,bl,aR,rfl,W⟩⟩:=ar
    obtain rfl:=W.1
    have d:=(d.addE (e:=SlA aV _ aR a0.Epochs) W).addE av
    refine sv s (o7 m5 o3 y y V.1 V.2 au) y fun a s=>sv s (l7 (o':=aY+4) u9 y D2 y y y) y fun a s=>sv s (F5 (j:=4) (d.ceAt 0 y) y F0 y) y fun a s=>rz0 2 s y fun a s=>cd s u y (fun u=>?_) fun u=>?_
    ·refine sk (l3 (m6 ?_))
     obtain ⟨a1,aw,u⟩:=bt u
     obtain ⟨aZ,bh,ay,az,aA,ax⟩:=d.elemK 2 y aw
     obtain ⟨_,_,_,_,_,rfl,rfl,rfl,rfl,rfl,⟨aW,bm,aS,rfl,X⟩⟩:=ax
     obtain rfl:=X.1
     have d:=(d.addE (e:=SlA aW _ aS a1.Epochs) X).addE aA
     obtain ⟨a2,aB,u⟩:=bt u
     obtain ⟨be,bo,bp,bi,aG,aD,aE,aF,aC⟩:=d.elemV 1 y aB
     have ae:=s
     have af:=d
     subst aG
     have s:=ae
     have d:=af
     obtain ⟨_,_,_,_,_,_,_,_,rfl,rfl,rfl,rfl,rfl,rfl,rfl,rfl,⟨aX,bn,aT,rfl,Y⟩⟩:=aC
     obtain rfl:=Y.1
     have d:=(d.addE (e:=SlA aX _ aT a2.Response.Stages) Y).addE aF
     obtain ⟨b,Z,u⟩:=bt u
     obtain ⟨v,R,u⟩:=bt u
     refine C7 (fun a w=>∃ J g c f,Sl 54 [(1,pt b5),(2,pt b6),(3,pt b7),(4,iv h.2),(5,pt C),(6,iv x.2)] a∧Wd ⟨w0,S0,[]⟩ J [.box b5 [sl (some ⟨B,D,none⟩) k3 i.Channels] 29,.box b6 b1V 29,.box b7 [sl n m h.1] 29,.box C (C73 ⟨k.Source,v⟩ f c) 73,.row n h.1.length m l 73 5,.row f v.length c g 41 8] [Sq (some ⟨B,D,none⟩) k3 i.Channels,Sq none 0 ([]:List Channel),j6 l h.1,j6 g v] w) ?_ ?_
     ·refine h_c [0,1,2,4] [0,2,4] d y y (by kernel_rfl) y fun hC d=>gn 4 [0,2,3,4] [0] s hC y y y fun a s=>gx s 5 y j8 y hC m5 o3 y y ay az fun a s=>gv s 6 y y hC (fun w hC=>l7 (o':=aZ+4) u9 y D2 y y y) fun a s=>gv s 7 y y hC (fun w hC=>F5 (j:=4) (hC.ceAt 1 y) y F0 y) fun a s=>gm s 8 y y y hC fun a s=>gx s 9 y j8 y hC o4 t6 y y aD aE fun a s=>gv s 10 y y hC (fun w hC=>D5 (j:=0) (hC.ceAt 0 y) y E3 t6 y y) fun a s=>a2E (rs:=[1,11]) (by kernel_rfl) y ?_
      refine Q7.cons y ?_ ?_
      ·refine sv s (P6 (d.ownAt 3 y) y F0 y) y fun a s=>h_n [0,1,2,4] [0,2,4] d y y fun hC=>ho 11 y ?_
       refine cR s (a0c Z d.dom (d.envAt 1 y)) (j3 call45 y) y ?_
       rintro br bb w a aH ⟨q,o,N,rfl,aI,Q⟩ s
       have d:=(d.callN aH aI).addE (e:=j6 N b.Response.Stages) Q
       refine h_n [1,2,3,5] [1,3,5] d y y fun hC=>ho 12 y ?_
       obtain ⟨ag,d⟩:=C8 (α:=Stage) d 0 y 0 y
       refine q8 (α:=Epoch) (vs:=[V41 b q o]) (cs:=(C41 b q o)) (xs:=([b]:List Epoch)) s d a7k y y y y y y ⟨⟨_,_,_,_,_,_,_,_,y,y,y,y,y,y,y,y,⟨_,_,_,y,d.envAt 0 y⟩⟩,y⟩ y j8 y fun U a w s d=>h_n [1,2,3,5] [3,5,7] d y y fun hC=>h_d [1,2,3,5,0] [3,5,7] [0,1,2,3] [0,1,2] d y y y y fun hC=>ho 13 y ?_
       refine F6 (α:=Epoch) s d a7k 6 y y y 12 y 0 y 0 y R y j8 ?_
       intro f c g a w s d
       refine h_n [1,2,3,5,0] [4,6,8] d y y fun hC=>gv s 14 y y hC (fun w hC=>l7 (o':=4) u9 y D2 y y y) fun a s=>ho 15 y ?_
       refine ws (C73 ⟨k.Source,v⟩ f c) s d 4 y y y D2 fun a w s d=>h_n [1,2,3,5,0] [4,6,8] d y y fun hC=>q9 (by kernel_rfl) ?_
       exact ⟨ag,g,c,f,wj s d [1,2,3,4,5,6] [10,11,12,0]⟩
      refine Q7.cons y ?_ ?_
      ·refine cR s (a0c Z d.dom (d.envAt 1 y)) (j3 call45 y) y ?_
       rintro bs bc w a aJ ⟨q,o,N,rfl,aK,Q⟩ s
       have d:=(d.callN aJ aK).addE (e:=j6 N b.Response.Stages) Q
       refine h_n [1,2,3,5] [1,3,5] d y y fun hC=>a2E (rs:=[1,12]) (by kernel_rfl) y ?_
       refine Q7.cons y ?_ ?_
       ·refine sv s (P6 (d.ownAt 4 y) y F0 y) y fun a s=>h_n [1,2,3,5] [1,3,5] d y y fun hC=>ho 12 y ?_
        obtain ⟨ah,d⟩:=C8 (α:=Stage) d 0 y 0 y
        refine q8 (α:=Epoch) (vs:=[V41 b q o]) (cs:=(C41 b q o)) (xs:=([b]:List Epoch)) s d a7k y y y y y y ⟨⟨_,_,_,_,_,_,_,_,y,y,y,y,y,y,y,y,⟨_,_,_,y,d.envAt 0 y⟩⟩,y⟩ y j8 y fun U a w s d=>h_n [1,2,3,5] [3,5,7] d y y fun hC=>h_d [1,2,3,5,0] [3,5,7] [0,1,2,3] [0,1,2] d y y y y fun hC=>ho 13 y ?_
        refine F6 (α:=Epoch) s d a7k 6 y y y 12 y 0 y 0 y R y j8 ?_
        intro f c g a w s d
        refine h_n [1,2,3,5,0] [4,6,8] d y y fun hC=>gv s 14 y y hC (fun w hC=>l7 (o':=4) u9 y D2 y y y) fun a s=>ho 15 y ?_
        refine ws (C73 ⟨k.Source,v⟩ f c) s d 4 y y y D2 fun a w s d=>h_n [1,2,3,5,0] [4,6,8] d y y fun hC=>q9 (by kernel_rfl) ?_
        exact ⟨ah,g,c,f,wj s d [1,2,3,4,5,6] [10,11,12,0]⟩
       refine Q7.cons y ?_ ?_
       ·obtain ⟨ai,d⟩:=C8 (α:=Stage) d 0 y 0 y
        refine q8 (α:=Epoch) (vs:=[V41 b q o]) (cs:=(C41 b q o)) (xs:=([b]:List Epoch)) s d a7k y y y y y y ⟨⟨_,_,_,_,_,_,_,_,y,y,y,y,y,y,y,y,⟨_,_,_,y,d.envAt 0 y⟩⟩,y⟩ y j8 y fun U a w s d=>h_n [1,2,3,5] [3,5,7] d y y fun hC=>h_d [1,2,3,5,0] [3,5,7] [0,1,2,3] [0,1,2] d y y y y fun hC=>ho 1 y ?_
        refine sv s (P6 (d.ownAt 4 y) y F0 y) y fun a s=>h_n [1,2,3,5,0] [3,5,7] d y y fun hC=>ho 13 y ?_
        refine F6 (α:=Epoch) s d a7k 6 y y y 12 y 0 y 0 y R y j8 ?_
        intro f c g a w s d
        refine h_n [1,2,3,5,0] [4,6,8] d y y fun hC=>gv s 14 y y hC (fun w hC=>l7 (o':=4) u9 y D2 y y y) fun a s=>ho 15 y ?_
        refine ws (C73 ⟨k.Source,v⟩ f c) s d 4 y y y D2 fun a w s d=>h_n [1,2,3,5,0] [4,6,8] d y y fun hC=>q9 (by kernel_rfl) ?_
        exact ⟨ai,g,c,f,wj s d [1,2,3,4,5,6] [10,11,12,0]⟩
       exact Q7.nil
      exact Q7.nil
     rintro a w ⟨J,g,c,f,s,d⟩
     refine l9 (tn (j9 (rn0 2 s y fun a s=>?_)))
     obtain ⟨bk,aL,u⟩:=bt u
     refine sv s (w9 y aL) y fun a s=>nl ⟨_,io u,g,f,c,J,wj s d [0,1,2,3,4,5] [0,1,2,3]⟩
    refine u0 (j5 (j5 (o9 ?_)))
    obtain rfl:=oi u
    have aM:=am _ y
    subst aM
    exact tn ⟨F,H,G,I,wj s d [0,1,2,3,4,5] [2,3,4,5]⟩
   rintro a w ⟨M,A,z,S,s,d⟩
   refine tn (j9 (rn 3 [2,3] s d y y fun a s=>?_))
   obtain ⟨aj,d⟩:=C8 (α:=Epoch) d 5 y 3 y
   refine q8 (α:=Channel) (vs:=[V73 ⟨k.Source,t⟩ A z]) (cs:=(C73 ⟨k.Source,t⟩ A z)) (xs:=([(⟨k.Source,t⟩:Channel)]:List Channel)) s d a8i y y y y y y ⟨⟨_,_,_,_,_,y,y,y,y,y,⟨_,_,_,y,d.envAt 0 y⟩⟩,y⟩ y j8 y fun bf a w s d=>?_
   obtain ⟨aU,aN,u⟩:=bt u
   refine F6 (α:=Channel) s d a8i 5 y y y 4 y 0 y 0 y aN y j8 ?_
   intro ad ac ap a w s d
   refine sv s (l7 (o':=0) D3 y E4 y y y) y fun a s=>ws [sl ad ac aU] s d 3 y y y E4 fun a w s d=>l4 ?_
   refine l9 (tn (j9 (rn0 2 s y fun a s=>?_)))
   obtain ⟨bj,aO,u⟩:=bt u
   refine sv s (w9 y aO) y fun a s=>nl ⟨_,io u,ap,ad,ac,aj,wj s d [1,2,3,5] [3,4,0]⟩
  refine u0 (j5 (j5 (o9 ?_)))
  obtain rfl:=oi u
  have aP:=aQ _ y
  subst aP
  exact tn ⟨l,n,m,E,wj s d [1,2,3] [1,2]⟩
 rintro a w ⟨O,L,K,T,s,d⟩
 refine tn (sn 1 [1] s d y y fun a s=>?_)
 refine ws [sl L K P] s d 0 y y y s9 fun a w s d=>nl ?_
 obtain rfl:=oi u
 exact t7 (a7p s y (D8 d 0 y y D4 s9 y) (d.ret ⟨L,K,O,y,(d.outs [2] (by decide) y),(d.envAt 1 y)⟩))
abbrev b2t (w0:World) (X:List Nat) (r:(Int × Int)):Rd:=fun S w v=>v=.tuple #[iv r.1,iv r.2]
theorem a8F {w0 S0 p2 k3 p6 k7 b c5 r} (u:a4s b c5=some r) (hS:Dm S0 w0) (h4:(Sq p2 k3 b.Channels).p S0 w0) (h8:(Sq p6 k7 c5.Epoch.Response.Stages).p S0 w0):Ck Tryz.prog 74 #[.agg #[sl p2 k3 b.Channels],V43 c5 p6 k7] w0 S0 [] b2t r:=by
 refine en 51 func74 y hS y y y fun a s d=>?_
 have d:=(d.addE h4).addE h8
 refine sr (wb [sl p2 k3 b.Channels] s d y fun b9 a w s d=>?_)
 refine wb (C43 c5 p6 k7) s d y fun k a w s d=>rz0 2 s y fun a s=>l3 (sz0 1 s y fun a s=>?_)
 refine m6 (u7 (fun h a w=>∃ q,Sl 51 [(2,pt b9),(3,pt k),(6,iv h)] a∧Wd ⟨w0,S0,[]⟩ q [.box b9 [sl p2 k3 b.Channels] 29,.box k (C43 c5 p6 k7) 43] [Sq p2 k3 b.Channels,Sq p6 k7 c5.Epoch.Response.Stages] w) 0 u ⟨S0,wj s d [1,0] [1,0]⟩ ?_)
 repeat clear u
 rintro h a w aB ⟨q,s,d⟩ u n
 refine l3 (sz 5 [0] s d y y fun a s=>?_)
 refine cd s u y (fun u=>?_) fun u=>?_
 ·refine sk (l3 (m6 (l3 (l3 ?_))))
  obtain ⟨i,J,u⟩:=bt u
  obtain ⟨c,f,ar,aE,O,L,M,N,K⟩:=d.elemV 0 y J
  have F:=s
  have H:=d
  subst O
  have s:=F
  have d:=H
  obtain ⟨_,_,_,_,_,rfl,rfl,rfl,rfl,rfl,⟨an,aK,aj,rfl,z⟩⟩:=K
  obtain rfl:=z.1
  have d:=(d.addE (e:=SlA an _ aj i.Epochs) z).addE N
  refine C7 (fun a w=>∃ g,Sl 51 [(2,pt b9),(3,pt k),(6,iv h),(23,.bool (!((i.Source.Network == c5.Source.Network) && ((i.Source.Station == c5.Source.Station) && ((i.Source.Location == c5.Source.Location) && ((i.Source.Channel == c5.Source.Channel) && true))))))] a∧Wd ⟨w0,S0,[]⟩ g [.box b9 [sl (some ⟨c,f,none⟩) k3 b.Channels] 29,.box k (C43 c5 p6 k7) 43] [Sq (some ⟨c,f,none⟩) k3 b.Channels,Sq p6 k7 c5.Epoch.Response.Stages] w) ?_ ?_
  ·refine h_c [0,1] [0] d y y (by kernel_rfl) y fun hC d=>gn 3 [0,1,2] [0] s hC y y y fun a s=>gx s 3 y j8 y hC m5 o3 y y L M fun a s=>gv s 4 y y hC (fun w hC=>l7 (o':=ar+0) u9 y s6 y y y) fun a s=>gv s 5 y y hC (fun w hC=>D5 (j:=0) (hC.ceAt 0 y) y B9 s6 y y) fun a s=>gn 2 [6,7] [1] s hC y y y fun a s=>gv s 8 y y hC (fun w hC=>a8T (by kernel_rfl) y y (M5 B8 (by kernel_rfl) (EqF.cons1 y B0 y y (D9 m7) (EqF.cons1 y B0 y y (D9 m7) (EqF.cons1 y B0 y y (D9 m7) (EqF.cons1 y B0 y y (D9 m7) EqF.nil)))))) fun a s=>q9 (by kernel_rfl) ?_
   exact ⟨q,wj s d [0,1] [2,3]⟩
  rintro a w ⟨g,s,d⟩
  refine tn (cd s u y (fun u=>?_) fun u=>?_)
  ·refine u0 (j5 (o9 (tn (j9 (rn0 2 s y fun a s=>?_)))))
   obtain ⟨aI,P,u⟩:=bt u
   refine sv s (w9 y P) y fun a s=>nl ⟨_,io u,g,wj s d [0,1] [0,1]⟩
  refine sk (l3 (sz0 1 s y fun a s=>?_))
  refine m6 (u7 (fun o a w=>∃ l,Sl 51 [(2,pt b9),(3,pt k),(6,iv h),(7,iv o)] a∧Wd ⟨w0,S0,[]⟩ l [.box b9 [sl (some ⟨c,f,none⟩) k3 b.Channels] 29,.box k (C43 c5 p6 k7) 43] [Sq (some ⟨c,f,none⟩) k3 b.Channels,Sq p6 k7 c5.Epoch.Response.Stages] w) 0 u ⟨g,wj s d [0,1] [0,1]⟩ ?_)
  repeat clear u
  rintro o a w aC ⟨l,s,d⟩ u x
  refine l3 (sn 4 [0] s d y y fun a s=>?_)
  obtain ⟨ax,Q,u⟩:=bt u
  obtain ⟨au,aF,A,S,T,R⟩:=d.elemK 0 y Q
  obtain ⟨_,_,_,_,_,rfl,rfl,rfl,rfl,rfl,⟨ao,aL,ak,rfl,B⟩⟩:=R
  obtain rfl:=B.1
  have d:=(d.addE (e:=SlA ao _ ak ax.Epochs) B).addE T
  refine sv s (o7 m5 o3 y y A.1 A.2 S) y fun a s=>sv s (l7 (o':=au+4) u9 y D2 y y y) y fun a s=>sv s (F5 (j:=4) (d.ceAt 0 y) y F0 y) y fun a s=>rz0 2 s y fun a s=>cd s u y (fun u=>?_) fun u=>?_
  ·refine sk (l3 (m6 (l3 ?_)))
   obtain ⟨ay,U,u⟩:=bt u
   obtain ⟨av,aG,W,X,Y,V⟩:=d.elemK 2 y U
   obtain ⟨_,_,_,_,_,rfl,rfl,rfl,rfl,rfl,⟨ap,aM,al,rfl,C⟩⟩:=V
   obtain rfl:=C.1
   have d:=(d.addE (e:=SlA ap _ al ay.Epochs) C).addE Y
   obtain ⟨E,Z,u⟩:=bt u
   obtain ⟨aD,aO,aw,aH,ae,ab,ac,ad,aa⟩:=d.elemV 1 y Z
   have G:=s
   have I:=d
   subst ae
   have s:=G
   have d:=I
   obtain ⟨_,_,_,_,_,_,_,_,rfl,rfl,rfl,rfl,rfl,rfl,rfl,rfl,⟨aq,aN,am,rfl,D⟩⟩:=aa
   obtain rfl:=D.1
   have d:=(d.addE (e:=SlA aq _ am E.Response.Stages) D).addE ad
   refine C7 (fun a w=>∃ m,Sl 51 [(2,pt b9),(3,pt k),(6,iv h),(7,iv o),(47,.bool (E.From == c5.From))] a∧Wd ⟨w0,S0,[]⟩ m [.box b9 [sl (some ⟨c,f,none⟩) k3 b.Channels] 29,.box k (C43 c5 p6 k7) 43] [Sq (some ⟨c,f,none⟩) k3 b.Channels,Sq p6 k7 c5.Epoch.Response.Stages] w) ?_ ?_
   ·refine h_c [0,1] [0,2,4] d y y (by kernel_rfl) y fun hC d=>gn 3 [0,1,2] [0] s hC y y y fun a s=>gx s 3 y j8 y hC m5 o3 y y W X fun a s=>gv s 4 y y hC (fun w hC=>l7 (o':=av+4) u9 y D2 y y y) fun a s=>gv s 5 y y hC (fun w hC=>F5 (j:=4) (hC.ceAt 1 y) y F0 y) fun a s=>gm s 6 y y y hC fun a s=>gx s 7 y j8 y hC o4 t6 y y ab ac fun a s=>gv s 8 y y hC (fun w hC=>l7 (o':=aw+0) B7 y m8 y y y) fun a s=>gv s 9 y y hC (fun w hC=>F5 (j:=0) (hC.ceAt 0 y) y s8 y) fun a s=>gn 3 [10,11,12] [1] s hC y y y fun a s=>q9 (by kernel_rfl) ?_
    exact ⟨l,wj s d [0,1] [6,7]⟩
   rintro a w ⟨m,s,d⟩
   refine tn (cd s u y (fun u=>?_) fun u=>?_)
   ·refine sz0 4 s y fun a s=>?_
    obtain rfl:=oi u
    have af:=x _ y
    subst af
    have ag:=n _ y
    subst ag
    exact t7 (o8 (j4 (j4 (o8 (j4 (o8 (j4 (j4 (o8 (j4 (Y7 s y (F3 y) (F3 y) (d.ret y))))))))))))
   refine D1 (l9 (tn (j9 (rn0 2 s y fun a s=>?_))))
   obtain ⟨aJ,ah,u⟩:=bt u
   refine sv s (w9 y ah) y fun a s=>nl ⟨_,io u,m,wj s d [0,1] [0,1]⟩
  obtain ⟨az,u,t⟩:=X5 u
  have t:=(x _ t.symm).symm
  subst t
  refine u0 (j5 (j5 (o9 (tn (sz0 3 s y fun a s=>?_)))))
  obtain rfl:=oi u
  have ai:=n _ y
  subst ai
  exact t7 (o8 (j4 (j4 (o8 (j4 (Y7 s y (F3 y) (F3 y) (d.ret y)))))))
 obtain ⟨aA,u,v⟩:=X5 u
 have v:=(n _ v.symm).symm
 subst v
 refine u0 (j5 (j5 (o9 (tn (sz0 2 s y fun a s=>?_)))))
 obtain rfl:=oi u
 exact t7 (Y7 s y (F3 y) (F3 y) (d.ret y))
theorem b0B {w0 S0 p2 k3 p6 k7 l1 e5 r} (u:a4P l1 e5=some r) (hS:Dm S0 w0) (h4:(Sq p2 k3 l1).p S0 w0) (h8:(Sq p6 k7 e5.Response.Stages).p S0 w0):Ck Tryz.prog 75 #[sl p2 k3 l1,V41 e5 p6 k7] w0 S0 [] o5 r:=by
 refine en 30 func75 y hS y y y fun a s d=>?_
 have d:=(d.addE h4).addE h8
 refine sr (wb (C41 e5 p6 k7) s d y fun b9 a w s d=>?_)
 refine rz0 1 s y fun a s=>l3 (sz0 1 s y fun a s=>?_)
 refine m6 (u7 (fun g a w=>∃ b,Sl 30 [(0,sl p2 k3 l1),(3,pt b9),(5,iv g)] a∧Wd ⟨w0,S0,[]⟩ b [.box b9 (C41 e5 p6 k7) 41] [Sq p2 k3 l1,Sq p6 k7 e5.Response.Stages] w) 0 u ⟨S0,wj s d [0] [1,0]⟩ ?_)
 repeat clear u
 rintro g a w W ⟨b,s,d⟩ u l
 refine l3 (sz0 4 s y fun a s=>?_)
 refine cd s u y (fun u=>?_) fun u=>?_
 ·refine sk (l3 (m6 (l3 ?_)))
  obtain ⟨B,D,u⟩:=bt u
  obtain ⟨m,z,A,X,G,n,o,F,E⟩:=d.elemV 0 y D
  have v:=s
  have x:=d
  subst G
  have s:=v
  have d:=x
  obtain ⟨_,_,_,_,_,_,_,_,rfl,rfl,rfl,rfl,rfl,rfl,rfl,rfl,⟨R,n280,P,rfl,q⟩⟩:=E
  obtain rfl:=q.1
  have d:=(d.addE (e:=SlA R _ P B.Response.Stages) q).addE F
  obtain ⟨C,k,u⟩:=bt u
  refine C7 (fun a w=>∃ f,Sl 30 [(0,sl (some ⟨m,z,none⟩) k3 l1),(3,pt b9),(5,iv g),(29,.bool C)] a∧Wd ⟨w0,S0,[]⟩ f [.box b9 (C41 e5 p6 k7) 41] [Sq (some ⟨m,z,none⟩) k3 l1,Sq p6 k7 e5.Response.Stages] w) ?_ ?_
  ·rcases j0 (decide (B.From<e5.To)) with c | c
   ·have h:=D7 k c
    obtain ⟨U,H,h⟩:=K3 h
    obtain ⟨T,Y,J,K,L,I⟩:=d.elemK 2 y H
    obtain ⟨_,_,_,_,_,_,_,_,rfl,rfl,rfl,rfl,rfl,rfl,rfl,rfl,⟨S,n308,Q,rfl,t⟩⟩:=I
    obtain rfl:=t.1
    have d:=(d.addE (e:=SlA S _ Q U.Response.Stages) t).addE L
    refine h_c [0] [0,2] d y y (by kernel_rfl) y fun hC d=>gn 2 [0,1] [] s hC y y y fun a s=>gx s 2 y j8 y hC o4 t6 y y n o fun a s=>gv s 3 y y hC (fun w hC=>l7 (o':=A+0) B7 y m8 y y y) fun a s=>gv s 4 y y hC (fun w hC=>F5 (j:=0) (hC.ceAt 1 y) y s8 y) fun a s=>gn 4 [5,6,7,8] [0] s hC y y y fun a s=>?_
    have s:=s.bT 20 y c
    refine gn 4 [9,10,11,12] [0] s hC y y y fun a s=>gx s 13 y ⟨_,y,y⟩ y hC o4 t6 y y J K fun a s=>gt s 14 y ⟨_,y,y⟩ y hC (fun w hC=>l7 (o':=T+1) B7 y m8 y y y) fun a s=>gt s 15 y ⟨_,y,y⟩ y hC (fun w hC=>F5 (j:=1) (hC.ceAt 0 y) y s8 y) fun a s=>gt s 16 y ⟨_,y,y⟩ y hC (fun w hC=>b1G y y) fun a s=>gT s 17 y y hC y y h fun a s=>q9 (by kernel_rfl) ?_
    exact ⟨b,wj s d [0] [4,5]⟩
   have M:=E8 k c
   refine h_c [0] [0] d y y (by kernel_rfl) y fun hC d=>gn 2 [0,1] [] s hC y y y fun a s=>gx s 2 y j8 y hC o4 t6 y y n o fun a s=>gv s 3 y y hC (fun w hC=>l7 (o':=A+0) B7 y m8 y y y) fun a s=>gv s 4 y y hC (fun w hC=>F5 (j:=0) (hC.ceAt 0 y) y s8 y) fun a s=>gn 4 [5,6,7,8] [0] s hC y y y fun a s=>?_
   have s:=s.bF 20 y c
   refine gn 8 [9,10,11,12,13,14,15,16] [] s hC y y y fun a s=>gF s 17 y y hC y y M fun a s=>q9 (by kernel_rfl) ?_
   exact ⟨b,wj s d [0] [2,3]⟩
  rintro a w ⟨f,s,d⟩
  refine tn (cd s u y (fun u=>?_) fun u=>?_)
  ·refine sz0 1 s y fun a s=>?_
   obtain rfl:=oi u
   have N:=l _ y
   subst N
   exact t7 (o8 (j4 (j4 (o8 (j4 (rt s y (d.ret y)))))))
  refine D1 (l9 (tn (j9 (rn0 2 s y fun a s=>?_))))
  obtain ⟨Z,O,u⟩:=bt u
  refine sv s (w9 y O) y fun a s=>nl ⟨_,io u,f,wj s d [0] [0,1]⟩
 obtain ⟨V,u,i⟩:=X5 u
 have i:=(l _ i.symm).symm
 subst i
 refine u0 (j5 (j5 (o9 (tn (sz0 1 s y fun a s=>?_)))))
 obtain rfl:=oi u
 exact q1 s y (d.ret y)
theorem b3W {w0 S0 p2 k3 p6 k7 l1 e5 r} (u:a9d l1 e5=some r) (hS:Dm S0 w0) (h4:(Sq p2 k3 l1).p S0 w0) (h8:(Sq p6 k7 e5.Response.Stages).p S0 w0):Ck Tryz.prog 76 #[sl p2 k3 l1,V41 e5 p6 k7] w0 S0 [] J5 r:=by
 refine en 36 func76 y hS y y y fun a s d=>?_
 have d:=(d.addE h4).addE h8
 refine sr (wb (C41 e5 p6 k7) s d y fun b9 a w s d=>?_)
 refine rz0 1 s y fun a s=>sz0 1 s y fun a s=>l3 ?_
 obtain ⟨ah,x,u⟩:=bt u
 refine A7 (fun a w=>∃ t,Sl 36 [(0,sl p2 k3 l1),(3,pt b9),(5,iv ah)] a∧Wd ⟨w0,S0,[]⟩ t [.box b9 (C41 e5 p6 k7) 41] [Sq p2 k3 l1,Sq p6 k7 e5.Response.Stages] w) ?_ ?_
 ·refine m6 (u7 (fun l a w=>∃ k,Sl 36 [(0,sl p2 k3 l1),(3,pt b9),(5,iv l)] a∧Wd ⟨w0,S0,[]⟩ k [.box b9 (C41 e5 p6 k7) 41] [Sq p2 k3 l1,Sq p6 k7 e5.Response.Stages] w) 0 x ⟨S0,wj s d [0] [1,0]⟩ ?_)
  clear x
  repeat clear u
  rintro l a w aE ⟨k,s,d⟩ u ac
  refine l3 (l3 ?_)
  obtain ⟨E,q,u⟩:=bt u
  refine C7 (fun a w=>∃ g,Sl 36 [(0,sl p2 k3 l1),(3,pt b9),(5,iv l),(20,.bool E)] a∧Wd ⟨w0,S0,[]⟩ g [.box b9 (C41 e5 p6 k7) 41] [Sq p2 k3 l1,Sq p6 k7 e5.Response.Stages] w) ?_ ?_
  ·rcases j0 (decide (l<(l1.length:Int))) with i | i
   ·have m:=D7 q i
    obtain ⟨ag,G,m⟩:=K3 m
    obtain ⟨aj,az,af,al,L,I,J,K,H⟩:=d.elemV 0 y G
    have z:=s
    have A:=d
    subst L
    have s:=z
    have d:=A
    obtain ⟨_,_,_,_,_,_,_,_,rfl,rfl,rfl,rfl,rfl,rfl,rfl,rfl,⟨ae,n119,ad,rfl,v⟩⟩:=H
    obtain rfl:=v.1
    have d:=(d.addE (e:=SlA ae _ ad ag.Response.Stages) v).addE K
    refine h_c [0] [0] d y y (by kernel_rfl) y fun hC d=>gn 5 [0,1,2,3,4] [] s hC y y y fun a s=>?_
    have s:=s.bT 11 y i
    refine gn 2 [5,6] [] s hC y y y fun a s=>gx s 7 y ⟨_,y,y⟩ y hC o4 t6 y y I J fun a s=>gt s 8 y ⟨_,y,y⟩ y hC (fun w hC=>l7 (o':=af+0) B7 y m8 y y y) fun a s=>gt s 9 y ⟨_,y,y⟩ y hC (fun w hC=>F5 (j:=0) (hC.ceAt 0 y) y s8 y) fun a s=>gn 3 [10,11,12] [0] s hC y y y fun a s=>gT s 13 y y hC y y m fun a s=>q9 (by kernel_rfl) ?_
    exact ⟨k,wj s d [0] [2,3]⟩
   have M:=E8 q i
   refine h_c [0] [] d y y (by kernel_rfl) y fun hC d=>gn 5 [0,1,2,3,4] [] s hC y y y fun a s=>?_
   have s:=s.bF 11 y i
   refine gn 8 [5,6,7,8,9,10,11,12] [] s hC y y y fun a s=>gF s 13 y y hC y y M fun a s=>q9 (by kernel_rfl) ?_
   exact ⟨k,wj s d [0] [0,1]⟩
  rintro a w ⟨g,s,d⟩
  refine tn (cd s u y (fun u=>?_) fun u=>?_)
  ·refine sk (m6 (j9 (rn0 2 s y fun a s=>?_)))
   obtain ⟨ao,N,u⟩:=bt u
   refine sv s (w9 y N) y fun a s=>l4 ?_
   exact l9 (tn ⟨_,io u,g,wj s d [0] [0,1]⟩)
  refine u0 (j5 (j5 (o9 ?_)))
  obtain rfl:=oi u
  have O:=ac _ y
  subst O
  exact tn ⟨g,wj s d [0] [0,1]⟩
 rintro a w ⟨t,s,d⟩
 refine tn (sn0 2 s y fun a s=>?_)
 obtain ⟨av,P,u⟩:=bt u
 obtain ⟨aA,ap,Q,R⟩:=a7Y (d.envAt 0 y) P
 have d:=d.addE Q
 refine sv s (U4 o4 t6 y (by exact y) ⟨_,y⟩ R) y fun a s=>?_
 obtain ⟨aw,S,u⟩:=bt u
 have d:=d.nilRow Epoch 41
 refine R4 (α:=Epoch) s d a7k 0 y y y 0 y 1 y S y j8 ?_
 intro aB aq am a w s d
 refine rz0 1 s y fun a s=>l3 ?_
 obtain ⟨h,T,u⟩:=bt u
 obtain ⟨ax,V,u⟩:=bt u
 obtain ⟨ay,W,u⟩:=bt u
 obtain ⟨aD,au,X,Y⟩:=a7Y (d.envAt 3 y) W
 have d:=d.addE X
 obtain ⟨n,Z,u⟩:=bt u
 refine C7 (fun a w=>∃ o b c f,Sl 36 [(4,sl f c n)] a∧Wd ⟨w0,S0,[]⟩ o [.row f n.length c b 41 8] [j6 b n] w) ?_ ?_
 ·refine h_c [1] [] d y y (by kernel_rfl) y fun hC d=>gn 4 [0,1,5,6] [0] s hC y y y fun a s=>gv s 7 y y hC (fun w hC=>U4 o4 t6 y ⟨_,y⟩ (by exact y) Y) fun a s=>ho 2 y ?_
  refine cR s (a0c T d.dom (d.envAt 5 y)) (j3 call45 y) y ?_
  rintro aF ai w a aa ⟨C,B,F,rfl,ab,U⟩ s
  have d:=(d.callN aa ab).addE (e:=j6 F h.Response.Stages) U
  refine h_n [2] [] d y y fun hC=>ho 3 y ?_
  obtain ⟨D,d⟩:=C8 (α:=Stage) d 0 y 0 y
  refine q8 (α:=Epoch) (vs:=[V41 h C B]) (cs:=(C41 h C B)) (xs:=([h]:List Epoch)) s d a7k y y y y y y ⟨⟨_,_,_,_,_,_,_,_,y,y,y,y,y,y,y,y,⟨_,_,_,y,d.envAt 0 y⟩⟩,y⟩ y j8 y fun ak a w s d=>h_n [2] [] d y y fun hC=>h_d [2,0] [] [0] [] d y y y y fun hC=>ho 4 y ?_
  refine F6 (α:=Epoch) s d a7k 1 y y y 4 y 0 y 0 y V y j8 ?_
  intro aC ar an a w s d
  refine h_n [2,0] [] d y y fun hC=>ho 8 y ?_
  refine R4 (α:=Epoch) s d a7k 1 y y y 0 y 4 y Z y j8 ?_
  intro f c b a w s d
  refine h_n [2,0] [] d y y fun hC=>gv s 9 y y hC (fun w hC=>J6 y) fun a s=>q9 (by kernel_rfl) ?_
  exact ⟨D,b,c,f,wj s d [1] [0]⟩
 rintro a w ⟨o,b,c,f,s,d⟩
 refine tn ?_
 obtain rfl:=oi u
 exact q1 s y (d.ret ⟨f,c,b,y,(d.outs [0] (by decide) y),(d.envAt 0 y)⟩)
abbrev a8E (w0:World) (X:List Nat) (r:(Inventory × Int)):Rd:=fun S w v=>∃ b a,v=.tuple #[.agg #[sl b a r.1.Channels],iv r.2]∧(Sq b a r.1.Channels).p S w
abbrev a5g:List Value:=[.slice none ([]:List Channel).length 0]
theorem a0j {w0 S0 p2 k3 p6 k7 V c5 r} (u:a0i V c5=some r) (hS:Dm S0 w0) (h4:(Sq p2 k3 V.Channels).p S0 w0) (h8:(Sq p6 k7 c5.Epoch.Response.Stages).p S0 w0):Ck Tryz.prog 33 #[.agg #[sl p2 k3 V.Channels],V43 c5 p6 k7] w0 S0 [] a8E r:=by
 refine en 157 func33 y hS y y y fun a s d=>?_
 have d:=(d.addE h4).addE h8
 refine sr (wb [sl p2 k3 V.Channels] s d y fun b9 a w s d=>?_)
 refine wb (C43 c5 p6 k7) s d y fun h a w s d=>wa a5g s d zeroValue29 fun b a w s d=>rz0 1 s y fun a s=>l3 (sn 2 [2,1] s d y y fun a s=>?_)
 obtain ⟨eb,db,u⟩:=bt u
 refine cV s d (b3c db d.bdom (d.bE 1 y) (d.bE 0 y)) (j3 call72 y) y fun a w s d=>rz0 1 s y fun a s=>cd s u y (fun u=>?_) fun u=>?_
 ·refine sr (sv s (A8 (vs:=[]) a5Q y y) y fun a s=>?_)
  refine ws a5g s d 0 y y y s9 fun a w s d=>rz0 1 s y fun a s=>?_
  obtain rfl:=oi u
  have d:=d.addE (e:=SlA (α:=Channel) none 0 0 []) K9
  exact t7 (j4 (Y7 s y (D8 d 0 y y D4 s9 y) (F3 y) (d.ret ⟨none,0,y,(d.envAt 0 y)⟩)))
 refine sk (sn 1 [2] s d y y fun a s=>?_)
 obtain ⟨ak,dc,u⟩:=bt u
 refine cR s (a3K dc d.dom (d.envAt 1 y)) (j3 call73 y) y ?_
 rintro ee bh w a de ⟨bg,Z,bf,rfl,df,dd⟩ s
 have d:=(d.callN de df).addE (e:=j6 bf ak.Channels) dd
 refine wa a5g s d zeroValue29 fun c a w s d=>ws [sl bg Z ak.Channels] s d 0 y y y s9 fun a w s d=>nl (sn 2 [0,3] s d y y fun a s=>?_)
 obtain ⟨Y,dg,u⟩:=bt u
 refine cV s d (a8F dg d.bdom (d.bRow 1 y 0 y) (d.bE 1 y)) (j3 call74 y) y fun a w s d=>rz0 5 s y fun a s=>l3 (sz 3 [3] s d y y fun a s=>?_)
 refine A7 (fun a w=>∃ (g:(List Channel)) (l o i B:_),a1H c5 Y g=some r∧Sl 157 [(3,pt h),(4,pt b),(6,pt c),(7,iv Y.1)] a∧Wd ⟨w0,S0,[]⟩ B [.box h (C43 c5 p6 k7) 43,.box b a5g 29,.box c [sl o i g] 29,.row o g.length i l 73 5] [Sq p6 k7 c5.Epoch.Response.Stages,Sq none 0 ([]:List Channel),j6 l g] w) ?_ ?_
 ·refine cd s u y (fun u=>?_) fun u=>?_
  ·refine l3 (sz0 2 s y fun a s=>?_)
   refine cd s u y (fun u=>?_) fun u=>?_
   ·refine sr (sv s (A8 (vs:=[]) a5Q y y) y fun a s=>?_)
    refine ws a5g s d 2 y y y s9 fun a w s d=>rz0 1 s y fun a s=>?_
    obtain rfl:=oi u
    have d:=d.addE (e:=SlA (α:=Channel) none 0 0 []) K9
    exact t7 (j4 (j4 (j4 (Y7 s y (D8 d 2 y y D4 s9 y) (F3 y) (d.ret ⟨none,0,y,(d.envAt 0 y)⟩)))))
   refine sk (sn 3 [0] s d y y fun a s=>?_)
   obtain ⟨c9,cg,u⟩:=bt u
   obtain ⟨aa,cZ,dy,ck,aQ,ci,cj,ch⟩:=d.elemRV (α:=Channel) 1 y 0 y cg
   have a0:=s
   have a5:=d
   subst ck
   have s:=a0
   have d:=a5
   obtain ⟨_,_,_,_,_,rfl,rfl,rfl,rfl,rfl,⟨cQ,dZ,cF,rfl,aR⟩⟩:=ch
   obtain rfl:=aR.1
   have d:=d.addE (e:=SlA cQ _ cF c9.Epochs) aR
   refine sv s (o7 m5 o3 y y aQ.1 aQ.2 ci) y fun a s=>sv s (l7 (o':=cZ+4) u9 y D2 y y y) y fun a s=>sv s (H5 (j:=4) (d.ownAt 1 y) y F0 cj y) y fun a s=>rz0 1 s y fun a s=>?_
   obtain ⟨dP,cl,u⟩:=bt u
   obtain ⟨d5,dI,cm,cn⟩:=a7Y (d.envAt 0 y) cl
   have d:=d.addE cm
   obtain ⟨dQ,co,u⟩:=bt u
   obtain ⟨dR,cp,u⟩:=bt u
   obtain ⟨d7,dK,cq,cr⟩:=a7Y (d.envAt 1 y) cp
   have d:=d.addE cq
   obtain ⟨dS,ct,u⟩:=bt u
   obtain ⟨da,cu,u⟩:=bt u
   obtain ⟨c0,dB,cw,aS,cx,cv⟩:=d.elemRK (α:=Channel) 1 y 3 y cu
   obtain ⟨_,_,_,_,_,rfl,rfl,rfl,rfl,rfl,⟨cS,d0,cG,rfl,aT⟩⟩:=cv
   obtain rfl:=aT.1
   have d:=d.addE (e:=SlA cS _ cG da.Epochs) aT
   obtain ⟨X,aU,u⟩:=bt u
   refine C7 (fun a w=>∃ U A,Sl 157 [(3,pt h),(4,pt b),(6,pt c),(7,iv Y.1)] a∧Wd ⟨w0,S0,[]⟩ U [.box h (C43 c5 p6 k7) 43,.box b a5g 29,.box c [sl (ad aa) Z X] 29,.row (ad aa) X.length Z A 73 5] [Sq p6 k7 c5.Epoch.Response.Stages,Sq none 0 ([]:List Channel),j6 A X] w) ?_ ?_
   ·refine h_c [0,2,3,4] [] d y y (by kernel_rfl) y fun hC d=>gn 5 [0,1,2,3,4] [0] s hC y y y fun a s=>gv s 5 y y hC (fun w hC=>U4 o4 t6 y (by exact y) ⟨_,y⟩ cn) fun a s=>gn 3 [7,8,9] [] s hC y y y fun a s=>gv s 10 y y hC (fun w hC=>U4 o4 t6 y ⟨_,y⟩ (by exact y) cr) fun a s=>ho 6 y ?_
    have d:=d.nilRow Epoch 41
    refine R4 (α:=Epoch) s d a7k 0 y y y 0 y 3 y co y j8 ?_
    intro d6 dJ dz a w s d
    refine h_n [1,3,4,5] [] d y y fun hC=>ho 11 y ?_
    refine R4 (α:=Epoch) s d a7k 0 y y y 0 y 3 y ct y j8 ?_
    intro d8 dL dA a w s d
    refine h_n [1,3,4,5] [] d y y fun hC=>gx s 12 y j8 y hC m5 o3 y y cw aS fun a s=>gv s 13 y y hC (fun w hC=>l7 (o':=c0+4) u9 y D2 y y y) fun a s=>ho 14 y ?_
    obtain ⟨bb,d⟩:=C8 (α:=Epoch) d 0 y 0 y
    refine a6G (α:=Channel) (f:=4) (m:=1) s d 1 rfl 8 rfl aS rfl rfl D2 rfl rfl rfl aU (fun es he=>by rw [cx] at he;subst he;exact ⟨_,_,_,_,_,rfl,rfl,rfl,rfl,rfl,⟨_,_,_,rfl,d.envAt 0 rfl⟩⟩) j8 ?_
    intro A a w s d
    have aV:=Y8 aU
    try have s:=s.fl 36 rfl aV
    refine h_n [0,2,3,4] [] d y y fun hC=>q9 (by kernel_rfl) ?_
    have d:=(d.fixB 0 0 y y aV).addE (e:=SlA (α:=Channel) none 0 0 []) K9
    exact ⟨bb,A,wj s d [3,2,0,1] [11,0,1]⟩
   rintro a w ⟨U,A,s,d⟩
   exact tn ⟨X,A,(ad aa),Z,U,u,wj s d [0,1,2,3] [0,1,2]⟩
  refine sk ?_
  have d:=d.addE (e:=SlA (α:=Channel) none 0 0 []) K9
  exact ⟨ak.Channels,bf,bg,Z,bh,u,wj s d [3,2,0,1] [2,0,1]⟩
 rintro a w ⟨g,l,o,i,B,u,s,d⟩
 refine tn (l3 (sz 3 [0] s d y y fun a s=>?_))
 refine cd s u y (fun u=>?_) fun u=>?_
 ·refine l3 (sn 3 [2] s d y y fun a s=>?_)
  obtain ⟨c1,bn,u⟩:=bt u
  obtain ⟨aq,cT,dq,br,ar,bp,bq,bo⟩:=d.elemRV (α:=Channel) 3 y 2 y bn
  have aW:=s
  have a1:=d
  subst br
  have s:=aW
  have d:=a1
  obtain ⟨_,_,_,_,_,rfl,rfl,rfl,rfl,rfl,⟨cJ,n161,cy,rfl,au⟩⟩:=bo
  obtain rfl:=au.1
  have d:=d.addE (e:=SlA cJ _ cy c1.Epochs) au
  refine sv s (o7 m5 o3 y y ar.1 ar.2 bp) y fun a s=>sv s (l7 (o':=cT+4) u9 y D2 y y y) y fun a s=>sv s (H5 (j:=4) (d.ownAt 3 y) y F0 bq y) y fun a s=>rz0 2 s y fun a s=>A7 (fun a w=>∃ (P:(List Channel)) (O M al:_),a6A P=some r∧Sl 157 [(4,pt b),(6,pt c)] a∧Wd ⟨w0,S0,[]⟩ al [.box b a5g 29,.box c [sl O M P] 29] [Sq none 0 ([]:List Channel),Sq O M P] w) ?_ ?_
  ·refine cd s u y (fun u=>?_) fun u=>?_
   ·obtain ⟨dh,d⟩:=C8 (α:=Channel) d 3 y 3 y
    obtain ⟨a6,bs,u⟩:=bt u
    obtain ⟨bu,av⟩:=sub_env3 (d.envAt 0 y) bs
    have d:=d.addE (e:=Sq (ad aq) a6.length a6) bu
    obtain ⟨dM,bv,u⟩:=bt u
    obtain ⟨d1,dE,bw,aw⟩:=a7Y (d.envAt 1 y) bv
    have d:=d.addE bw
    obtain ⟨N,ax,u⟩:=bt u
    refine C7 (fun a w=>∃ Q n q,Sl 157 [(4,pt b),(6,pt c)] a∧Wd ⟨w0,S0,[]⟩ Q [.box b a5g 29,.box c [sl q n N] 29] [Sq none 0 ([]:List Channel),Sq q n N] w) ?_ ?_
    ·refine h_c [0,1] [] d y y (by kernel_rfl) y fun hC d=>gn 6 [0,2,3,5,7,8] [] s hC y y y fun a s=>a2E (rs:=[1,6]) (by kernel_rfl) y ?_
     refine Q7.cons y ?_ ?_
     ·refine sv s (P6 (d.ownAt 2 y) y I2 y) y fun a s=>h_n [0,1] [] d y y fun hC=>gv s 4 y y hC (fun w hC=>b2O m5 o3 y (by exact y) y y av) fun a s=>ho 6 y ?_
      refine sv s (P6 (d.ownAt 2 y) y I2 y) y fun a s=>h_n [0,1] [] d y y fun hC=>gv s 9 y y hC (fun w hC=>U4 m5 o3 y ⟨_,y⟩ (by exact y) aw) fun a s=>ho 10 y ?_
      refine b3y (α:=Channel) s d a8i 1 y 0 y y y ax y j8 ?_
      intro q n a7 a w s d
      refine h_n [0,1] [] d y y fun hC=>gv s 11 y y hC (fun w hC=>l7 (o':=0) D3 y E4 y y y) fun a s=>ho 12 y ?_
      refine ws [sl q n N] s d 2 y y y E4 fun a w s d=>h_n [0,1] [] d y y fun hC=>q9 (by kernel_rfl) ?_
      exact ⟨a7,n,q,wj s d [1,2] [6,0]⟩
     refine Q7.cons y ?_ ?_
     ·refine sv s (P6 (d.ownAt 2 y) y I2 y) y fun a s=>h_n [0,1] [] d y y fun hC=>gv s 9 y y hC (fun w hC=>U4 m5 o3 y ⟨_,y⟩ (by exact y) aw) fun a s=>ho 1 y ?_
      refine sv s (P6 (d.ownAt 2 y) y I2 y) y fun a s=>h_n [0,1] [] d y y fun hC=>gv s 4 y y hC (fun w hC=>b2O m5 o3 y (by exact y) y y av) fun a s=>ho 10 y ?_
      refine b3y (α:=Channel) s d a8i 1 y 0 y y y ax y j8 ?_
      intro q n a8 a w s d
      refine h_n [0,1] [] d y y fun hC=>gv s 11 y y hC (fun w hC=>l7 (o':=0) D3 y E4 y y y) fun a s=>ho 12 y ?_
      refine ws [sl q n N] s d 2 y y y E4 fun a w s d=>h_n [0,1] [] d y y fun hC=>q9 (by kernel_rfl) ?_
      exact ⟨a8,n,q,wj s d [1,2] [6,0]⟩
     exact Q7.nil
    rintro a w ⟨Q,n,q,s,d⟩
    exact tn ⟨N,q,n,Q,u,wj s d [0,1] [0,1]⟩
   refine sk ?_
   obtain ⟨a9,d⟩:=C8 (α:=Channel) d 3 y 3 y
   exact ⟨g,(ad aq),i,a9,u,wj s d [1,2] [3,0]⟩
  rintro a w ⟨P,O,M,al,u,s,d⟩
  refine tn (sn 1 [1] s d y y fun a s=>?_)
  refine ws [sl O M P] s d 0 y y y s9 fun a w s d=>rz0 1 s y fun a s=>?_
  obtain rfl:=oi u
  exact t7 (j4 (Y7 s y (D8 d 0 y y D4 s9 y) (F3 y) (d.ret ⟨O,M,y,(d.envAt 1 y)⟩)))
 refine sk (l3 (sz0 2 s y fun a s=>?_))
 refine A7 (fun a w=>∃ (x:(List Channel)) (L:Int) (G ai k R:_),a3a c5 x L=some r∧Sl 157 [(3,pt h),(4,pt b),(6,pt c),(7,iv L)] a∧Wd ⟨w0,S0,[]⟩ R [.box h (C43 c5 p6 k7) 43,.box b a5g 29,.box c [sl ai k x] 29,.row ai x.length k G 73 5] [Sq p6 k7 c5.Epoch.Response.Stages,Sq none 0 ([]:List Channel),j6 G x] w) ?_ ?_
 ·refine cd s u y (fun u=>?_) fun u=>?_
  ·refine sz0 1 s y fun a s=>l3 ?_
   obtain ⟨ab,aP,u⟩:=bt u
   refine A7 (fun a w=>∃ S,Sl 157 [(3,pt h),(4,pt b),(6,pt c),(7,iv ab)] a∧Wd ⟨w0,S0,[]⟩ S [.box h (C43 c5 p6 k7) 43,.box b a5g 29,.box c [sl o i g] 29,.row o g.length i l 73 5] [Sq p6 k7 c5.Epoch.Response.Stages,Sq none 0 ([]:List Channel),j6 l g] w) ?_ ?_
   ·refine m6 (u7 (fun F a w=>∃ D,Sl 157 [(3,pt h),(4,pt b),(6,pt c),(7,iv F)] a∧Wd ⟨w0,S0,[]⟩ D [.box h (C43 c5 p6 k7) 43,.box b a5g 29,.box c [sl o i g] 29,.row o g.length i l 73 5] [Sq p6 k7 c5.Epoch.Response.Stages,Sq none 0 ([]:List Channel),j6 l g] w) 0 aP ⟨B,wj s d [0,1,2,3] [0,1,2]⟩ ?_)
    clear aP
    repeat clear u
    rintro F a w dm ⟨D,s,d⟩ u bc
    refine l3 (l3 ?_)
    obtain ⟨bl,ap,u⟩:=bt u
    refine C7 (fun a w=>∃ E,Sl 157 [(3,pt h),(4,pt b),(6,pt c),(7,iv F),(91,.bool bl)] a∧Wd ⟨w0,S0,[]⟩ E [.box h (C43 c5 p6 k7) 43,.box b a5g 29,.box c [sl o i g] 29,.row o g.length i l 73 5] [Sq p6 k7 c5.Epoch.Response.Stages,Sq none 0 ([]:List Channel),j6 l g] w) ?_ ?_
    ·rcases j0 (decide (F<(g.length:Int))) with J | J
     ·have K:=D7 ap J
      obtain ⟨c7,bZ,K⟩:=K3 K
      obtain ⟨dn,cY,dv,b4,b1,b2,b3,b0⟩:=d.elemRV (α:=Channel) 3 y 2 y bZ
      have aY:=s
      have a3:=d
      subst b4
      have s:=aY
      have d:=a3
      obtain ⟨_,_,_,_,_,rfl,rfl,rfl,rfl,rfl,⟨cO,dX,cD,rfl,aF⟩⟩:=b0
      obtain rfl:=aF.1
      have d:=d.addE (e:=SlA cO _ cD c7.Epochs) aF
      obtain ⟨dl,b5,K⟩:=K3 K
      refine h_c [0,1,2,3] [] d y y (by kernel_rfl) y fun hC d=>gn 6 [0,1,2,3,4,5] [2] s hC y y y fun a s=>?_
      have s:=s.bT 80 y J
      refine gn 3 [6,7,8] [2] s hC y y y fun a s=>gx s 9 y ⟨_,y,y⟩ y hC m5 o3 y y b1 b2 fun a s=>gt s 10 y ⟨_,y,y⟩ y hC (fun w hC=>l7 (o':=cY+0) u9 y s6 y y y) fun a s=>gt s 11 y ⟨_,y,y⟩ y hC (fun w hC=>I4 (j:=0) (hC.ownAt 3 y) y B9 s6 b3 y y) fun a s=>gn 2 [12,13] [0] s hC y y y fun a s=>ho 14 y ?_
      refine x9 s (a3n b5 d.bdom) (j3 call63 y) ⟨_,y,y⟩ y y ?_
      rintro ed dk w a b6 rfl s
      have d:=d.callB b6
      refine h_n [0,1,2,3] [] d y y fun hC=>gt s 15 y ⟨_,y,y⟩ y hC (fun w hC=>b1G y y) fun a s=>gT s 16 y y hC y y K fun a s=>q9 (by kernel_rfl) ?_
      exact ⟨D,wj s d [0,1,2,3] [1,2,3]⟩
     have b7:=E8 ap J
     refine h_c [0,1,2,3] [] d y y (by kernel_rfl) y fun hC d=>gn 6 [0,1,2,3,4,5] [2] s hC y y y fun a s=>?_
     have s:=s.bF 80 y J
     refine gn 10 [6,7,8,9,10,11,12,13,14,15] [] s hC y y y fun a s=>gF s 16 y y hC y y b7 fun a s=>q9 (by kernel_rfl) ?_
     exact ⟨D,wj s d [0,1,2,3] [0,1,2]⟩
    rintro a w ⟨E,s,d⟩
    refine tn (cd s u y (fun u=>?_) fun u=>?_)
    ·refine sk (m6 (j9 (rn0 2 s y fun a s=>?_)))
     obtain ⟨dD,b8,u⟩:=bt u
     refine sv s (w9 y b8) y fun a s=>l4 ?_
     exact l9 (tn ⟨_,io u,E,wj s d [0,1,2,3] [0,1,2]⟩)
    refine u0 (j5 (j5 (o9 ?_)))
    obtain rfl:=oi u
    have ca:=bc _ y
    subst ca
    exact tn ⟨E,wj s d [0,1,2,3] [0,1,2]⟩
   rintro a w ⟨S,s,d⟩
   refine tn (sn 2 [2] s d y y fun a s=>?_)
   refine sv s (A8 (vs:=[]) b1T y y) y fun a s=>?_
   have d:=d.addE (e:=SlA (α:=Epoch) none 0 0 []) K9
   refine q8 (α:=Channel) (vs:=[.agg Z2.toArray]) (cs:=Z2) (xs:=([(⟨(⟨ByteArray.empty,ByteArray.empty,ByteArray.empty,ByteArray.empty⟩:SourceID),([]:List Epoch)⟩:Channel)]:List Channel)) s d a8i y y y y y y ⟨⟨_,_,_,_,_,y,y,y,y,y,⟨_,_,_,y,d.envAt 0 y⟩⟩,y⟩ y j8 y fun dp a w s d=>?_
   obtain ⟨cH,cb,u⟩:=bt u
   refine F6 (α:=Channel) s d a8i 4 y y y 4 y 0 y 0 y cb y j8 ?_
   intro aj W dw a w s d
   refine sv s (l7 (o':=0) D3 y E4 y y y) y fun a s=>ws [sl aj W cH] s d 3 y y y E4 fun a w s d=>nl (l3 ?_)
   obtain ⟨dN,ae,u⟩:=bt u
   obtain ⟨d3,dG,aG⟩:=X9 (α:=Channel) d 4 y ae
   obtain ⟨dO,aH,u⟩:=bt u
   obtain ⟨d4,dH,aI⟩:=X9 (α:=Channel) d 4 y aH
   obtain ⟨ah,aJ,u⟩:=bt u
   refine C7 (fun a w=>∃ T H,Sl 157 [(3,pt h),(4,pt b),(6,pt c),(7,iv ab)] a∧Wd ⟨w0,S0,[]⟩ T [.box h (C43 c5 p6 k7) 43,.box b a5g 29,.box c [sl aj W ah] 29,.row aj ah.length W H 73 5] [Sq p6 k7 c5.Epoch.Response.Stages,Sq none 0 ([]:List Channel),j6 H ah] w) ?_ ?_
   ·refine h_c [0,1,2,3] [] d y y (by kernel_rfl) y fun hC d=>gn 4 [0,1,2,3] [3] s hC y y y fun a s=>gv s 4 y y hC (fun w hC=>U4 m5 o3 y ⟨_,y⟩ (by exact y) aG) fun a s=>gn 3 [5,6,7] [3] s hC y y y fun a s=>gv s 8 y y hC (fun w hC=>U4 m5 o3 y ⟨_,y⟩ (by exact y) aI) fun a s=>ho 9 y ?_
    obtain ⟨ds_,ag⟩:=b4i (d.ownAt 4 y) (d.envAt 0 y) aH aI
    refine b0O (α:=Channel) s d 4 y 0 y m5 m5 o3 (by decide) ae aG y y y ag.1 ag.2.1 ag.2.2 y j8 ?_
    intro H a w s d
    rw [Option.some.inj aJ] at d
    have af:=(a5k ae aJ)
    try have s:=s.fl 101 rfl af
    try have s:=s.fl 106 rfl af
    refine h_n [0,1,2,3] [] d y y fun hC=>q9 (by kernel_rfl) ?_
    have d:=d.fixB 3 0 y y af
    exact ⟨S,H,wj s d [1,2,3,4] [4,5,0]⟩
   rintro a w ⟨T,H,s,d⟩
   refine tn (j9 (rn 5 [2,0] s d y y fun a s=>?_))
   refine sv s (A8 (vs:=[(0,V32 c5.Source)]) b1T y y) y fun a s=>?_
   obtain ⟨c8,cc,u⟩:=bt u
   obtain ⟨bi,ea,dx,cf,aK,aL,dC,ce⟩:=d.elemRV (α:=Channel) 3 y 2 y cc
   have aZ:=s
   have a4:=d
   subst cf
   have s:=aZ
   have d:=a4
   obtain ⟨_,_,_,_,_,rfl,rfl,rfl,rfl,rfl,⟨cP,dY,cE,rfl,aM⟩⟩:=ce
   obtain rfl:=aM.1
   have d:=d.addE (e:=SlA cP _ cE c8.Epochs) aM
   refine sv s (o7 m5 o3 y y aK.1 aK.2 aL) y fun a s=>?_
   obtain ⟨cI,aN,u⟩:=bt u
   have d:=d.addE (e:=SlA (α:=Epoch) none 0 0 []) K9
   refine a5d (α:=Channel) s d 3 y 4 y aL y y o3 y aN ⟨_,_,_,_,_,y,y,y,y,y,⟨_,_,_,y,d.envAt 0 y⟩⟩ j8 ?_
   intro bm a w s d
   have aO:=Y8 aN
   try have s:=s.fl 111 rfl aO
   have d:=d.fixB 2 0 y y aO
   exact nl ⟨cI,ab,bm,(ad bi),W,T,u,wj s d [0,1,2,3] [3,4,0]⟩
  exact sk ⟨g,Y.1,l,o,i,B,u,wj s d [0,1,2,3] [0,1,2]⟩
 rintro a w ⟨x,L,G,ai,k,R,u,s,d⟩
 refine tn (l3 (l3 ?_))
 obtain ⟨c2,bx,u⟩:=bt u
 obtain ⟨t,cU,dr,bD,bA,bB,bC,bz⟩:=d.elemRV (α:=Channel) 3 y 2 y bx
 have aX:=s
 have a2:=d
 subst bD
 have s:=aX
 have d:=a2
 obtain ⟨_,_,_,_,_,rfl,rfl,rfl,rfl,rfl,⟨cK,dT,cz,rfl,ay⟩⟩:=bz
 obtain rfl:=ay.1
 have d:=d.addE (e:=SlA cK _ cz c2.Epochs) ay
 obtain ⟨bd,bG,u⟩:=bt u
 refine C7 (fun a w=>∃ am,Sl 157 [(3,pt h),(4,pt b),(6,pt c),(7,iv L),(125,.bool bd)] a∧Wd ⟨w0,S0,[]⟩ am [.box h (C43 c5 p6 k7) 43,.box b a5g 29,.box c [sl (ad t) k x] 29,.row (ad t) x.length k G 73 5] [Sq p6 k7 c5.Epoch.Response.Stages,Sq none 0 ([]:List Channel),j6 G x] w) ?_ ?_
 ·refine h_c [0,1,2,3] [] d y y (by kernel_rfl) y fun hC d=>gn 3 [0,1,2] [2] s hC y y y fun a s=>gx s 3 y j8 y hC m5 o3 y y bA bB fun a s=>gv s 4 y y hC (fun w hC=>l7 (o':=cU+4) u9 y D2 y y y) fun a s=>gv s 5 y y hC (fun w hC=>H5 (j:=4) (hC.ownAt 3 y) y F0 bC y) fun a s=>gn 2 [6,7] [0] s hC y y y fun a s=>ho 8 y ?_
  refine cV s d (b0B bG d.bdom (d.bE 0 y) (d.bE 1 y)) (j3 call75 y) y fun a w s d=>h_n [0,1,2,3] [] d y y fun hC=>q9 (by kernel_rfl) ?_
  exact ⟨R,wj s d [0,1,2,3] [1,2,3]⟩
 rintro a w ⟨am,s,d⟩
 refine tn (cd s u y (fun u=>?_) fun u=>?_)
 ·refine sr (sv s (A8 (vs:=[]) a5Q y y) y fun a s=>?_)
  refine ws a5g s d 1 y y y s9 fun a w s d=>rz0 1 s y fun a s=>?_
  obtain rfl:=oi u
  exact t7 (j4 (Y7 s y (D8 d 1 y y D4 s9 y) (F3 y) (d.ret ⟨none,0,y,(d.envAt 1 y)⟩)))
 refine sk (l3 ?_)
 obtain ⟨c3,bH,u⟩:=bt u
 obtain ⟨d9,ds,bJ,bK,bL,bI⟩:=d.elemRK (α:=Channel) 3 y 2 y bH
 obtain ⟨_,_,_,_,_,rfl,rfl,rfl,rfl,rfl,⟨cL,dU,cA,rfl,az⟩⟩:=bI
 obtain rfl:=az.1
 have d:=d.addE (e:=SlA cL _ cA c3.Epochs) az
 obtain ⟨be,bM,u⟩:=bt u
 obtain ⟨c4,bO,u⟩:=bt u
 obtain ⟨cW,dt,bQ,aA,bR,bP⟩:=d.elemRK (α:=Channel) 3 y 3 y bO
 obtain ⟨_,_,_,_,_,rfl,rfl,rfl,rfl,rfl,⟨cM,dV,cB,rfl,aB⟩⟩:=bP
 obtain rfl:=aB.1
 have d:=d.addE (e:=SlA cM _ cB c4.Epochs) aB
 obtain ⟨v,aC,u⟩:=bt u
 refine C7 (fun a w=>∃ C z,Sl 157 [(4,pt b),(6,pt c),(7,iv L)] a∧Wd ⟨w0,S0,[]⟩ C [.box b a5g 29,.box c [sl (ad t) k v] 29,.row (ad t) v.length k z 73 5] [Sq none 0 ([]:List Channel),j6 z v] w) ?_ ?_
 ·refine h_c [0,1,2] [] d y y (by kernel_rfl) y fun hC d=>gn 6 [0,1,2,3,4,5] [2,2] s hC y y y fun a s=>gx s 6 y j8 y hC m5 o3 y y bJ bK fun a s=>gn 3 [7,9,10] [0] s hC y y y fun a s=>ho 8 y ?_
  refine sv s (H5 (j:=4) (d.ownAt 3 y) y F0 bL y) y fun a s=>h_n [0,1,2] [] d y y fun hC=>ho 11 y ?_
  refine cR s (b3W bM d.dom (d.envAt 1 y) (d.envAt 2 y)) (j3 call76 y) y ?_
  rintro ec di w a bS ⟨d2,dF,bj,rfl,bU,bN⟩ s
  have d:=(d.callN bS bU).addE (e:=j6 bj be) bN
  refine h_n [1,2,3] [] d y y fun hC=>gx s 12 y j8 y hC m5 o3 y y bQ aA fun a s=>gv s 13 y y hC (fun w hC=>l7 (o':=cW+4) u9 y D2 y y y) fun a s=>ho 14 y ?_
  obtain ⟨ba,d⟩:=C8 (α:=Epoch) d 0 y 0 y
  refine a6G (α:=Channel) (f:=4) (m:=1) s d 3 rfl 6 rfl aA rfl rfl D2 rfl rfl rfl aC (fun es he=>by rw [bR] at he;subst he;exact ⟨_,_,_,_,_,rfl,rfl,rfl,rfl,rfl,⟨_,_,_,rfl,d.envAt 0 rfl⟩⟩) j8 ?_
  intro z a w s d
  have ac:=Y8 aC
  try have s:=s.fl 128 rfl ac
  try have s:=s.fl 131 rfl ac
  refine h_n [0,1,2] [] d y y fun hC=>q9 (by kernel_rfl) ?_
  have d:=d.fixB 2 0 y y ac
  exact ⟨ba,z,wj s d [1,2,3] [6,0]⟩
 rintro a w ⟨C,z,s,d⟩
 refine tn (l3 (sn 5 [1] s d y y fun a s=>?_))
 obtain ⟨bk,ao,u⟩:=bt u
 refine y7 9 (fun a w=>∃ an,Sl 157 [(4,pt b),(6,pt c),(154,.bool bk)] a∧Wd ⟨w0,S0,[]⟩ an [.box b a5g 29,.box c [sl (ad t) k v] 29,.row (ad t) v.length k z 73 5] [Sq none 0 ([]:List Channel),j6 z v] w) ?_ ?_
 ·rcases j0 (decide (128<(v.length:Int))) with I | I
  ·have s:=s.bT 145 y I
   have u:=D7 ao I
   refine rn0 9 s y fun a s=>l4 ?_
   obtain rfl:=oi u
   exact tn ⟨C,wj s d [0,1,2] [0,1]⟩
  have s:=s.bF 145 y I
  have u:=E8 ao I
  refine rn 3 [1] s d y y fun a s=>?_
  obtain ⟨c6,bV,u⟩:=bt u
  obtain ⟨cX,du,aD,bX,bY,bW⟩:=d.elemRK (α:=Channel) 2 y 1 y bV
  obtain ⟨_,_,_,_,_,rfl,rfl,rfl,rfl,rfl,⟨cN,dW,cC,rfl,aE⟩⟩:=bW
  obtain rfl:=aE.1
  have d:=d.addE (e:=SlA cN _ cC c6.Epochs) aE
  refine D6 s (o7 m5 o3 y y aD.1 aD.2 bX) ⟨_,y,y⟩ y y fun a s=>D6 s (l7 (o':=cX+4) u9 y D2 y y y) ⟨_,y,y⟩ y y fun a s=>D6 s (H5 (j:=4) (d.ownAt 2 y) y F0 bY y) ⟨_,y,y⟩ y y fun a s=>rn0 3 s y fun a s=>l4 ?_
  obtain rfl:=oi u
  exact tn ⟨C,wj s d [0,1,2] [1,2]⟩
 rintro a w ⟨an,s,d⟩
 refine nl (cd s u y (fun u=>?_) fun u=>?_)
 ·refine sr (sv s (A8 (vs:=[]) a5Q y y) y fun a s=>?_)
  refine ws a5g s d 0 y y y s9 fun a w s d=>rz0 1 s y fun a s=>?_
  obtain rfl:=oi u
  exact t7 (j4 (Y7 s y (D8 d 0 y y D4 s9 y) (F3 y) (d.ret ⟨none,0,y,(d.envAt 0 y)⟩)))
 refine sk (sn 1 [1] s d y y fun a s=>?_)
 refine ws [sl (ad t) k v] s d 0 y y y s9 fun a w s d=>rz0 1 s y fun a s=>?_
 obtain rfl:=oi u
 obtain ⟨dj,d⟩:=C8 (α:=Channel) d 2 y 1 y
 exact t7 (Y7 s y (D8 d 0 y y D4 s9 y) (F3 y) (d.ret ⟨(ad t),k,y,(d.envAt 0 y)⟩))
abbrev a7K (w0:World) (X:List Nat) (b2:Nat) (r:(Inventory × Dice)):(Nat→Prop)→World→Value→Prop:=fun S w v=>∃ d c b a,v=.agg #[sl d c r.1.Channels]∧Outs X w0 S w [.box b2 (C94 r.2 b a) 94]∧(Sq d c r.1.Channels).p S w∧(Sq b a r.2.L).p S w
abbrev b0i:List Value:=[.slice none ([]:List Channel).length 0]
theorem a7J {w0 S0 b2 p3 k4 d1 n6 r} (u:a0z d1 n6=some r) (hS:Dm S0 w0) (hin:Ins S0 w0 [.box b2 (C94 d1 p3 k4) 94]) (h5:(Sq p3 k4 d1.L).p S0 w0):Calls Tryz.prog 12 #[pt b2,iv n6] w0 (Ret (J3 [.box b2 (C94 d1 p3 k4) 94]) w0 S0 (a7K w0 (J3 [.box b2 (C94 d1 p3 k4) 94]) b2 r)):=by
 refine enI 29 func12 y hS hin y y y fun a s d=>?_
 have d:=d.addE h5
 refine sr (wa b0i s d zeroValue29 fun b7 a w s d=>?_)
 refine nl (sr (wa b0i s d zeroValue29 fun b8 a w s d=>?_))
 refine nl (l3 (sn0 3 s y fun a s=>?_))
 obtain ⟨D,h9,u⟩:=bt u
 refine cR s (u6 h9 d.dom (d.ins [2] (by decide) y) (d.envAt 0 y)) (j3 call23 y) y ?_
 rintro ay W w a aj ⟨V,U,rfl,ak,ai⟩ s
 have d:=(d.callO [2] [0,1] (by decide) y aj ak).addE (e:=Sq V U D.2.L) ai
 refine rz0 1 s y fun a s=>?_
 obtain ⟨l,O,u⟩:=bt u
 refine A7 (fun a w=>∃ B z t o K,Sl 29 [(4,pt b7),(5,pt b8)] a∧Wd ⟨w0,S0,J3 [.box b2 (C94 d1 p3 k4) 94]⟩ K [.box b2 [sl B z l.1,iv l.2.1] 94,.box b7 b0i 29,.box b8 [sl t o l.2.2] 29] [Sq B z l.1,Sq none 0 ([]:List Channel),Sq t o l.2.2] w) ?_ ?_
 ·refine m6 ?_
  have d:=d.addE (e:=SlA (α:=Channel) none 0 0 []) K9
  refine u7 (fun i a w=>∃ p74 M v q F,Sl 29 [(0,pt b2),(4,pt b7),(5,pt b8),(6,iv i.2.2.2)] a∧Wd ⟨w0,S0,J3 [.box b2 (C94 d1 p3 k4) 94]⟩ F [.box b2 [sl p74 M i.1,iv i.2.1] 94,.box b7 b0i 29,.box b8 [sl v q i.2.2.1] 29] [Sq p74 M i.1,Sq none 0 ([]:List Channel),Sq v q i.2.2.1] w) (D.2.L,D.2.At,([]:List Channel),D.1) O ⟨V,U,none,0,W,wj s d [0,2,1] [1,0,0]⟩ ?_
  clear O
  repeat clear u
  rintro i a w T ⟨p74,M,v,q,F,s,d⟩ u S
  refine l3 (sz0 2 s y fun a s=>?_)
  refine cd s u y (fun u=>?_) fun u=>?_
  ·refine sk (l3 (m6 (l3 ?_)))
   obtain ⟨j,N,u⟩:=bt u
   obtain ⟨f,J,u⟩:=bt u
   refine C7 (fun a w=>∃ m k g b h c,Sl 29 [(0,pt b2),(4,pt b7),(5,pt b8),(6,iv i.2.2.2),(7,pt k),(8,iv f.2)] a∧Wd ⟨w0,S0,J3 [.box b2 (C94 d1 p3 k4) 94]⟩ m [.box b2 (C94 j.2 h g) 94,.box b7 b0i 29,.box b8 [sl v q i.2.2.1] 29,.box k [sl c b f.1.Channels] 29] [Sq h g j.2.L,Sq none 0 ([]:List Channel),Sq v q i.2.2.1,Sq c b f.1.Channels] w) ?_ ?_
   ·refine h_c [1,2] [] d y y (by kernel_rfl) y fun hC d=>gn 3 [0,1,2] [1,1] s hC y y y fun a s=>a2E (rs:=[3,8]) (by kernel_rfl) y ?_
    refine Q7.cons y ?_ ?_
    ·refine cR s (L6 N d.dom (d.ins [0] (by decide) y) (d.envAt 0 y) (d.envAt 2 y)) (j3 call13 y) y ?_
     rintro ar al w a X ⟨ah,ag,G,h,g,rfl,Y,H,I⟩ s
     have d:=((d.callO [0] [1,2] (by decide) y X Y).addE (e:=j6 G j.1.Epoch.Response.Stages) H).addE (e:=Sq h g j.2.L) I
     refine h_n [2,3] [] d y y fun hC=>a2E (rs:=[4,8]) (by kernel_rfl) y ?_
     refine Q7.cons y ?_ ?_
     ·obtain ⟨am,d⟩:=C8 (α:=Stage) d 0 y 1 y
      refine cR s (a0j J d.dom (d.envAt 5 y) (d.envAt 0 y)) (j3 call33 y) y ?_
      rintro au P w a Z ⟨c,b,rfl,n⟩ s
      have d:=(d.call Z).addE (e:=Sq c b f.1.Channels) n
      refine h_n [1,2] [] d y y fun hC=>gn 3 [5,6,7] [] s hC y y y fun a s=>ho 8 y ?_
      refine wa b0i s d zeroValue29 fun k a w s d=>h_n [2,3] [] d y y fun hC=>ho 9 y ?_
      refine ws [sl c b f.1.Channels] s d 0 y y y s9 fun a w s d=>h_n [2,3] [] d y y fun hC=>gv s 10 y y hC (fun w hC=>J6 y) fun a s=>q9 (by kernel_rfl) ?_
      exact ⟨P,k,g,b,h,c,wj s d [1,2,3,0] [2,5,6,0]⟩
     refine Q7.cons y ?_ ?_
     ·refine wa b0i s d zeroValue29 fun k a w s d=>h_n [3,4] [] d y y fun hC=>ho 4 y ?_
      obtain ⟨an,d⟩:=C8 (α:=Stage) d 1 y 1 y
      refine cR s (a0j J d.dom (d.envAt 5 y) (d.envAt 0 y)) (j3 call33 y) y ?_
      rintro av Q w a aa ⟨c,b,rfl,n⟩ s
      have d:=(d.call aa).addE (e:=Sq c b f.1.Channels) n
      refine h_n [2,3] [] d y y fun hC=>gn 3 [5,6,7] [] s hC y y y fun a s=>ho 9 y ?_
      refine ws [sl c b f.1.Channels] s d 0 y y y s9 fun a w s d=>h_n [2,3] [] d y y fun hC=>gv s 10 y y hC (fun w hC=>J6 y) fun a s=>q9 (by kernel_rfl) ?_
      exact ⟨Q,k,g,b,h,c,wj s d [1,2,3,0] [2,5,6,0]⟩
     exact Q7.nil
    refine Q7.cons y ?_ ?_
    ·refine wa b0i s d zeroValue29 fun k a w s d=>h_n [2,3] [] d y y fun hC=>ho 3 y ?_
     refine cR s (L6 N d.dom (d.ins [1] (by decide) y) (d.envAt 0 y) (d.envAt 2 y)) (j3 call13 y) y ?_
     rintro aw ao w a ab ⟨ah,ag,G,h,g,rfl,ac,H,I⟩ s
     have d:=((d.callO [1] [0,2,3] (by decide) y ab ac).addE (e:=j6 G j.1.Epoch.Response.Stages) H).addE (e:=Sq h g j.2.L) I
     refine h_n [3,4] [] d y y fun hC=>ho 4 y ?_
     obtain ⟨ap,d⟩:=C8 (α:=Stage) d 0 y 1 y
     refine cR s (a0j J d.dom (d.envAt 5 y) (d.envAt 0 y)) (j3 call33 y) y ?_
     rintro ax R w a ad ⟨c,b,rfl,n⟩ s
     have d:=(d.call ad).addE (e:=Sq c b f.1.Channels) n
     refine h_n [2,3] [] d y y fun hC=>gn 3 [5,6,7] [] s hC y y y fun a s=>ho 9 y ?_
     refine ws [sl c b f.1.Channels] s d 1 y y y s9 fun a w s d=>h_n [2,3] [] d y y fun hC=>gv s 10 y y hC (fun w hC=>J6 y) fun a s=>q9 (by kernel_rfl) ?_
     exact ⟨R,k,g,b,h,c,wj s d [0,2,3,1] [2,5,6,0]⟩
    exact Q7.nil
   rintro a w ⟨m,k,g,b,h,c,s,d⟩
   refine tn (sz0 2 s y fun a s=>?_)
   refine A7 (fun a w=>∃ (E:(List Channel)) (C A x:_),a0C i j E=some T∧Sl 29 [(0,pt b2),(4,pt b7),(5,pt b8),(6,iv i.2.2.2)] a∧Wd ⟨w0,S0,J3 [.box b2 (C94 d1 p3 k4) 94]⟩ x [.box b2 (C94 j.2 h g) 94,.box b7 b0i 29,.box b8 [sl C A E] 29] [Sq h g j.2.L,Sq none 0 ([]:List Channel),Sq C A E] w) ?_ ?_
   ·refine cd s u y (fun u=>?_) fun u=>?_
    ·refine j9 (sv s (Y0 (d.ownAt 3 y) y D4 s9 y y) y fun a s=>?_)
     refine ws [sl c b f.1.Channels] s d 2 y y y s9 fun a w s d=>nl ⟨f.1.Channels,c,b,m,u,wj s d [0,1,2] [0,1,3]⟩
    exact sk ⟨i.2.2.1,v,q,m,u,wj s d [0,1,2] [0,1,2]⟩
   rintro a w ⟨E,C,A,x,u,s,d⟩
   refine l9 (tn (j9 (rn0 2 s y fun a s=>?_)))
   obtain ⟨aq,ae,u⟩:=bt u
   refine sv s (w9 y ae) y fun a s=>nl ⟨_,io u,h,g,C,A,x,wj s d [0,1,2] [0,1,2]⟩
  refine u0 (j5 (j5 (o9 ?_)))
  obtain rfl:=oi u
  have af:=S _ y
  subst af
  exact tn ⟨p74,M,v,q,F,wj s d [0,1,2] [0,1,2]⟩
 rintro a w ⟨B,z,t,o,K,s,d⟩
 refine tn (sn 1 [2] s d y y fun a s=>?_)
 refine ws [sl t o l.2.2] s d 1 y y y s9 fun a w s d=>nl ?_
 obtain rfl:=oi u
 exact t7 (a7p s y (D8 d 1 y y D4 s9 y) (d.ret ⟨t,o,B,z,y,(d.outs [0] (by decide) y),(d.envAt 2 y),(d.envAt 0 y)⟩))
abbrev b1l (w0:World) (X:List Nat) (r:(Inventory × Bool)):Rd:=fun S w v=>∃ b a,v=.tuple #[.agg #[sl b a r.1.Channels],.bool r.2]∧(Sq b a r.1.Channels).p S w
abbrev b1U:List Value:=[.slice none ([]:List Channel).length 0]
theorem a5r {w0 S0 p2 k3 p4 k5 h1 n8 r} (u:a2x h1 n8=some r) (hS:Dm S0 w0) (h6:(Sq p2 k3 h1.Base.Channels).p S0 w0) (h7:(Sq p4 k5 h1.Changes).p S0 w0):Ck Tryz.prog 69 #[V65 h1 p2 k3 p4 k5,iv n8] w0 S0 [] b1l r:=by
 refine en 33 func69 y hS y y y fun a s d=>?_
 have d:=(d.addE h6).addE h7
 refine sr (wb (C65 h1 p2 k3 p4 k5) s d y fun b9 a w s d=>?_)
 refine wa b1U s d zeroValue29 fun t a w s d=>rz0 1 s y fun a s=>sn 2 [1] s d y y fun a s=>?_
 obtain ⟨o,Y,u⟩:=bt u
 refine cR s (a3K Y d.dom (d.envAt 1 y)) (j3 call73 y) y ?_
 rintro ak ae w a aa ⟨J,I,X,rfl,ab,Z⟩ s
 have d:=(d.callN aa ab).addE (e:=j6 X o.Channels) Z
 refine wa b1U s d zeroValue29 fun v a w s d=>ws [sl J I o.Channels] s d 0 y y y s9 fun a w s d=>nl (l3 (sz0 1 s y fun a s=>?_))
 refine m6 ?_
 obtain ⟨F,d⟩:=C8 (α:=Channel) d 1 y 0 y
 have d:=d.addE (e:=SlA (α:=Channel) none 0 0 []) K9
 refine u7 (fun g a w=>∃ k i q,Sl 33 [(1,iv n8),(2,pt b9),(4,pt t),(6,pt v),(7,iv g.2)] a∧Wd ⟨w0,S0,[]⟩ q [.box b9 (C65 h1 p2 k3 p4 k5) 65,.box t b1U 29,.box v [sl k i g.1] 29] [Sq p2 k3 h1.Base.Channels,Sq p4 k5 h1.Changes,Sq none 0 ([]:List Channel),Sq k i g.1] w) (o.Channels,0) u ⟨J,I,F,wj s d [2,1,0] [4,3,0,1]⟩ ?_
 repeat clear u
 rintro g a w ad ⟨k,i,q,s,d⟩ u x
 refine l3 (sz0 3 s y fun a s=>?_)
 refine cd s u y (fun u=>?_) fun u=>?_
 ·refine sk (l3 (m6 (l3 ?_)))
  obtain ⟨W,K,u⟩:=bt u
  obtain ⟨z,E,ah,af,P,M,N,O,L⟩:=d.elemV 1 y K
  have C:=s
  have D:=d
  subst P
  have s:=C
  have d:=D
  obtain ⟨_,_,_,_,_,_,_,_,_,_,_,_,_,_,rfl,rfl,rfl,rfl,rfl,rfl,rfl,rfl,rfl,rfl,rfl,rfl,rfl,rfl,⟨V,n255,U,rfl,A⟩⟩:=L
  obtain rfl:=A.1
  have d:=(d.addE (e:=SlA V _ U W.Epoch.Response.Stages) A).addE O
  obtain ⟨f,B,u⟩:=bt u
  refine C7 (fun a w=>∃ l h b c,Sl 33 [(1,iv n8),(2,pt b9),(4,pt t),(6,pt v),(7,iv g.2),(8,pt h),(9,iv f.2)] a∧Wd ⟨w0,S0,[]⟩ l [.box b9 (C65 h1 p2 k3 (some ⟨z,E,none⟩) k5) 65,.box t b1U 29,.box v [sl k i g.1] 29,.box h [sl c b f.1.Channels] 29] [Sq p2 k3 h1.Base.Channels,Sq (some ⟨z,E,none⟩) k5 h1.Changes,Sq none 0 ([]:List Channel),Sq k i g.1,Sq c b f.1.Channels] w) ?_ ?_
  ·refine h_c [0,1,2] [0] d y y (by kernel_rfl) y fun hC d=>gn 4 [0,1,2,3] [2,0] s hC y y y fun a s=>gx s 4 y j8 y hC C6 A0 y y M N fun a s=>gv s 5 y y hC (fun w hC=>D5 (j:=0) (hC.ceAt 0 y) y F1 A0 y y) fun a s=>a2E (rs:=[6,10]) (by kernel_rfl) y ?_
   refine Q7.cons y ?_ ?_
   ·refine cR s (a0j B d.dom (d.envAt 5 y) (d.envAt 1 y)) (j3 call33 y) y ?_
    rintro ai G w a Q ⟨c,b,rfl,m⟩ s
    have d:=(d.call Q).addE (e:=Sq c b f.1.Channels) m
    refine h_n [0,1,2] [1] d y y fun hC=>gn 3 [7,8,9] [] s hC y y y fun a s=>ho 10 y ?_
    refine wa b1U s d zeroValue29 fun h a w s d=>h_n [1,2,3] [1] d y y fun hC=>ho 11 y ?_
    refine ws [sl c b f.1.Channels] s d 0 y y y s9 fun a w s d=>h_n [1,2,3] [1] d y y fun hC=>gv s 12 y y hC (fun w hC=>J6 y) fun a s=>q9 (by kernel_rfl) ?_
    exact ⟨G,h,b,c,wj s d [1,2,3,0] [3,4,5,6,0]⟩
   refine Q7.cons y ?_ ?_
   ·refine wa b1U s d zeroValue29 fun h a w s d=>h_n [1,2,3] [0] d y y fun hC=>ho 6 y ?_
    refine cR s (a0j B d.dom (d.envAt 5 y) (d.envAt 1 y)) (j3 call33 y) y ?_
    rintro aj H w a R ⟨c,b,rfl,m⟩ s
    have d:=(d.call R).addE (e:=Sq c b f.1.Channels) m
    refine h_n [1,2,3] [1] d y y fun hC=>gn 3 [7,8,9] [] s hC y y y fun a s=>ho 11 y ?_
    refine ws [sl c b f.1.Channels] s d 0 y y y s9 fun a w s d=>h_n [1,2,3] [1] d y y fun hC=>gv s 12 y y hC (fun w hC=>J6 y) fun a s=>q9 (by kernel_rfl) ?_
    exact ⟨H,h,b,c,wj s d [1,2,3,0] [3,4,5,6,0]⟩
   exact Q7.nil
  rintro a w ⟨l,h,b,c,s,d⟩
  refine tn (l3 (sz0 2 s y fun a s=>?_))
  refine cd s u y (fun u=>?_) fun u=>?_
  ·refine sr (sv s (A8 (vs:=[]) a5Q y y) y fun a s=>?_)
   refine ws b1U s d 1 y y y s9 fun a w s d=>rz0 1 s y fun a s=>?_
   obtain rfl:=oi u
   have S:=x _ y
   subst S
   exact t7 (j4 (o8 (j4 (j4 (o8 (j4 (Y7 s y (D8 d 1 y y D4 s9 y) (F3 y) (d.ret ⟨none,0,y,(d.envAt 2 y)⟩))))))))
  refine sk (j9 (sv s (Y0 (d.ownAt 3 y) y D4 s9 y y) y fun a s=>?_))
  refine ws [sl c b f.1.Channels] s d 2 y y y s9 fun a w s d=>l4 ?_
  refine l9 (tn (j9 (rn0 2 s y fun a s=>?_)))
  obtain ⟨ag,T,u⟩:=bt u
  refine sv s (w9 y T) y fun a s=>nl ⟨_,io u,c,b,l,wj s d [0,1,2] [0,1,2,4]⟩
 obtain ⟨ac,u,n⟩:=X5 u
 have n:=(x _ n.symm).symm
 subst n
 refine u0 (j5 (j5 (o9 (tn (sn 1 [2] s d y y fun a s=>?_)))))
 refine ws [sl k i g.1] s d 1 y y y s9 fun a w s d=>rz0 1 s y fun a s=>?_
 obtain rfl:=oi u
 exact t7 (Y7 s y (D8 d 1 y y D4 s9 y) (F3 y) (d.ret ⟨k,i,y,(d.envAt 3 y)⟩))
theorem a6C {w0 S0 p2 k3 p4 k5 h1 r} (u:a4r h1=some r) (hS:Dm S0 w0) (h6:(Sq p2 k3 h1.Base.Channels).p S0 w0) (h7:(Sq p4 k5 h1.Changes).p S0 w0):Ck Tryz.prog 37 #[V65 h1 p2 k3 p4 k5] w0 S0 [] o5 r:=by
 refine en 24 func37 y hS y y y fun a s d=>?_
 have d:=(d.addE h6).addE h7
 refine sr (wb (C65 h1 p2 k3 p4 k5) s d y fun b8 a w s d=>?_)
 refine rz0 1 s y fun a s=>l3 (sn 2 [0] s d y y fun a s=>?_)
 obtain ⟨k,h9,u⟩:=bt u
 refine cV s d (a4N h9 d.bdom (d.bE 1 y)) (j3 call18 y) y fun a w s d=>rn0 2 s y fun a s=>rO 5 9 [0] s d y y y y y fun a s=>nl (cd s u y (fun u=>?_) fun u=>?_)
 ·refine sz0 1 s y fun a s=>?_
  obtain rfl:=oi u
  exact t7 (j4 (rt s y (d.ret y)))
 refine sk (sn 4 [0,0] s d y y fun a s=>?_)
 obtain ⟨b,g,u⟩:=bt u
 refine cR s (a5r g d.dom (d.envAt 1 y) (d.envAt 0 y)) (j3 call69 y) y ?_
 rintro m j w a i ⟨f,c,rfl,h⟩ s
 have d:=(d.call i).addE (e:=Sq f c b.1.Channels) h
 refine rn0 3 s y fun a s=>wa [.slice none ([]:List Channel).length 0] s d zeroValue29 fun l a w s d=>ws [sl f c b.1.Channels] s d 0 y y y s9 fun a w s d=>rz0 1 s y fun a s=>sz0 2 s y fun a s=>?_
 obtain rfl:=oi u
 exact q1 s y (d.ret y)
abbrev E22_0:List Value:=[.slice none ([]:List Channel).length 0]
theorem a1J {w0 S0 p2 k3 p4 k5 h1 n8 r} (u:a0h h1 n8=some r) (hS:Dm S0 w0) (h6:(Sq p2 k3 h1.Base.Channels).p S0 w0) (h7:(Sq p4 k5 h1.Changes).p S0 w0):Ck Tryz.prog 22 #[V65 h1 p2 k3 p4 k5,iv n8] w0 S0 [] a8E r:=by
 refine en 26 func22 y hS y y y fun a s d=>?_
 have d:=(d.addE h6).addE h7
 refine sr (wb (C65 h1 p2 k3 p4 k5) s d y fun b9 a w s d=>?_)
 refine wa E22_0 s d zeroValue29 fun n a w s d=>rz0 1 s y fun a s=>l3 (sn 1 [1] s d y y fun a s=>?_)
 obtain ⟨l,f,u⟩:=bt u
 refine cV s d (a6C f d.bdom (d.bE 1 y) (d.bE 0 y)) (j3 call37 y) y fun a w s d=>rz0 1 s y fun a s=>cd s u y (fun u=>?_) fun u=>?_
 ·refine sr (sv s (A8 (vs:=[]) a5Q y y) y fun a s=>?_)
  refine ws E22_0 s d 0 y y y s9 fun a w s d=>rz0 1 s y fun a s=>?_
  obtain rfl:=oi u
  have d:=d.addE (e:=SlA (α:=Channel) none 0 0 []) K9
  exact t7 (j4 (Y7 s y (D8 d 0 y y D4 s9 y) (F3 y) (d.ret ⟨none,0,y,(d.envAt 0 y)⟩)))
 refine sk (l3 (sn 4 [1] s d y y fun a s=>?_))
 obtain ⟨m,g,u⟩:=bt u
 refine cV s d (P9 g d.bdom) (j3 call64 y) y fun a w s d=>rz0 1 s y fun a s=>cd s u y (fun u=>?_) fun u=>?_
 ·refine sr (sv s (A8 (vs:=[]) a5Q y y) y fun a s=>?_)
  refine ws E22_0 s d 0 y y y s9 fun a w s d=>rz0 1 s y fun a s=>?_
  obtain rfl:=oi u
  have d:=d.addE (e:=SlA (α:=Channel) none 0 0 []) K9
  exact t7 (j4 (Y7 s y (D8 d 0 y y D4 s9 y) (F3 y) (d.ret ⟨none,0,y,(d.envAt 0 y)⟩)))
 refine sk (sn 2 [1] s d y y fun a s=>?_)
 obtain ⟨b,h,u⟩:=bt u
 refine cR s (a5r h d.dom (d.envAt 1 y) (d.envAt 0 y)) (j3 call69 y) y ?_
 rintro q k w a j ⟨p33,c,rfl,i⟩ s
 have d:=(d.call j).addE (e:=Sq p33 c b.1.Channels) i
 refine rn0 3 s y fun a s=>wa E22_0 s d zeroValue29 fun o a w s d=>ws [sl p33 c b.1.Channels] s d 0 y y y s9 fun a w s d=>rz0 1 s y fun a s=>sn 1 [0] s d y y fun a s=>ws [sl p33 c b.1.Channels] s d 1 y y y s9 fun a w s d=>rz0 1 s y fun a s=>?_
 obtain rfl:=oi u
 exact t7 (Y7 s y (D8 d 1 y y D4 s9 y) (F3 y) (d.ret ⟨p33,c,y,(d.envAt 0 y)⟩))
abbrev a8c (w0:World) (X:List Nat) (r:(History × Int)):Rd:=fun S w v=>∃ e c a f d b,v=.tuple #[V65 r.1 e c f d,iv r.2]∧Outs X w0 S w [.row e r.1.Base.Channels.length c a 73 5,.row f r.1.Changes.length d b 43 14]∧(j6 a r.1.Base.Channels).p S w∧(j6 b r.1.Changes).p S w
theorem a3Z {w0 S0 p2 k3 p4 k5 p9 t h1 c8 r} (u:a0g h1 c8=some r) (hS:Dm S0 w0) (h6:(Sq p2 k3 h1.Base.Channels).p S0 w0) (h7:(Sq p4 k5 h1.Changes).p S0 w0) (K:(Sq p9 t c8.Epoch.Response.Stages).p S0 w0):Ck Tryz.prog 41 #[V65 h1 p2 k3 p4 k5,V43 c8 p9 t] w0 S0 [] a8c r:=by
 refine en 51 func41 y hS y y y fun a s d=>?_
 have d:=((d.addE h6).addE h7).addE K
 refine sr (wb (C65 h1 p2 k3 p4 k5) s d y fun ag a w s d=>?_)
 refine wb (C43 c8 p9 t) s d y fun ah a w s d=>wa Z21 s d zeroValue65 fun z a w s d=>rz0 1 s y fun a s=>l3 (sn 1 [2] s d y y fun a s=>?_)
 obtain ⟨af,L,u⟩:=bt u
 refine cV s d (a6C L d.bdom (d.bE 2 y) (d.bE 1 y)) (j3 call37 y) y fun a w s d=>rz0 1 s y fun a s=>cd s u y (fun u=>?_) fun u=>?_
 ·refine sr (sv s (A8 (vs:=[]) a6n y y) y fun a s=>?_)
  refine ws Z21 s d 0 y y y C1 fun a w s d=>rz0 1 s y fun a s=>?_
  obtain rfl:=oi u
  have d:=(d.nilRow Channel 73).nilRow Change 43
  exact t7 (j4 (Y7 s y (D8 d 2 y y H4 C1 y) (F3 y) (d.ret ⟨none,0,[],none,0,[],y,(d.outs [1,0] (by decide) y),(d.envAt 1 y),(d.envAt 0 y)⟩)))
 refine sk (l3 (sz 4 [2] s d y y fun a s=>?_))
 refine cd s u y (fun u=>?_) fun u=>?_
 ·refine sr (sv s (A8 (vs:=[]) a6n y y) y fun a s=>?_)
  refine ws Z21 s d 0 y y y C1 fun a w s d=>rz0 1 s y fun a s=>?_
  obtain rfl:=oi u
  have d:=(d.nilRow Channel 73).nilRow Change 43
  exact t7 (j4 (Y7 s y (D8 d 2 y y H4 C1 y) (F3 y) (d.ret ⟨none,0,[],none,0,[],y,(d.outs [1,0] (by decide) y),(d.envAt 1 y),(d.envAt 0 y)⟩)))
 refine sk (sn 4 [2,2] s d y y fun a s=>?_)
 obtain ⟨v,M,u⟩:=bt u
 refine cR s (a5r M d.dom (d.envAt 2 y) (d.envAt 1 y)) (j3 call69 y) y ?_
 rintro al aa w a O ⟨p29,D,rfl,N⟩ s
 have d:=(d.call O).addE (e:=Sq p29 D v.1.Channels) N
 refine rn0 3 s y fun a s=>wa [.slice none ([]:List Channel).length 0] s d zeroValue29 fun ai a w s d=>ws [sl p29 D v.1.Channels] s d 0 y y y s9 fun a w s d=>rz0 1 s y fun a s=>l3 (sn 2 [0,2] s d y y fun a s=>?_)
 obtain ⟨x,P,u⟩:=bt u
 refine cR s (a0j P d.dom (d.envAt 0 y) (d.envAt 1 y)) (j3 call33 y) y ?_
 rintro am ab w a R ⟨p41,E,rfl,Q⟩ s
 have d:=(d.call R).addE (e:=Sq p41 E x.1.Channels) Q
 refine rn0 3 s y fun a s=>wa [.slice none ([]:List Channel).length 0] s d zeroValue29 fun aj a w s d=>ws [sl p41 E x.1.Channels] s d 0 y y y s9 fun a w s d=>rz0 1 s y fun a s=>sz0 2 s y fun a s=>cd s u y (fun u=>?_) fun u=>?_
 ·refine sr (sv s (A8 (vs:=[]) a6n y y) y fun a s=>?_)
  refine mv s y y fun a s=>ws Z21 s d 2 y y y C1 fun a w s d=>rz0 1 s y fun a s=>?_
  obtain rfl:=oi u
  have d:=(d.nilRow Channel 73).nilRow Change 43
  exact t7 (j4 (Y7 s y (D8 d 4 y y H4 C1 y) (F3 y) (d.ret ⟨none,0,[],none,0,[],y,(d.outs [1,0] (by decide) y),(d.envAt 1 y),(d.envAt 0 y)⟩)))
 refine sk (sn 2 [3] s d y y fun a s=>?_)
 obtain ⟨g,S,u⟩:=bt u
 refine cR s (a0c S d.dom (d.envAt 2 y)) (j3 call45 y) y ?_
 rintro an ac w a U ⟨p55,l,J,rfl,V,T⟩ s
 have d:=(d.callN U V).addE (e:=j6 J g.Response.Stages) T
 refine sv s (l7 (o':=6) H0 y t6 y y y) y fun a s=>ws (C43 ⟨c8.Kind,c8.Source,c8.From,g⟩ p55 l) s d 4 y y y t6 fun a w s d=>nl (l3 ?_)
 obtain ⟨h,C,u⟩:=bt u
 obtain ⟨ak,o,u⟩:=bt u
 obtain ⟨k,q,u⟩:=bt u
 refine C7 (fun a w=>∃ m i j f b p67 c,Sl 51 [(4,pt z),(5,iv 0)] a∧Wd ⟨w0,S0,[]⟩ m [.box z [sl p67 f h.Channels,sl c b k] 65,.row p67 h.Channels.length f i 73 5,.row c k.length b j 43 14] [j6 i h.Channels,j6 j k] w) ?_ ?_
 ·refine h_c [1,2,4,5] [] d y y (by kernel_rfl) y fun hC d=>gn 5 [0,1,3,4,6] [3,3,2] s hC y y y fun a s=>a2E (rs:=[2,7]) (by kernel_rfl) y ?_
  refine Q7.cons y ?_ ?_
  ·refine cR s (a3K C d.dom (d.envAt 5 y)) (j3 call73 y) y ?_
   rintro ao ad w a W ⟨p67,f,i,rfl,X,n⟩ s
   have d:=(d.callN W X).addE (e:=j6 i h.Channels) n
   refine h_n [2,3,5,6] [] d y y fun hC=>h_d [2,3,5,6,0] [] [0,1,2,3] [] d y y y y fun hC=>a2E (rs:=[5,7]) (by kernel_rfl) y ?_
   refine Q7.cons y ?_ ?_
   ·have d:=d.nilRow Change 43
    refine R4 (α:=Change) s d a5R 0 y y y 0 y 6 y o y j8 ?_
    intro p73 F B a w s d
    refine h_n [3,4,6,7,1] [] d y y fun hC=>ho 7 y ?_
    obtain ⟨G,d⟩:=C8 (α:=Stage) d 2 y 3 y
    refine q8 (α:=Change) (vs:=[V43 ⟨c8.Kind,c8.Source,c8.From,g⟩ p55 l]) (cs:=(C43 ⟨c8.Kind,c8.Source,c8.From,g⟩ p55 l)) (xs:=([(⟨c8.Kind,c8.Source,c8.From,g⟩:Change)]:List Change)) s d a5R y y y y y y ⟨⟨_,_,_,_,_,_,_,_,_,_,_,_,_,_,y,y,y,y,y,y,y,y,y,y,y,y,y,y,⟨_,_,_,y,d.envAt 0 y⟩⟩,y⟩ y j8 y fun A a w s d=>h_n [3,4,6,7,2] [] d y y fun hC=>h_d [3,4,6,7,2,0] [] [0,1,2,3,4] [] d y y y y fun hC=>ho 8 y ?_
    refine F6 (α:=Change) s d a5R 1 y y y 2 y 0 y 0 y q y j8 ?_
    intro c b j a w s d
    refine h_n [3,4,6,7,2,0] [] d y y fun hC=>gv s 9 y y hC (fun w hC=>A8 (vs:=[(0,.agg #[sl p67 f h.Channels]),(1,sl c b k)]) a6n y y) fun a s=>ho 10 y ?_
    refine ws [sl p67 f h.Channels,sl c b k] s d 5 y y y C1 fun a w s d=>h_n [3,4,6,7,2,0] [] d y y fun hC=>gv s 11 y y hC (fun w hC=>J6 y) fun a s=>q9 (by kernel_rfl) ?_
    exact ⟨G,i,j,f,b,p67,c,wj s d [5,2,1] [5,0]⟩
   refine Q7.cons y ?_ ?_
   ·obtain ⟨H,d⟩:=C8 (α:=Stage) d 1 y 1 y
    refine q8 (α:=Change) (vs:=[V43 ⟨c8.Kind,c8.Source,c8.From,g⟩ p55 l]) (cs:=(C43 ⟨c8.Kind,c8.Source,c8.From,g⟩ p55 l)) (xs:=([(⟨c8.Kind,c8.Source,c8.From,g⟩:Change)]:List Change)) s d a5R y y y y y y ⟨⟨_,_,_,_,_,_,_,_,_,_,_,_,_,_,y,y,y,y,y,y,y,y,y,y,y,y,y,y,⟨_,_,_,y,d.envAt 0 y⟩⟩,y⟩ y j8 y fun A a w s d=>h_n [2,3,5,6,1] [] d y y fun hC=>h_d [2,3,5,6,1,0] [] [0,1,2,3,4] [] d y y y y fun hC=>ho 5 y ?_
    have d:=d.nilRow Change 43
    refine R4 (α:=Change) s d a5R 0 y y y 0 y 8 y o y j8 ?_
    intro p73 F B a w s d
    refine h_n [3,4,6,7,2,1] [] d y y fun hC=>ho 8 y ?_
    refine F6 (α:=Change) s d a5R 0 y y y 0 y 1 y 2 y q y j8 ?_
    intro c b j a w s d
    refine h_n [3,4,6,7,2,1] [] d y y fun hC=>gv s 9 y y hC (fun w hC=>A8 (vs:=[(0,.agg #[sl p67 f h.Channels]),(1,sl c b k)]) a6n y y) fun a s=>ho 10 y ?_
    refine ws [sl p67 f h.Channels,sl c b k] s d 5 y y y C1 fun a w s d=>h_n [3,4,6,7,2,1] [] d y y fun hC=>gv s 11 y y hC (fun w hC=>J6 y) fun a s=>q9 (by kernel_rfl) ?_
    exact ⟨H,i,j,f,b,p67,c,wj s d [5,2,0] [5,0]⟩
   exact Q7.nil
  refine Q7.cons y ?_ ?_
  ·obtain ⟨ae,d⟩:=C8 (α:=Stage) d 0 y 0 y
   refine q8 (α:=Change) (vs:=[V43 ⟨c8.Kind,c8.Source,c8.From,g⟩ p55 l]) (cs:=(C43 ⟨c8.Kind,c8.Source,c8.From,g⟩ p55 l)) (xs:=([(⟨c8.Kind,c8.Source,c8.From,g⟩:Change)]:List Change)) s d a5R y y y y y y ⟨⟨_,_,_,_,_,_,_,_,_,_,_,_,_,_,y,y,y,y,y,y,y,y,y,y,y,y,y,y,⟨_,_,_,y,d.envAt 0 y⟩⟩,y⟩ y j8 y fun A a w s d=>h_n [1,2,4,5] [] d y y fun hC=>h_d [1,2,4,5,0] [] [0,1,2,3] [] d y y y y fun hC=>ho 2 y ?_
   refine cR s (a3K C d.dom (d.envAt 7 y)) (j3 call73 y) y ?_
   rintro ap I w a Y ⟨p67,f,i,rfl,Z,n⟩ s
   have d:=(d.callN Y Z).addE (e:=j6 i h.Channels) n
   refine h_n [2,3,5,6,1] [] d y y fun hC=>h_d [2,3,5,6,1,0] [] [0,1,2,3,4] [] d y y y y fun hC=>ho 5 y ?_
   have d:=d.nilRow Change 43
   refine R4 (α:=Change) s d a5R 0 y y y 0 y 8 y o y j8 ?_
   intro p73 F B a w s d
   refine h_n [3,4,6,7,2,1] [] d y y fun hC=>ho 8 y ?_
   refine F6 (α:=Change) s d a5R 0 y y y 0 y 2 y 3 y q y j8 ?_
   intro c b j a w s d
   refine h_n [3,4,6,7,2,1] [] d y y fun hC=>gv s 9 y y hC (fun w hC=>A8 (vs:=[(0,.agg #[sl p67 f h.Channels]),(1,sl c b k)]) a6n y y) fun a s=>ho 10 y ?_
   refine ws [sl p67 f h.Channels,sl c b k] s d 5 y y y C1 fun a w s d=>h_n [3,4,6,7,2,1] [] d y y fun hC=>gv s 11 y y hC (fun w hC=>J6 y) fun a s=>q9 (by kernel_rfl) ?_
   exact ⟨I,i,j,f,b,p67,c,wj s d [5,1,0] [3,0]⟩
  exact Q7.nil
 rintro a w ⟨m,i,j,f,b,p67,c,s,d⟩
 refine tn ?_
 obtain rfl:=oi u
 exact t7 (Y7 s y (D8 d 0 y y H4 C1 y) (F3 y) (d.ret ⟨p67,f,i,c,b,j,y,(d.outs [1,2] (by decide) y),(d.envAt 0 y),(d.envAt 1 y)⟩))
abbrev a8y (w0:World) (X:List Nat) (b2:Nat) (r:(History × Dice)):(Nat→Prop)→World→Value→Prop:=fun S w v=>∃ e c f d b a,v=V65 r.1 e c f d∧Outs X w0 S w [.box b2 (C94 r.2 b a) 94]∧(Sq e c r.1.Base.Channels).p S w∧(Sq f d r.1.Changes).p S w∧(Sq b a r.2.L).p S w
theorem a8x {w0 S0 b2 p3 k4 d1 n6 r} (u:a0Y d1 n6=some r) (hS:Dm S0 w0) (hin:Ins S0 w0 [.box b2 (C94 d1 p3 k4) 94]) (h5:(Sq p3 k4 d1.L).p S0 w0):Calls Tryz.prog 21 #[pt b2,iv n6] w0 (Ret (J3 [.box b2 (C94 d1 p3 k4) 94]) w0 S0 (a8y w0 (J3 [.box b2 (C94 d1 p3 k4) 94]) b2 r)):=by
 refine enI 42 func21 y hS hin y y y fun a s d=>?_
 have d:=d.addE h5
 refine sr (wa Z21 s d zeroValue65 fun b7 a w s d=>?_)
 refine nl (sn0 1 s y fun a s=>?_)
 obtain ⟨W,h8,u⟩:=bt u
 refine cR s (a7J h8 d.dom (d.ins [1] (by decide) y) (d.envAt 0 y)) (j3 call12 y) y ?_
 rintro ba a1 w a aM ⟨ad,ac,aT,aS,rfl,aN,aK,aL⟩ s
 have d:=((d.callO [1] [0] (by decide) y aM aN).addE (e:=Sq ad ac W.1.Channels) aK).addE (e:=Sq aT aS W.2.L) aL
 refine sv s (A8 (vs:=[(0,.agg #[sl ad ac W.1.Channels])]) a6n y y) y fun a s=>wa Z21 s d zeroValue65 fun A a w s d=>ws [sl ad ac W.1.Channels,.slice none ([]:List Change).length 0] s d 0 y y y C1 fun a w s d=>nl (l3 (sn0 3 s y fun a s=>?_))
 obtain ⟨T,aO,u⟩:=bt u
 refine cR s (u6 aO d.dom (d.ins [1] (by decide) y) (d.envAt 0 y)) (j3 call23 y) y ?_
 rintro bb aq w a aQ ⟨p25,ap,rfl,aR,aP⟩ s
 have d:=(d.callO [1] [0,2] (by decide) y aQ aR).addE (e:=Sq p25 ap T.2.L) aP
 refine rz0 1 s y fun a s=>?_
 obtain ⟨q,ag,u⟩:=bt u
 refine A7 (fun a w=>∃ Q M F D G E ab,Sl 42 [(4,pt b7),(5,pt A)] a∧Wd ⟨w0,S0,J3 [.box b2 (C94 d1 p3 k4) 94]⟩ ab [.box b2 [sl Q M q.1,iv q.2.1] 94,.box b7 Z21 65,.box A [sl F D q.2.2.1,sl G E q.2.2.2] 65] [Sq Q M q.1,Sq none 0 ([]:List Channel),Sq none 0 ([]:List Change),Sq F D q.2.2.1,Sq G E q.2.2.2] w) ?_ ?_
 ·refine m6 ?_
  have d:=(d.addE (e:=SlA (α:=Channel) none 0 0 []) K9).addE (e:=SlA (α:=Change) none 0 0 []) K9
  refine u7 (fun c a w=>∃ P K x t z v H,Sl 42 [(0,pt b2),(4,pt b7),(5,pt A),(6,iv c.2.2.2.2)] a∧Wd ⟨w0,S0,J3 [.box b2 (C94 d1 p3 k4) 94]⟩ H [.box b2 [sl P K c.1,iv c.2.1] 94,.box b7 Z21 65,.box A [sl x t c.2.2.1,sl z v c.2.2.2.1] 65] [Sq P K c.1,Sq none 0 ([]:List Channel),Sq none 0 ([]:List Change),Sq x t c.2.2.1,Sq z v c.2.2.2.1] w) (T.2.L,T.2.At,W.1.Channels,([]:List Change),T.1) ag ⟨p25,ap,ad,ac,none,0,aq,wj s d [0,2,1] [2,1,0,4,0]⟩ ?_
  clear ag
  repeat clear u
  rintro c a w ao ⟨P,K,x,t,z,v,H,s,d⟩ u an
  refine l3 (sz0 2 s y fun a s=>?_)
  refine cd s u y (fun u=>?_) fun u=>?_
  ·refine sk (l3 (m6 (sn 4 [2,2] s d y y fun a s=>?_)))
   obtain ⟨ae,ar,u⟩:=bt u
   refine cR s (a1J ar d.dom (d.envAt 3 y) (d.envAt 4 y)) (j3 call22 y) y ?_
   rintro a4 aU w a av ⟨ai,ah,rfl,au⟩ s
   have d:=(d.call av).addE (e:=Sq ai ah ae.1.Channels) au
   refine rn0 3 s y fun a s=>wa [.slice none ([]:List Channel).length 0] s d zeroValue29 fun a2 a w s d=>ws [sl ai ah ae.1.Channels] s d 0 y y y s9 fun a w s d=>rz0 1 s y fun a s=>l3 ?_
   obtain ⟨n,af,u⟩:=bt u
   obtain ⟨b,aa,u⟩:=bt u
   refine C7 (fun a w=>∃ I o l m j f g k h i,Sl 42 [(0,pt b2),(4,pt b7),(5,pt A),(6,iv c.2.2.2.2),(9,pt o),(10,iv b.2)] a∧Wd ⟨w0,S0,J3 [.box b2 (C94 d1 p3 k4) 94]⟩ I [.box b2 (C94 n.2 k j) 94,.box b7 Z21 65,.box A [sl x t c.2.2.1,sl z v c.2.2.2.1] 65,.box o (C65 b.1 h f i g) 65,.row h b.1.Base.Channels.length f l 73 5,.row i b.1.Changes.length g m 43 14] [Sq k j n.2.L,Sq none 0 ([]:List Channel),Sq none 0 ([]:List Change),Sq x t c.2.2.1,Sq z v c.2.2.2.1,j6 l b.1.Base.Channels,j6 m b.1.Changes] w) ?_ ?_
   ·refine h_c [0,2,3] [] d y y (by kernel_rfl) y fun hC d=>gn 3 [0,1,2] [2,0] s hC y y y fun a s=>a2E (rs:=[3,8]) (by kernel_rfl) y ?_
    refine Q7.cons y ?_ ?_
    ·refine cR s (L6 af d.dom (d.ins [1] (by decide) y) (d.envAt 1 y) (d.envAt 0 y)) (j3 call13 y) y ?_
     rintro a5 aV w a aw ⟨aJ,aI,X,k,j,rfl,ax,Y,Z⟩ s
     have d:=((d.callO [1] [0,2,3] (by decide) y aw ax).addE (e:=j6 X n.1.Epoch.Response.Stages) Y).addE (e:=Sq k j n.2.L) Z
     refine h_n [2,3,4] [] d y y fun hC=>a2E (rs:=[4,8]) (by kernel_rfl) y ?_
     refine Q7.cons y ?_ ?_
     ·obtain ⟨aW,d⟩:=C8 (α:=Stage) d 0 y 1 y
      refine cR s (a3Z aa d.dom (d.envAt 7 y) (d.envAt 8 y) (d.envAt 0 y)) (j3 call41 y) y ?_
      rintro a6 aj w a ay ⟨h,f,l,i,g,m,rfl,az,B,C⟩ s
      have d:=((d.callN ay az).addE (e:=j6 l b.1.Base.Channels) B).addE (e:=j6 m b.1.Changes) C
      refine h_n [3,4,5] [] d y y fun hC=>h_d [3,4,5,0,1] [] [0,1,2] [] d y y y y fun hC=>gn 3 [5,6,7] [] s hC y y y fun a s=>ho 8 y ?_
      refine wa Z21 s d zeroValue65 fun o a w s d=>h_n [4,5,6,1,2] [] d y y fun hC=>ho 9 y ?_
      refine ws (C65 b.1 h f i g) s d 0 y y y C1 fun a w s d=>h_n [4,5,6,1,2] [] d y y fun hC=>gv s 10 y y hC (fun w hC=>J6 y) fun a s=>q9 (by kernel_rfl) ?_
      exact ⟨aj,o,l,m,j,f,g,k,h,i,wj s d [3,5,6,0,1,2] [3,7,8,9,10,1,0]⟩
     refine Q7.cons y ?_ ?_
     ·refine wa Z21 s d zeroValue65 fun o a w s d=>h_n [3,4,5] [] d y y fun hC=>ho 4 y ?_
      obtain ⟨aX,d⟩:=C8 (α:=Stage) d 1 y 1 y
      refine cR s (a3Z aa d.dom (d.envAt 7 y) (d.envAt 8 y) (d.envAt 0 y)) (j3 call41 y) y ?_
      rintro a7 ak w a aA ⟨h,f,l,i,g,m,rfl,aB,B,C⟩ s
      have d:=((d.callN aA aB).addE (e:=j6 l b.1.Base.Channels) B).addE (e:=j6 m b.1.Changes) C
      refine h_n [4,5,6] [] d y y fun hC=>h_d [4,5,6,0,1] [] [0,1,2] [] d y y y y fun hC=>gn 3 [5,6,7] [] s hC y y y fun a s=>ho 9 y ?_
      refine ws (C65 b.1 h f i g) s d 2 y y y C1 fun a w s d=>h_n [4,5,6,0,1] [] d y y fun hC=>gv s 10 y y hC (fun w hC=>J6 y) fun a s=>q9 (by kernel_rfl) ?_
      exact ⟨ak,o,l,m,j,f,g,k,h,i,wj s d [3,5,6,2,0,1] [3,7,8,9,10,1,0]⟩
     exact Q7.nil
    refine Q7.cons y ?_ ?_
    ·refine wa Z21 s d zeroValue65 fun o a w s d=>h_n [1,3,4] [] d y y fun hC=>ho 3 y ?_
     refine cR s (L6 af d.dom (d.ins [2] (by decide) y) (d.envAt 1 y) (d.envAt 0 y)) (j3 call13 y) y ?_
     rintro a8 aY w a aC ⟨aJ,aI,X,k,j,rfl,aD,Y,Z⟩ s
     have d:=((d.callO [2] [0,1,3,4] (by decide) y aC aD).addE (e:=j6 X n.1.Epoch.Response.Stages) Y).addE (e:=Sq k j n.2.L) Z
     refine h_n [3,4,5] [] d y y fun hC=>ho 4 y ?_
     obtain ⟨aZ,d⟩:=C8 (α:=Stage) d 0 y 1 y
     refine cR s (a3Z aa d.dom (d.envAt 7 y) (d.envAt 8 y) (d.envAt 0 y)) (j3 call41 y) y ?_
     rintro a9 al w a aE ⟨h,f,l,i,g,m,rfl,aF,B,C⟩ s
     have d:=((d.callN aE aF).addE (e:=j6 l b.1.Base.Channels) B).addE (e:=j6 m b.1.Changes) C
     refine h_n [4,5,6] [] d y y fun hC=>h_d [4,5,6,0,1] [] [0,1,2] [] d y y y y fun hC=>gn 3 [5,6,7] [] s hC y y y fun a s=>ho 9 y ?_
     refine ws (C65 b.1 h f i g) s d 3 y y y C1 fun a w s d=>h_n [4,5,6,0,1] [] d y y fun hC=>gv s 10 y y hC (fun w hC=>J6 y) fun a s=>q9 (by kernel_rfl) ?_
     exact ⟨al,o,l,m,j,f,g,k,h,i,wj s d [2,5,6,3,0,1] [3,7,8,9,10,1,0]⟩
    exact Q7.nil
   rintro a w ⟨I,o,l,m,j,f,g,k,h,i,s,d⟩
   refine tn (sz0 2 s y fun a s=>?_)
   refine A7 (fun a w=>∃ (U:(List Channel)) (V:(List Change)) (R N S O J:_),a0Z c n U V=some ao∧Sl 42 [(0,pt b2),(4,pt b7),(5,pt A),(6,iv c.2.2.2.2)] a∧Wd ⟨w0,S0,J3 [.box b2 (C94 d1 p3 k4) 94]⟩ J [.box b2 (C94 n.2 k j) 94,.box b7 Z21 65,.box A [sl R N U,sl S O V] 65] [Sq k j n.2.L,Sq none 0 ([]:List Channel),Sq none 0 ([]:List Change),Sq R N U,Sq S O V] w) ?_ ?_
   ·refine cd s u y (fun u=>?_) fun u=>?_
    ·refine j9 (sv s (Y0 (d.ownAt 3 y) y H4 C1 y y) y fun a s=>?_)
     refine ws (C65 b.1 h f i g) s d 2 y y y C1 fun a w s d=>nl ?_
     obtain ⟨a0,d⟩:=C8 (α:=Channel) d 4 y 5 y
     obtain ⟨am,d⟩:=C8 (α:=Change) d 4 y 7 y
     exact ⟨b.1.Base.Channels,b.1.Changes,h,f,i,g,am,u,wj s d [0,1,2] [2,3,4,1,0]⟩
    exact sk ⟨c.2.2.1,c.2.2.2.1,x,t,z,v,I,u,wj s d [0,1,2] [0,1,2,3,4]⟩
   rintro a w ⟨U,V,R,N,S,O,J,u,s,d⟩
   refine l9 (tn (j9 (rn0 2 s y fun a s=>?_)))
   obtain ⟨a3,aG,u⟩:=bt u
   refine sv s (w9 y aG) y fun a s=>nl ⟨_,io u,k,j,R,N,S,O,J,wj s d [0,1,2] [0,1,2,3,4]⟩
  refine u0 (j5 (j5 (o9 ?_)))
  obtain rfl:=oi u
  have aH:=an _ y
  subst aH
  exact tn ⟨P,K,x,t,z,v,H,wj s d [0,1,2] [0,1,2,3,4]⟩
 rintro a w ⟨Q,M,F,D,G,E,ab,s,d⟩
 refine tn (sn 1 [2] s d y y fun a s=>?_)
 refine ws [sl F D q.2.2.1,sl G E q.2.2.2] s d 1 y y y C1 fun a w s d=>nl ?_
 obtain rfl:=oi u
 exact t7 (a7p s y (D8 d 1 y y H4 C1 y) (d.ret ⟨F,D,G,E,Q,M,y,(d.outs [0] (by decide) y),(d.envAt 3 y),(d.envAt 4 y),(d.envAt 0 y)⟩))
abbrev a9r (w0:World) (X:List Nat) (r:(Change × Int)):Rd:=fun S w v=>∃ b a,v=.tuple #[V43 r.1 b a,iv r.2]∧(Sq b a r.1.Epoch.Response.Stages).p S w
theorem a9q {w0 S0 p2 k3 p6 k7 g c5 r} (u:a3q g c5=some r) (hS:Dm S0 w0) (h4:(Sq p2 k3 g.Channels).p S0 w0) (h8:(Sq p6 k7 c5.Epoch.Response.Stages).p S0 w0):Ck Tryz.prog 31 #[.agg #[sl p2 k3 g.Channels],V43 c5 p6 k7] w0 S0 [] a9r r:=by
 refine en 61 func31 y hS y y y fun a s d=>?_
 have d:=(d.addE h4).addE h8
 refine sr (wb [sl p2 k3 g.Channels] s d y fun b9 a w s d=>?_)
 refine wb (C43 c5 p6 k7) s d y fun o a w s d=>wa Z18 s d zeroValue43 fun q a w s d=>rz0 1 s y fun a s=>l3 (sn 2 [2,1] s d y y fun a s=>?_)
 obtain ⟨k,D,u⟩:=bt u
 refine cR s (a0p D d.dom (d.envAt 1 y) (d.envAt 0 y)) (j3 call14 y) y ?_
 rintro Y R w a F ⟨Q,O,B,rfl,G,E⟩ s
 have d:=(d.callN F G).addE (e:=j6 B k.1.Channels) E
 refine rn0 3 s y fun a s=>wa [.slice none ([]:List Channel).length 0] s d zeroValue29 fun T a w s d=>ws [sl Q O k.1.Channels] s d 0 y y y s9 fun a w s d=>rz0 1 s y fun a s=>sz0 2 s y fun a s=>cd s u y (fun u=>?_) fun u=>?_
 ·refine sr (sv s (A8 (vs:=[]) a8r y y) y fun a s=>?_)
  refine mv s y y fun a s=>ws Z18 s d 2 y y y A0 fun a w s d=>rz0 1 s y fun a s=>?_
  obtain rfl:=oi u
  have d:=d.addE (e:=SlA (α:=Stage) none 0 0 []) K9
  exact t7 (j4 (Y7 s y (D8 d 2 y y F1 A0 y) (F3 y) (d.ret ⟨none,0,y,(d.envAt 0 y)⟩)))
 refine sk (l3 (sz 3 [3] s d y y fun a s=>?_))
 refine cd s u y (fun u=>?_) fun u=>?_
 ·refine sn 4 [3,3] s d y y fun a s=>sv s (A8 (vs:=[(0,iv 1),(1,V32 c5.Source),(2,iv c5.From)]) a8r y y) y fun a s=>ws (C43 ⟨1,c5.Source,c5.From,⟨0,0,⟨0,0⟩,⟨0,0,0⟩,⟨([]:List Stage)⟩⟩⟩ none 0) s d 2 y y y A0 fun a w s d=>rz0 1 s y fun a s=>?_
  obtain rfl:=oi u
  have d:=d.addE (e:=SlA (α:=Stage) none 0 0 []) K9
  exact t7 (j4 (Y7 s y (D8 d 2 y y F1 A0 y) (F3 y) (d.ret ⟨none,0,y,(d.envAt 0 y)⟩)))
 refine sk (sn 3 [4,3] s d y y fun a s=>?_)
 obtain ⟨l,H,u⟩:=bt u
 refine cR s (a4F H d.dom (d.envAt 2 y)) (j3 call58 y) y ?_
 rintro Z h w a J ⟨p31,P,C,rfl,K,I⟩ s
 have d:=(d.callN J K).addE (e:=j6 C l.1.Epochs) I
 refine rn0 3 s y fun a s=>wa Z2 s d zeroValue73 fun U a w s d=>ws (C73 l.1 p31 P) s d 0 y y y o3 fun a w s d=>rz0 1 s y fun a s=>l3 ?_
 obtain ⟨S,t,u⟩:=bt u
 obtain ⟨c,L,u⟩:=bt u
 obtain ⟨V,X,W,N,v,x,z,M⟩:=d.elemRV (α:=Epoch) 1 y 0 y L
 have m:=s
 have n:=d
 subst N
 have s:=m
 have d:=n
 obtain ⟨_,_,_,_,_,_,_,_,rfl,rfl,rfl,rfl,rfl,rfl,rfl,rfl,⟨p57,n58,b,rfl,A⟩⟩:=M
 obtain rfl:=A.1
 have d:=d.addE (e:=SlA p57 _ b c.Response.Stages) A
 refine C7 (fun a w=>∃ i f,Sl 61 [(3,pt o),(4,pt q),(10,pt f)] a∧Wd ⟨w0,S0,[]⟩ i [.box o (C43 c5 p6 k7) 43,.box q Z18 43,.box f (C41 c p57 b) 41] [Sq p6 k7 c5.Epoch.Response.Stages,Sq none 0 ([]:List Stage),Sq p57 b c.Response.Stages] w) ?_ ?_
 ·refine h_c [0,1,2,3,4,5,6] [] d y y (by kernel_rfl) y fun hC d=>gn 6 [0,1,2,3,4,5] [0,0,5] s hC y y y fun a s=>a2E (rs:=[6,9]) (by kernel_rfl) y ?_
  refine Q7.cons y ?_ ?_
  ·refine cV s d (a6d t d.bdom (d.bRow 1 y 1 y)) (j3 call50 y) y fun a w s d=>h_n [0,1,2,3,4,5,6] [] d y y fun hC=>gx s 7 y j8 y hC o4 t6 y y v x fun a s=>gv s 8 y y hC (fun w hC=>I4 (j:=0) (hC.ownAt 1 y) y E3 t6 z y y) fun a s=>ho 9 y ?_
   refine wa Z1 s d zeroValue41 fun f a w s d=>h_n [1,2,3,4,5,6,7] [] d y y fun hC=>ho 10 y ?_
   refine ws (C41 c p57 b) s d 0 y y y t6 fun a w s d=>h_n [1,2,3,4,5,6,7] [] d y y fun hC=>q9 (by kernel_rfl) ?_
   have d:=d.addE (e:=SlA (α:=Stage) none 0 0 []) K9
   exact ⟨h,f,wj s d [6,5,0] [4,0,1]⟩
  refine Q7.cons y ?_ ?_
  ·refine wa Z1 s d zeroValue41 fun f a w s d=>h_n [1,2,3,4,5,6,7] [] d y y fun hC=>ho 6 y ?_
   refine cV s d (a6d t d.bdom (d.bRow 2 y 1 y)) (j3 call50 y) y fun a w s d=>h_n [1,2,3,4,5,6,7] [] d y y fun hC=>gx s 7 y j8 y hC o4 t6 y y v x fun a s=>gv s 8 y y hC (fun w hC=>I4 (j:=0) (hC.ownAt 1 y) y E3 t6 z y y) fun a s=>ho 10 y ?_
   refine ws (C41 c p57 b) s d 0 y y y t6 fun a w s d=>h_n [1,2,3,4,5,6,7] [] d y y fun hC=>q9 (by kernel_rfl) ?_
   have d:=d.addE (e:=SlA (α:=Stage) none 0 0 []) K9
   exact ⟨h,f,wj s d [6,5,0] [4,0,1]⟩
  exact Q7.nil
 rintro a w ⟨i,f,s,d⟩
 refine tn (l3 (sz 3 [0] s d y y fun a s=>?_))
 refine cd s u y (fun u=>?_) fun u=>?_
 ·refine sn 5 [0,0,2] s d y y fun a s=>sv s (A8 (vs:=[(0,iv 0),(1,V32 c5.Source),(2,iv c5.From),(3,V41 c p57 b)]) a8r y y) y fun a s=>ws (C43 ⟨0,c5.Source,c5.From,c⟩ p57 b) s d 1 y y y A0 fun a w s d=>rz0 1 s y fun a s=>?_
  obtain rfl:=oi u
  exact t7 (j4 (Y7 s y (D8 d 1 y y F1 A0 y) (F3 y) (d.ret ⟨p57,b,y,(d.envAt 2 y)⟩)))
 refine sk (sn 6 [0,0,2] s d y y fun a s=>?_)
 refine sv s (A8 (vs:=[(0,iv 2),(1,V32 c5.Source),(2,iv c5.Epoch.From),(3,V41 c p57 b)]) a8r y y) y fun a s=>ws (C43 ⟨2,c5.Source,c5.Epoch.From,c⟩ p57 b) s d 1 y y y A0 fun a w s d=>rz0 1 s y fun a s=>?_
 obtain rfl:=oi u
 exact t7 (Y7 s y (D8 d 1 y y F1 A0 y) (F3 y) (d.ret ⟨p57,b,y,(d.envAt 2 y)⟩))
abbrev b1j (w0:World) (X:List Nat) (r:(Change × Int)):Rd:=fun S w v=>∃ c b a,v=.tuple #[V43 r.1 c b,iv r.2]∧Outs X w0 S w [.row c r.1.Epoch.Response.Stages.length b a 138 10]∧(j6 a r.1.Epoch.Response.Stages).p S w
theorem b1i {w0 S0 p2 k3 p6 k7 f c5 r} (u:a5L f c5=some r) (hS:Dm S0 w0) (h4:(Sq p2 k3 f.Channels).p S0 w0) (h8:(Sq p6 k7 c5.Epoch.Response.Stages).p S0 w0):Ck Tryz.prog 34 #[.agg #[sl p2 k3 f.Channels],V43 c5 p6 k7] w0 S0 [] b1j r:=by
 refine en 61 func34 y hS y y y fun a s d=>?_
 have d:=(d.addE h4).addE h8
 refine sr (wb [sl p2 k3 f.Channels] s d y fun b9 a w s d=>?_)
 refine wb (C43 c5 p6 k7) s d y fun Z a w s d=>wa Z18 s d zeroValue43 fun aa a w s d=>rz0 1 s y fun a s=>l3 (sn 2 [2,1] s d y y fun a s=>?_)
 obtain ⟨h,z,u⟩:=bt u
 refine cR s (a0j z d.dom (d.envAt 1 y) (d.envAt 0 y)) (j3 call33 y) y ?_
 rintro ak W w a B ⟨x,v,rfl,A⟩ s
 have d:=(d.call B).addE (e:=Sq x v h.1.Channels) A
 refine rn0 3 s y fun a s=>wa [.slice none ([]:List Channel).length 0] s d zeroValue29 fun ab a w s d=>ws [sl x v h.1.Channels] s d 0 y y y s9 fun a w s d=>rz0 1 s y fun a s=>sz0 2 s y fun a s=>cd s u y (fun u=>?_) fun u=>?_
 ·refine sr (sv s (A8 (vs:=[]) a8r y y) y fun a s=>?_)
  refine mv s y y fun a s=>ws Z18 s d 1 y y y A0 fun a w s d=>rz0 1 s y fun a s=>?_
  obtain rfl:=oi u
  have d:=d.nilRow Stage 138
  exact t7 (j4 (Y7 s y (D8 d 2 y y F1 A0 y) (F3 y) (d.ret ⟨none,0,[],y,(d.outs [0] (by decide) y),(d.envAt 0 y)⟩)))
 refine sk (l3 (sz 3 [2] s d y y fun a s=>?_))
 refine cd s u y (fun u=>?_) fun u=>?_
 ·refine sn 4 [2,2] s d y y fun a s=>sv s (A8 (vs:=[(0,iv 1),(1,V32 c5.Source),(2,iv c5.From)]) a8r y y) y fun a s=>ws (C43 ⟨1,c5.Source,c5.From,⟨0,0,⟨0,0⟩,⟨0,0,0⟩,⟨([]:List Stage)⟩⟩⟩ none 0) s d 1 y y y A0 fun a w s d=>rz0 1 s y fun a s=>?_
  obtain rfl:=oi u
  have d:=d.nilRow Stage 138
  exact t7 (j4 (Y7 s y (D8 d 2 y y F1 A0 y) (F3 y) (d.ret ⟨none,0,[],y,(d.outs [0] (by decide) y),(d.envAt 0 y)⟩)))
 refine sk (sn 2 [3,2] s d y y fun a s=>?_)
 obtain ⟨Y,C,u⟩:=bt u
 refine cV s d (a8F C d.bdom (d.bE 2 y) (d.bE 1 y)) (j3 call74 y) y fun a w s d=>rz0 5 s y fun a s=>sn 3 [3] s d y y fun a s=>?_
 obtain ⟨U,D,u⟩:=bt u
 obtain ⟨ac,ah,T,af,H,n,F,G,E⟩:=d.elemV 2 y D
 have i:=s
 have l:=d
 subst H
 have s:=i
 have d:=l
 obtain ⟨_,_,_,_,_,rfl,rfl,rfl,rfl,rfl,⟨p49,n50,R,rfl,o⟩⟩:=E
 obtain rfl:=o.1
 have d:=(d.addE (e:=SlA p49 _ R U.Epochs) o).addE G
 refine sv s (o7 m5 o3 y y n.1 n.2 F) y fun a s=>sv s (l7 (o':=T+4) u9 y D2 y y y) y fun a s=>sv s (F5 (j:=4) (d.ceAt 0 y) y F0 y) y fun a s=>mv s y y fun a s=>?_
 obtain ⟨V,I,u⟩:=bt u
 obtain ⟨ad,ai,aj,ag,M,q,K,L,J⟩:=d.elemV 1 y I
 have k:=s
 have m:=d
 subst M
 have s:=k
 have d:=m
 obtain ⟨_,_,_,_,_,_,_,_,rfl,rfl,rfl,rfl,rfl,rfl,rfl,rfl,⟨p66,n67,S,rfl,t⟩⟩:=J
 obtain rfl:=t.1
 have d:=(d.addE (e:=SlA p66 _ S V.Response.Stages) t).addE L
 refine sv s (o7 o4 t6 y y q.1 q.2 K) y fun a s=>sv s (D5 (j:=0) (d.ceAt 0 y) y E3 t6 y y) y fun a s=>?_
 obtain ⟨b,N,u⟩:=bt u
 refine cR s (a0c N d.dom (d.envAt 1 y)) (j3 call45 y) y ?_
 rintro al X w a P ⟨p72,c,g,rfl,Q,O⟩ s
 have d:=(d.callN P Q).addE (e:=j6 g b.Response.Stages) O
 refine wa Z1 s d zeroValue41 fun ae a w s d=>ws (C41 b p72 c) s d 0 y y y t6 fun a w s d=>nl (l3 (sz 3 [4] s d y y fun a s=>?_))
 refine cd s u y (fun u=>?_) fun u=>?_
 ·refine sn 5 [4,4,0] s d y y fun a s=>sv s (A8 (vs:=[(0,iv 0),(1,V32 c5.Source),(2,iv c5.From),(3,V41 b p72 c)]) a8r y y) y fun a s=>ws (C43 ⟨0,c5.Source,c5.From,b⟩ p72 c) s d 3 y y y A0 fun a w s d=>rz0 1 s y fun a s=>?_
  obtain rfl:=oi u
  exact t7 (j4 (Y7 s y (D8 d 3 y y F1 A0 y) (F3 y) (d.ret ⟨p72,c,g,y,(d.outs [1] (by decide) y),(d.envAt 0 y)⟩)))
 refine sk (sn 6 [4,4,0] s d y y fun a s=>?_)
 refine sv s (A8 (vs:=[(0,iv 2),(1,V32 c5.Source),(2,iv c5.Epoch.From),(3,V41 b p72 c)]) a8r y y) y fun a s=>ws (C43 ⟨2,c5.Source,c5.Epoch.From,b⟩ p72 c) s d 3 y y y A0 fun a w s d=>rz0 1 s y fun a s=>?_
 obtain rfl:=oi u
 exact t7 (Y7 s y (D8 d 3 y y F1 A0 y) (F3 y) (d.ret ⟨p72,c,g,y,(d.outs [1] (by decide) y),(d.envAt 0 y)⟩))
theorem a3L {w0 S0 p2 k3 p6 k7 a1 b5 r} (u:a5o a1 b5=some r) (hS:Dm S0 w0) (h4:(Sq p2 k3 a1.Channels).p S0 w0) (h8:(Sq p6 k7 b5.Channels).p S0 w0):Ck Tryz.prog 19 #[.agg #[sl p2 k3 a1.Channels],.agg #[sl p6 k7 b5.Channels]] w0 S0 [] o5 r:=by
 refine en 66 func19 y hS y y y fun a s d=>?_
 have d:=(d.addE h4).addE h8
 refine sr (wb [sl p2 k3 a1.Channels] s d y fun b9 a w s d=>?_)
 refine wb [sl p6 k7 b5.Channels] s d y fun x a w s d=>rz0 1 s y fun a s=>l3 (sz 7 [1,0] s d y y fun a s=>?_)
 refine cd s u y (fun u=>?_) fun u=>?_
 ·refine sz0 1 s y fun a s=>?_
  obtain rfl:=oi u
  exact t7 (j4 (rt s y (d.ret y)))
 refine sk (l3 (sz0 1 s y fun a s=>?_))
 refine m6 (u7 (fun v a w=>∃ z,Sl 66 [(2,pt b9),(3,pt x),(5,iv v)] a∧Wd ⟨w0,S0,[]⟩ z [.box b9 [sl p2 k3 a1.Channels] 29,.box x [sl p6 k7 b5.Channels] 29] [Sq p2 k3 a1.Channels,Sq p6 k7 b5.Channels] w) 0 u ⟨S0,wj s d [1,0] [1,0]⟩ ?_)
 repeat clear u
 rintro v a w aM ⟨z,s,d⟩ u C
 refine l3 (sz 5 [0] s d y y fun a s=>?_)
 refine cd s u y (fun u=>?_) fun u=>?_
 ·refine sk (l3 (m6 (l3 ?_)))
  obtain ⟨h,Y,u⟩:=bt u
  obtain ⟨m,o,aY,aO,ad,aa,ab,ac,Z⟩:=d.elemV 0 y Y
  have P:=s
  have T:=d
  subst ad
  have s:=P
  have d:=T
  obtain ⟨_,_,_,_,_,rfl,rfl,rfl,rfl,rfl,⟨k,aU,f,rfl,J⟩⟩:=Z
  obtain rfl:=J.1
  have d:=(d.addE (e:=SlA k _ f h.Epochs) J).addE ac
  obtain ⟨i,ae,u⟩:=bt u
  obtain ⟨n,q,aZ,aP,aj,ag,ah,ai,af⟩:=d.elemV 3 y ae
  have Q:=s
  have U:=d
  subst aj
  have s:=Q
  have d:=U
  obtain ⟨_,_,_,_,_,rfl,rfl,rfl,rfl,rfl,⟨l,aV,g,rfl,K⟩⟩:=af
  obtain rfl:=K.1
  have d:=(d.addE (e:=SlA l _ g i.Epochs) K).addE ai
  refine C7 (fun a w=>∃ A b c,Sl 66 [(2,pt b9),(3,pt x),(5,iv v),(6,pt b),(7,pt c)] a∧Wd ⟨w0,S0,[]⟩ A [.box b9 [sl (some ⟨m,o,none⟩) k3 a1.Channels] 29,.box x [sl (some ⟨n,q,none⟩) k7 b5.Channels] 29,.box b (C73 h k f) 73,.box c (C73 i l g) 73] [Sq (some ⟨m,o,none⟩) k3 a1.Channels,Sq (some ⟨n,q,none⟩) k7 b5.Channels,Sq k f h.Epochs,Sq l g i.Epochs] w) ?_ ?_
  ·refine h_c [0,1] [0,2] d y y (by kernel_rfl) y fun hC d=>gn 3 [0,1,2] [0] s hC y y y fun a s=>gx s 3 y j8 y hC m5 o3 y y aa ab fun a s=>gv s 4 y y hC (fun w hC=>D5 (j:=0) (hC.ceAt 1 y) y F2 o3 y y) fun a s=>gn 3 [5,6,7] [1] s hC y y y fun a s=>gx s 8 y j8 y hC m5 o3 y y ag ah fun a s=>gv s 9 y y hC (fun w hC=>D5 (j:=0) (hC.ceAt 0 y) y F2 o3 y y) fun a s=>a2E (rs:=[10,11]) (by kernel_rfl) y ?_
   refine Q7.cons y ?_ ?_
   ·refine wa Z2 s d zeroValue73 fun b a w s d=>h_n [1,2] [0,2] d y y fun hC=>ho 11 y ?_
    refine wa Z2 s d zeroValue73 fun c a w s d=>h_n [2,3] [0,2] d y y fun hC=>ho 12 y ?_
    refine ws (C73 h k f) s d 1 y y y o3 fun a w s d=>h_n [2,3] [0,2] d y y fun hC=>ho 13 y ?_
    refine ws (C73 i l g) s d 0 y y y o3 fun a w s d=>h_n [2,3] [0,2] d y y fun hC=>q9 (by kernel_rfl) ?_
    exact ⟨z,b,c,wj s d [2,3,1,0] [4,5,3,1]⟩
   refine Q7.cons y ?_ ?_
   ·refine wa Z2 s d zeroValue73 fun c a w s d=>h_n [1,2] [0,2] d y y fun hC=>ho 10 y ?_
    refine wa Z2 s d zeroValue73 fun b a w s d=>h_n [2,3] [0,2] d y y fun hC=>ho 12 y ?_
    refine ws (C73 h k f) s d 0 y y y o3 fun a w s d=>h_n [2,3] [0,2] d y y fun hC=>ho 13 y ?_
    refine ws (C73 i l g) s d 1 y y y o3 fun a w s d=>h_n [2,3] [0,2] d y y fun hC=>q9 (by kernel_rfl) ?_
    exact ⟨z,b,c,wj s d [2,3,0,1] [4,5,3,1]⟩
   exact Q7.nil
  rintro a w ⟨A,b,c,s,d⟩
  refine tn (l3 (sn 4 [2,3] s d y y fun a s=>?_))
  refine sv s (a8T (by kernel_rfl) y y (M5 B8 (by kernel_rfl) (EqF.cons1 y B0 y y (D9 m7) (EqF.cons1 y B0 y y (D9 m7) (EqF.cons1 y B0 y y (D9 m7) (EqF.cons1 y B0 y y (D9 m7) EqF.nil)))))) y fun a s=>mv s y y fun a s=>rO 8 38 [2,3] s d y y y y y fun a s=>nl (cd s u y (fun u=>?_) fun u=>?_)
  ·refine sz0 1 s y fun a s=>?_
   obtain rfl:=oi u
   have ak:=C _ y
   subst ak
   exact t7 (j4 (o8 (j4 (j4 (o8 (j4 (rt s y (d.ret y))))))))
  refine sk (sz0 1 s y fun a s=>?_)
  refine m6 (u7 (fun D a w=>∃ t,Sl 66 [(2,pt b9),(3,pt x),(5,iv v),(6,pt b),(7,pt c),(8,iv D)] a∧Wd ⟨w0,S0,[]⟩ t [.box b9 [sl (some ⟨m,o,none⟩) k3 a1.Channels] 29,.box x [sl (some ⟨n,q,none⟩) k7 b5.Channels] 29,.box b (C73 h k f) 73,.box c (C73 i l g) 73] [Sq (some ⟨m,o,none⟩) k3 a1.Channels,Sq (some ⟨n,q,none⟩) k7 b5.Channels,Sq k f h.Epochs,Sq l g i.Epochs] w) 0 u ⟨A,wj s d [0,1,2,3] [0,1,2,3]⟩ ?_)
  repeat clear u
  rintro D a w aN ⟨t,s,d⟩ u G
  refine l3 (sz 5 [2] s d y y fun a s=>?_)
  refine cd s u y (fun u=>?_) fun u=>?_
  ·refine sk (l3 (m6 (l3 ?_)))
   obtain ⟨aI,al,u⟩:=bt u
   obtain ⟨H,N,a0,aQ,aq,an,ao,ap,am⟩:=d.elemV 2 y al
   have R:=s
   have V:=d
   subst aq
   have s:=R
   have d:=V
   obtain ⟨_,_,_,_,_,_,_,_,rfl,rfl,rfl,rfl,rfl,rfl,rfl,rfl,⟨aG,aW,aE,rfl,L⟩⟩:=am
   obtain rfl:=L.1
   have d:=(d.addE (e:=SlA aG _ aE aI.Response.Stages) L).addE ap
   obtain ⟨aJ,ar,u⟩:=bt u
   obtain ⟨I,O,a2,aR,ay,av,aw,ax,au⟩:=d.elemV 5 y ar
   have S:=s
   have W:=d
   subst ay
   have s:=S
   have d:=W
   obtain ⟨_,_,_,_,_,_,_,_,rfl,rfl,rfl,rfl,rfl,rfl,rfl,rfl,⟨aH,aX,aF,rfl,M⟩⟩:=au
   obtain rfl:=M.1
   have d:=(d.addE (e:=SlA aH _ aF aJ.Response.Stages) M).addE ax
   obtain ⟨X,az,u⟩:=bt u
   refine C7 (fun a w=>∃ B,Sl 66 [(2,pt b9),(3,pt x),(5,iv v),(6,pt b),(7,pt c),(8,iv D),(65,.bool (!X))] a∧Wd ⟨w0,S0,[]⟩ B [.box b9 [sl (some ⟨m,o,none⟩) k3 a1.Channels] 29,.box x [sl (some ⟨n,q,none⟩) k7 b5.Channels] 29,.box b (C73 h (some ⟨H,N,none⟩) f) 73,.box c (C73 i (some ⟨I,O,none⟩) g) 73] [Sq (some ⟨m,o,none⟩) k3 a1.Channels,Sq (some ⟨n,q,none⟩) k7 b5.Channels,Sq (some ⟨H,N,none⟩) f h.Epochs,Sq (some ⟨I,O,none⟩) g i.Epochs] w) ?_ ?_
   ·refine h_c [0,1,2,3] [0,2] d y y (by kernel_rfl) y fun hC d=>gn 3 [0,1,2] [2] s hC y y y fun a s=>gx s 3 y j8 y hC o4 t6 y y an ao fun a s=>gv s 4 y y hC (fun w hC=>D5 (j:=0) (hC.ceAt 1 y) y E3 t6 y y) fun a s=>gn 3 [5,6,7] [3] s hC y y y fun a s=>gx s 8 y j8 y hC o4 t6 y y av aw fun a s=>gv s 9 y y hC (fun w hC=>D5 (j:=0) (hC.ceAt 0 y) y E3 t6 y y) fun a s=>ho 10 y ?_
    refine cV s d (a1Y az d.bdom (d.bE 3 y) (d.bE 1 y)) (j3 call26 y) y fun a w s d=>h_n [0,1,2,3] [0,2] d y y fun hC=>gv s 11 y y hC (fun w hC=>a5Z y) fun a s=>q9 (by kernel_rfl) ?_
    exact ⟨t,wj s d [0,1,2,3] [4,5,6,7]⟩
   rintro a w ⟨B,s,d⟩
   refine tn (cd s u y (fun u=>?_) fun u=>?_)
   ·refine sz0 1 s y fun a s=>?_
    obtain rfl:=oi u
    have aA:=G _ y
    subst aA
    have aB:=C _ y
    subst aB
    exact t7 (o8 (j4 (j4 (o8 (o8 (j4 (j4 (o8 (j4 (rt s y (d.ret y)))))))))))
   refine D1 (l9 (tn (j9 (rn0 2 s y fun a s=>?_))))
   obtain ⟨aT,aC,u⟩:=bt u
   refine sv s (w9 y aC) y fun a s=>nl ⟨_,io u,B,wj s d [0,1,2,3] [0,1,2,3]⟩
  obtain ⟨aK,u,E⟩:=X5 u
  have E:=(G _ E.symm).symm
  subst E
  refine u0 (j5 (j5 (o9 (l9 (tn (j9 (rn0 2 s y fun a s=>?_)))))))
  obtain ⟨aS,aD,u⟩:=bt u
  refine sv s (w9 y aD) y fun a s=>nl ⟨_,io u,t,wj s d [0,1] [0,1]⟩
 obtain ⟨aL,u,F⟩:=X5 u
 have F:=(C _ F.symm).symm
 subst F
 refine u0 (j5 (j5 (o9 (tn (sz0 1 s y fun a s=>?_)))))
 obtain rfl:=oi u
 exact q1 s y (d.ret y)
theorem a3E {w0 S0 p2 k3 p6 k7 a1 b5 r} (u:a1I a1 b5=some r) (hS:Dm S0 w0) (h4:(Sq p2 k3 a1.Epoch.Response.Stages).p S0 w0) (h8:(Sq p6 k7 b5.Epoch.Response.Stages).p S0 w0):Ck Tryz.prog 35 #[V43 a1 p2 k3,V43 b5 p6 k7] w0 S0 [] o5 r:=by
 refine en 31 func35 y hS y y y fun a s d=>?_
 have d:=(d.addE h4).addE h8
 refine sr (wb (C43 a1 p2 k3) s d y fun b9 a w s d=>?_)
 refine wb (C43 b5 p6 k7) s d y fun g a w s d=>rz0 1 s y fun a s=>sn 6 [1,0] s d y y fun a s=>y7 6 (fun a w1=>w=w1∧Sl 31 [(2,pt b9),(3,pt g),(16,.bool ((a1.Kind == b5.Kind) && ((a1.Source.Network == b5.Source.Network) && ((a1.Source.Station == b5.Source.Station) && ((a1.Source.Location == b5.Source.Location) && ((a1.Source.Channel == b5.Source.Channel) && true))))))] a) ?_ ?_
 ·rcases j0 (a1.Kind == b5.Kind) with b | b
  ·have s:=s.bT 10 y b
   refine rn 4 [1,0] s d y y fun a s=>D6 s (a0E (by kernel_rfl) y y (M5 B8 (by kernel_rfl) (EqF.cons1 y B0 y y (D9 m7) (EqF.cons1 y B0 y y (D9 m7) (EqF.cons1 y B0 y y (D9 m7) (EqF.cons1 y B0 y y (D9 m7) EqF.nil)))))) ⟨_,y,y⟩ y y fun a s=>rz0 1 s y fun a s=>⟨y,(s.fix 16 (.bool ((a1.Kind == b5.Kind) && ((a1.Source.Network == b5.Source.Network) && ((a1.Source.Station == b5.Source.Station) && ((a1.Source.Location == b5.Source.Location) && ((a1.Source.Channel == b5.Source.Channel) && true)))))) y (a3J b)).weaken _ ⟨y,y,y,j8⟩⟩
  have s:=s.bF 10 y b
  refine rz0 6 s y fun a s=>⟨y,(s.fix 16 (.bool ((a1.Kind == b5.Kind) && ((a1.Source.Network == b5.Source.Network) && ((a1.Source.Station == b5.Source.Station) && ((a1.Source.Location == b5.Source.Location) && ((a1.Source.Channel == b5.Source.Channel) && true)))))) y (a3I b)).weaken _ ⟨y,y,y,j8⟩⟩
 rintro a w1 ⟨k,s⟩
 subst k
 refine mv s y y fun a s=>rA 6 17 [1,0] s d y y y y y fun a s=>mv s y y fun a s=>?_
 obtain ⟨h,f,u⟩:=bt u
 refine y7 6 (fun a w=>∃ e,Sl 31 [(30,.bool h)] a∧Wd ⟨w0,S0,[]⟩ e [] [] w) ?_ ?_
 ·rcases j0 (((a1.Kind == b5.Kind) && ((a1.Source.Network == b5.Source.Network) && ((a1.Source.Station == b5.Source.Station) && ((a1.Source.Location == b5.Source.Location) && ((a1.Source.Channel == b5.Source.Channel) && true))))) && (a1.From == b5.From)) with c | c
  ·have s:=s.bT 24 y c
   have u:=D7 f c
   refine rn 4 [1,0] s d y y fun a s=>?_
   obtain ⟨m,i,u⟩:=bt u
   refine x9 s (a1Y i d.bdom (d.bE 1 y) (d.bE 0 y)) (j3 call26 y) ⟨_,y,y⟩ y y ?_
   rintro n l w a j rfl s
   have d:=d.callB j
   refine sv s (I6 y y) y fun a s=>l4 ?_
   obtain rfl:=oi u
   exact tn ⟨S0,wj s d [] []⟩
  have s:=s.bF 24 y c
  have u:=E8 f c
  refine rn0 6 s y fun a s=>l4 ?_
  obtain rfl:=oi u
  exact tn ⟨S0,wj s d [] []⟩
 rintro a w ⟨e,s,d⟩
 refine rz0 1 s y fun a s=>?_
 obtain rfl:=oi u
 exact q1 s y (d.ret y)
theorem b2V {w0 S0 p2 k3 l1 r} (u:a7P l1=some r) (hS:Dm S0 w0) (h4:(Sq p2 k3 l1).p S0 w0):Ck Tryz.prog 77 #[sl p2 k3 l1] w0 S0 [] J8 r:=by
 refine en 68 func77 y hS y y y fun a s d=>?_
 have d:=d.addE h4
 refine sz0 1 s y fun a s=>sz0 1 s y fun a s=>l3 (sz0 1 s y fun a s=>?_)
 obtain ⟨P,ae,u⟩:=bt u
 refine A7 (fun a w=>∃ B L I Q,Sl 68 [(3,sl L I P)] a∧Wd ⟨w0,S0,[]⟩ Q [.row L P.length I B 32 4] [j6 B P] w) ?_ ?_
 ·refine m6 ?_
  have d:=d.nilRow SourceID 32
  refine u7 (fun b a w=>∃ c f e n,Sl 68 [(0,sl p2 k3 l1),(3,sl f e b.1),(4,iv b.2)] a∧Wd ⟨w0,S0,[]⟩ n [.row f b.1.length e c 32 4] [Sq p2 k3 l1,j6 c b.1] w) (([]:List SourceID),0) ae ⟨[],none,0,S0,wj s d [0] [1,0]⟩ ?_
  clear ae
  repeat clear u
  rintro b a w a9 ⟨c,f,e,n,s,d⟩ u a6
  refine l3 (sz0 4 s y fun a s=>?_)
  refine cd s u y (fun u=>?_) fun u=>?_
  ·refine sk (l3 (A7 (fun a w=>∃ (g:(List SourceID)) (C M J A:_),a5v b g=some a9∧Sl 68 [(0,sl p2 k3 l1),(3,sl M J g),(4,iv b.2)] a∧Wd ⟨w0,S0,[]⟩ A [.row M g.length J C 32 4] [Sq p2 k3 l1,j6 C g] w) ?_ ?_))
   ·refine m6 (sz0 1 s y fun a s=>?_)
    refine l3 ?_
    obtain ⟨D,ac,u⟩:=bt u
    refine A7 (fun a w=>∃ q,Sl 68 [(0,sl p2 k3 l1),(3,sl f e b.1),(4,iv b.2),(5,iv D)] a∧Wd ⟨w0,S0,[]⟩ q [.row f b.1.length e c 32 4] [Sq p2 k3 l1,j6 c b.1] w) ?_ ?_
    ·refine m6 (u7 (fun v a w=>∃ o,Sl 68 [(0,sl p2 k3 l1),(3,sl f e b.1),(4,iv b.2),(5,iv v)] a∧Wd ⟨w0,S0,[]⟩ o [.row f b.1.length e c 32 4] [Sq p2 k3 l1,j6 c b.1] w) 0 ac ⟨n,wj s d [0] [0,1]⟩ ?_)
     clear ac
     repeat clear u
     rintro v a w bR ⟨o,s,d⟩ u a7
     refine l3 (l3 ?_)
     obtain ⟨ba,af,u⟩:=bt u
     refine C7 (fun a w=>∃ t,Sl 68 [(0,sl p2 k3 l1),(3,sl f e b.1),(4,iv b.2),(5,iv v),(27,.bool ba)] a∧Wd ⟨w0,S0,[]⟩ t [.row f b.1.length e c 32 4] [Sq p2 k3 l1,j6 c b.1] w) ?_ ?_
     ·rcases j0 (decide (v<(b.1.length:Int))) with z | z
      ·have h:=D7 af z
       obtain ⟨b5,bc,h⟩:=K3 h
       obtain ⟨bY,b3,b0,bh,be,bf,bg,bd⟩:=d.elemRV (α:=SourceID) 0 y 1 y bc
       have au:=s
       have av:=d
       subst bh
       have s:=au
       have d:=av
       obtain ⟨_,_,_,_,rfl,rfl,rfl,rfl,rfl⟩:=bd
       obtain ⟨b6,bi,h⟩:=K3 h
       obtain ⟨bZ,bI,b4,b1,az,bk,bl,bm,bj⟩:=d.elemV 0 y bi
       have ai:=s
       have an:=d
       subst az
       have s:=ai
       have d:=an
       obtain ⟨_,_,_,_,rfl,rfl,rfl,rfl,rfl⟩:=bj
       have d:=d.addE bm
       obtain ⟨bo,aA,h⟩:=K3 h
       refine h_c [0] [0] d y y (by kernel_rfl) y fun hC d=>gn 5 [0,1,2,3,4] [] s hC y y y fun a s=>?_
       have s:=s.bT 16 y z
       refine gn 2 [5,6] [] s hC y y y fun a s=>gx s 7 y ⟨_,y,y⟩ y hC v8 s6 y y be bf fun a s=>gt s 8 y ⟨_,y,y⟩ y hC (fun w hC=>I4 (j:=0) (hC.ownAt 0 y) y B9 s6 bg y y) fun a s=>gn 2 [9,10] [] s hC y y y fun a s=>gx s 11 y ⟨_,y,y⟩ y hC v8 s6 y y bk bl fun a s=>gt s 12 y ⟨_,y,y⟩ y hC (fun w hC=>D5 (j:=0) (hC.ceAt 0 y) y B9 s6 y y) fun a s=>ho 13 y ?_
       refine x9 s (a3n aA d.bdom) (j3 call63 y) ⟨_,y,y⟩ y y ?_
       rintro bS bn w a aB rfl s
       have d:=d.callB aB
       refine h_n [0] [0] d y y fun hC=>gt s 14 y ⟨_,y,y⟩ y hC (fun w hC=>b1G y y) fun a s=>gT s 15 y y hC y y h fun a s=>q9 (by kernel_rfl) ?_
       exact ⟨o,wj s d [0] [1,2]⟩
      have aC:=E8 af z
      refine h_c [0] [] d y y (by kernel_rfl) y fun hC d=>gn 5 [0,1,2,3,4] [] s hC y y y fun a s=>?_
      have s:=s.bF 16 y z
      refine gn 10 [5,6,7,8,9,10,11,12,13,14] [] s hC y y y fun a s=>gF s 15 y y hC y y aC fun a s=>q9 (by kernel_rfl) ?_
      exact ⟨o,wj s d [0] [0,1]⟩
     rintro a w ⟨t,s,d⟩
     refine tn (cd s u y (fun u=>?_) fun u=>?_)
     ·refine sk (m6 (j9 (rn0 2 s y fun a s=>?_)))
      obtain ⟨bB,aD,u⟩:=bt u
      refine sv s (w9 y aD) y fun a s=>l4 ?_
      exact l9 (tn ⟨_,io u,t,wj s d [0] [0,1]⟩)
     refine u0 (j5 (j5 (o9 ?_)))
     obtain rfl:=oi u
     have aE:=a7 _ y
     subst aE
     exact tn ⟨t,wj s d [0] [0,1]⟩
    rintro a w ⟨q,s,d⟩
    refine tn (l3 (l3 ?_))
    obtain ⟨ax,O,u⟩:=bt u
    refine C7 (fun a w=>∃ i,Sl 68 [(0,sl p2 k3 l1),(3,sl f e b.1),(4,iv b.2),(5,iv D),(44,.bool ax)] a∧Wd ⟨w0,S0,[]⟩ i [.row f b.1.length e c 32 4] [Sq p2 k3 l1,j6 c b.1] w) ?_ ?_
    ·rcases j0 (decide (D<(b.1.length:Int))) with l | l
     ·have m:=D7 O l
      obtain ⟨bU,aF,m⟩:=K3 m
      obtain ⟨bp,bM,bs,aK,aH,aI,aJ,aG⟩:=d.elemRV (α:=SourceID) 0 y 1 y aF
      have aj:=s
      have ao:=d
      subst aK
      have s:=aj
      have d:=ao
      obtain ⟨_,_,_,_,rfl,rfl,rfl,rfl,rfl⟩:=aG
      obtain ⟨bV,aL,m⟩:=K3 m
      obtain ⟨bq,bJ,bN,bu,aQ,aN,aO,aP,aM⟩:=d.elemV 0 y aL
      have ak:=s
      have ap:=d
      subst aQ
      have s:=ak
      have d:=ap
      obtain ⟨_,_,_,_,rfl,rfl,rfl,rfl,rfl⟩:=aM
      have d:=d.addE aP
      refine h_c [0] [0] d y y (by kernel_rfl) y fun hC d=>gn 5 [0,1,2,3,4] [] s hC y y y fun a s=>?_
      have s:=s.bT 34 y l
      refine gn 2 [5,6] [] s hC y y y fun a s=>gx s 7 y ⟨_,y,y⟩ y hC v8 s6 y y aH aI fun a s=>gt s 8 y ⟨_,y,y⟩ y hC (fun w hC=>I4 (j:=0) (hC.ownAt 0 y) y B9 s6 aJ y y) fun a s=>gn 2 [9,10] [] s hC y y y fun a s=>gx s 11 y ⟨_,y,y⟩ y hC v8 s6 y y aN aO fun a s=>gt s 12 y ⟨_,y,y⟩ y hC (fun w hC=>D5 (j:=0) (hC.ceAt 0 y) y B9 s6 y y) fun a s=>gt s 13 y ⟨_,y,y⟩ y hC (fun w hC=>a0E (by kernel_rfl) y y (M5 B8 (by kernel_rfl) (EqF.cons1 y B0 y y (D9 m7) (EqF.cons1 y B0 y y (D9 m7) (EqF.cons1 y B0 y y (D9 m7) (EqF.cons1 y B0 y y (D9 m7) EqF.nil)))))) fun a s=>gT s 14 y y hC y y m fun a s=>q9 (by kernel_rfl) ?_
      exact ⟨q,wj s d [0] [1,2]⟩
     have aR:=E8 O l
     refine h_c [0] [] d y y (by kernel_rfl) y fun hC d=>gn 5 [0,1,2,3,4] [] s hC y y y fun a s=>?_
     have s:=s.bF 34 y l
     refine gn 9 [5,6,7,8,9,10,11,12,13] [] s hC y y y fun a s=>gF s 14 y y hC y y aR fun a s=>q9 (by kernel_rfl) ?_
     exact ⟨q,wj s d [0] [0,1]⟩
    rintro a w ⟨i,s,d⟩
    refine tn (cd s u y (fun u=>?_) fun u=>?_)
    ·exact u0 (j5 (o9 (tn ⟨b.1,c,f,e,i,u,wj s d [0] [0,1]⟩)))
    refine sk (sn0 3 s y fun a s=>?_)
    obtain ⟨N,aS,u⟩:=bt u
    obtain ⟨R,ag,bO,bv,aW,S,aU,aV,aT⟩:=d.elemV 0 y aS
    have al:=s
    have aq:=d
    subst aW
    have s:=al
    have d:=aq
    obtain ⟨_,_,_,_,rfl,rfl,rfl,rfl,rfl⟩:=aT
    have d:=d.addE aV
    refine sv s (o7 v8 s6 y y S.1 S.2 aU) y fun a s=>sv s (D5 (j:=0) (d.ceAt 0 y) y B9 s6 y y) y fun a s=>q8 (α:=SourceID) (vs:=[V32 N]) (cs:=(C32 N)) (xs:=([N]:List SourceID)) s d b1X y y y y y y ⟨⟨_,_,_,_,y,y,y,y,y⟩,y⟩ y j8 y fun br a w s d=>?_
    obtain ⟨bE,aX,u⟩:=bt u
    refine F6 (α:=SourceID) s d b1X 1 y y y 3 y 0 y 0 y aX y j8 ?_
    intro ah H bw a w s d
    refine rz0 1 s y fun a s=>l3 ?_
    obtain ⟨bG,E,u⟩:=bt u
    obtain ⟨bK,bC,T⟩:=X9 (α:=SourceID) d 1 y E
    obtain ⟨bH,U,u⟩:=bt u
    obtain ⟨bL,bD,V⟩:=X9 (α:=SourceID) d 1 y U
    obtain ⟨K,W,u⟩:=bt u
    refine C7 (fun a w=>∃ x k,Sl 68 [(0,sl (some ⟨R,ag,none⟩) k3 l1),(3,sl ah H K),(4,iv b.2),(5,iv D)] a∧Wd ⟨w0,S0,[]⟩ x [.row ah K.length H k 32 4] [Sq (some ⟨R,ag,none⟩) k3 l1,j6 k K] w) ?_ ?_
    ·refine h_c [0] [2] d y y (by kernel_rfl) y fun hC d=>gn 3 [0,1,2] [] s hC y y y fun a s=>gv s 3 y y hC (fun w hC=>U4 v8 s6 y ⟨_,y⟩ (by exact y) T) fun a s=>gn 2 [4,5] [] s hC y y y fun a s=>gv s 6 y y hC (fun w hC=>U4 v8 s6 y ⟨_,y⟩ (by exact y) V) fun a s=>ho 7 y ?_
     obtain ⟨ds_,G⟩:=b4i (d.ownAt 1 y) (d.envAt 0 y) U V
     refine b0O (α:=SourceID) s d 1 y 0 y v8 v8 s6 (by decide) E T y y y G.1 G.2.1 G.2.2 y j8 ?_
     intro k a w s d
     rw [Option.some.inj W] at d
     have F:=(a5k E W)
     try have s:=s.fl 3 rfl F
     try have s:=s.fl 52 rfl F
     try have s:=s.fl 56 rfl F
     refine h_n [0] [3] d y y fun hC=>q9 (by kernel_rfl) ?_
     exact ⟨i,k,wj s d [1] [4,0]⟩
    rintro a w ⟨x,k,s,d⟩
    refine tn (j9 (rn0 4 s y fun a s=>?_))
    obtain ⟨bW,aY,u⟩:=bt u
    obtain ⟨bP,bx,X,a0,a1,aZ⟩:=d.elemK 0 y aY
    obtain ⟨_,_,_,_,rfl,rfl,rfl,rfl,rfl⟩:=aZ
    have d:=d.addE a1
    refine sv s (o7 v8 s6 y y X.1 X.2 a0) y fun a s=>sv s (D5 (j:=0) (d.ceAt 0 y) y B9 s6 y y) y fun a s=>?_
    obtain ⟨bX,a2,u⟩:=bt u
    obtain ⟨aw,bQ,bz,a4,Y,Z,bA,a3⟩:=d.elemRV (α:=SourceID) 0 y 2 y a2
    have am:=s
    have ar:=d
    subst a4
    have s:=am
    have d:=ar
    obtain ⟨_,_,_,_,rfl,rfl,rfl,rfl,rfl⟩:=a3
    refine sv s (o7 v8 s6 y y Y.1 Y.2 Z) y fun a s=>?_
    obtain ⟨a8,aa,u⟩:=bt u
    refine a5d (α:=SourceID) s d 0 y 2 y Z y y s6 y aa ⟨_,_,_,_,y,y,y,y,y⟩ j8 ?_
    intro ay a w s d
    have ab:=Y8 aa
    try have s:=s.fl 3 rfl ab
    try have s:=s.fl 60 rfl ab
    refine l4 ?_
    exact l9 (tn ⟨a8,ay,(ad aw),H,x,u,wj s d [0] [2,0]⟩)
   rintro a w ⟨g,C,M,J,A,u,s,d⟩
   refine tn (j9 (rn0 2 s y fun a s=>?_))
   obtain ⟨b2,bb,u⟩:=bt u
   refine sv s (w9 y bb) y fun a s=>nl ⟨_,io u,C,M,J,A,wj s d [0] [0,1]⟩
  refine u0 (j5 (j5 (o9 ?_)))
  obtain rfl:=oi u
  have a5:=a6 _ y
  subst a5
  exact tn ⟨c,f,e,n,wj s d [0] [1]⟩
 rintro a w ⟨B,L,I,Q,s,d⟩
 refine tn (sz0 2 s y fun a s=>?_)
 obtain rfl:=oi u
 exact q1 s y (d.ret ⟨L,I,B,y,(d.outs [0] (by decide) y),(d.envAt 0 y)⟩)
abbrev b3a (w0:World) (X:List Nat) (r:(Channel × Bool)):Rd:=fun S w v=>∃ b a,v=.tuple #[V73 r.1 b a,.bool r.2]∧(Sq b a r.1.Epochs).p S w
theorem a5I {w0 S0 p2 k3 b s5 r} (u:a6z b s5=some r) (hS:Dm S0 w0) (h4:(Sq p2 k3 b.Channels).p S0 w0):Ck Tryz.prog 60 #[.agg #[sl p2 k3 b.Channels],V32 s5] w0 S0 [] b3a r:=by
 refine en 34 func60 y hS y y y fun a s d=>?_
 have d:=d.addE h4
 refine sr (wb [sl p2 k3 b.Channels] s d y fun b6 a w s d=>?_)
 refine wb (C32 s5) s d y fun b7 a w s d=>wa Z2 s d zeroValue73 fun b8 a w s d=>rz0 1 s y fun a s=>l3 (sz0 1 s y fun a s=>?_)
 refine m6 ?_
 have d:=d.addE (e:=SlA (α:=Epoch) none 0 0 []) K9
 refine u7 (fun h a w=>∃ f,Sl 34 [(2,pt b6),(3,pt b7),(4,pt b8),(6,iv h)] a∧Wd ⟨w0,S0,[]⟩ f [.box b6 [sl p2 k3 b.Channels] 29,.box b7 (C32 s5) 32,.box b8 Z2 73] [Sq p2 k3 b.Channels,Sq none 0 ([]:List Epoch)] w) 0 u ⟨S0,wj s d [2,1,0] [1,0]⟩ ?_
 repeat clear u
 rintro h a w ah ⟨f,s,d⟩ u m
 refine l3 (sz 5 [0] s d y y fun a s=>?_)
 refine cd s u y (fun u=>?_) fun u=>?_
 ·refine sk (l3 (m6 (l3 ?_)))
  obtain ⟨c,F,u⟩:=bt u
  obtain ⟨n,B,ae,aj,K,H,I,J,G⟩:=d.elemV 0 y F
  have v:=s
  have z:=d
  subst K
  have s:=v
  have d:=z
  obtain ⟨_,_,_,_,_,rfl,rfl,rfl,rfl,rfl,⟨ac,an,Z,rfl,o⟩⟩:=G
  obtain rfl:=o.1
  have d:=(d.addE (e:=SlA ac _ Z c.Epochs) o).addE J
  refine C7 (fun a w=>∃ g,Sl 34 [(2,pt b6),(3,pt b7),(4,pt b8),(6,iv h),(21,.bool ((c.Source.Network == s5.Network) && ((c.Source.Station == s5.Station) && ((c.Source.Location == s5.Location) && ((c.Source.Channel == s5.Channel) && true)))))] a∧Wd ⟨w0,S0,[]⟩ g [.box b6 [sl (some ⟨n,B,none⟩) k3 b.Channels] 29,.box b7 (C32 s5) 32,.box b8 Z2 73] [Sq (some ⟨n,B,none⟩) k3 b.Channels,Sq none 0 ([]:List Epoch)] w) ?_ ?_
  ·refine h_c [0,1,2] [0] d y y (by kernel_rfl) y fun hC d=>gn 3 [0,1,2] [0] s hC y y y fun a s=>gx s 3 y j8 y hC m5 o3 y y H I fun a s=>gv s 4 y y hC (fun w hC=>l7 (o':=ae+0) u9 y s6 y y y) fun a s=>gv s 5 y y hC (fun w hC=>D5 (j:=0) (hC.ceAt 0 y) y B9 s6 y y) fun a s=>gv s 6 y y hC (fun w hC=>Y0 (hC.ownAt 1 y) y B9 s6 y y) fun a s=>gv s 7 y y hC (fun w hC=>a0E (by kernel_rfl) y y (M5 B8 (by kernel_rfl) (EqF.cons1 y B0 y y (D9 m7) (EqF.cons1 y B0 y y (D9 m7) (EqF.cons1 y B0 y y (D9 m7) (EqF.cons1 y B0 y y (D9 m7) EqF.nil)))))) fun a s=>q9 (by kernel_rfl) ?_
   exact ⟨f,wj s d [0,1,2] [2,3]⟩
  rintro a w ⟨g,s,d⟩
  refine tn (cd s u y (fun u=>?_) fun u=>?_)
  ·refine sn 5 [0] s d y y fun a s=>?_
   obtain ⟨ab,L,u⟩:=bt u
   obtain ⟨ad,aa,M,N⟩:=a7Y (d.envAt 0 y) L
   have d:=d.addE M
   refine sv s (U4 m5 o3 y ⟨_,y⟩ ⟨_,y⟩ N) y fun a s=>sv s (A8 (vs:=[(0,sl ad aa ab)]) a5Q y y) y fun a s=>?_
   obtain ⟨D,O,u⟩:=bt u
   refine cR s (a3K O d.dom (d.envAt 0 y)) (j3 call73 y) y ?_
   rintro ar af w a Q ⟨ap,am,E,rfl,R,P⟩ s
   have d:=(d.callN Q R).addE (e:=j6 E D.Channels) P
   refine sv s (b6v D3 y I2 y y) y fun a s=>?_
   obtain ⟨C,S,u⟩:=bt u
   obtain ⟨ai,aq,ak,W,q,U,V,T⟩:=d.elemRV (α:=Channel) 0 y 0 y S
   have x:=s
   have A:=d
   subst W
   have s:=x
   have d:=A
   obtain ⟨_,_,_,_,_,rfl,rfl,rfl,rfl,rfl,⟨l,ao,k,rfl,t⟩⟩:=T
   obtain rfl:=t.1
   have d:=d.addE (e:=SlA l _ k C.Epochs) t
   refine sv s (o7 m5 o3 y y q.1 q.2 U) y fun a s=>sv s (I4 (j:=0) (d.ownAt 0 y) y F2 o3 V y y) y fun a s=>ws (C73 C l k) s d 3 y y y o3 fun a w s d=>rz0 1 s y fun a s=>?_
   obtain rfl:=oi u
   have X:=m _ y
   subst X
   exact t7 (o8 (j4 (j4 (o8 (j4 (Y7 s y (D8 d 3 y y F2 o3 y) (F3 y) (d.ret ⟨l,k,y,(d.envAt 0 y)⟩)))))))
  refine D1 (l9 (tn (j9 (rn0 2 s y fun a s=>?_))))
  obtain ⟨al,Y,u⟩:=bt u
  refine sv s (w9 y Y) y fun a s=>nl ⟨_,io u,g,wj s d [0,1,2] [0,1]⟩
 obtain ⟨ag,u,i⟩:=X5 u
 have i:=(m _ i.symm).symm
 subst i
 refine u0 (j5 (j5 (o9 (tn (sr (sv s (A8 (vs:=[]) b1T y y) y fun a s=>?_))))))
 refine ws Z2 s d 2 y y y o3 fun a w s d=>rz0 1 s y fun a s=>?_
 obtain rfl:=oi u
 exact t7 (Y7 s y (D8 d 2 y y F2 o3 y) (F3 y) (d.ret ⟨none,0,y,(d.envAt 1 y)⟩))
theorem b3b {w0 S0 p2 k3 p6 k7 a1 b5 r} (u:a7S a1 b5=some r) (hS:Dm S0 w0) (h4:(Sq p2 k3 a1.Response.Stages).p S0 w0) (h8:(Sq p6 k7 b5.Response.Stages).p S0 w0):Ck Tryz.prog 118 #[V41 a1 p2 k3,V41 b5 p6 k7] w0 S0 [] o5 r:=by
 refine en 14 func118 y hS y y y fun a s d=>?_
 have d:=(d.addE h4).addE h8
 refine sr (wb (C41 a1 p2 k3) s d y fun b9 a w s d=>?_)
 refine wb (C41 b5 p6 k7) s d y fun c a w s d=>rz0 1 s y fun a s=>l3 (C7 (fun a w=>∃ b,Sl 14 [(2,pt b9),(3,pt c)] a∧Wd ⟨w0,S0,[]⟩ b [.box b9 (C41 ⟨b5.From,b5.To,a1.Rate,a1.Position,a1.Response⟩ p2 k3) 41,.box c (C41 b5 p6 k7) 41] [Sq p2 k3 a1.Response.Stages,Sq p6 k7 b5.Response.Stages] w) ?_ ?_)
 ·refine h_c [0] [] d y y (by kernel_rfl) y fun hC d=>gn 5 [0,1,2,3,4] [0,0] s hC y y y fun a s=>ho 5 y ?_
  refine ws (C41 ⟨b5.From,a1.To,a1.Rate,a1.Position,a1.Response⟩ p2 k3) s d 1 y y y m8 fun a w s d=>h_n [0] [] d y y fun hC=>gv s 6 y y hC (fun w hC=>l7 (o':=1) B7 y m8 y y y) fun a s=>ho 7 y ?_
  refine ws (C41 ⟨b5.From,b5.To,a1.Rate,a1.Position,a1.Response⟩ p2 k3) s d 1 y y y m8 fun a w s d=>h_n [0] [] d y y fun hC=>q9 (by kernel_rfl) ?_
  exact ⟨S0,wj s d [1,0] [1,0]⟩
 rintro a w ⟨b,s,d⟩
 refine tn (sn 2 [0,1] s d y y fun a s=>?_)
 obtain ⟨f,e,u⟩:=bt u
 refine cV s d (a1Y e d.bdom (d.bE 0 y) (d.bE 1 y)) (j3 call26 y) y fun a w s d=>rz0 1 s y fun a s=>?_
 obtain rfl:=oi u
 exact q1 s y (d.ret y)
theorem a0V {w0 S0 p2 k3 l1 r} (u:a0D l1=some r) (hS:Dm S0 w0) (h4:(Sq p2 k3 l1).p S0 w0):Ck Tryz.prog 61 #[sl p2 k3 l1] w0 S0 [] A9 r:=by
 refine en 117 func61 y hS y y y fun a s d=>?_
 have d:=d.addE h4
 refine sz0 1 s y fun a s=>sz0 1 s y fun a s=>l3 (sz0 1 s y fun a s=>?_)
 obtain ⟨e,ay,u⟩:=bt u
 refine A7 (fun a w=>∃ n x o X,Sl 117 [(3,sl x o e)] a∧Wd ⟨w0,S0,[]⟩ X [.row x e.length o n 52 2] [j6 n e] w) ?_ ?_
 ·refine m6 ?_
  have d:=d.nilRow Span 52
  refine u7 (fun b a w=>∃ g i h G,Sl 117 [(0,sl p2 k3 l1),(3,sl i h b.1),(4,iv b.2)] a∧Wd ⟨w0,S0,[]⟩ G [.row i b.1.length h g 52 2] [Sq p2 k3 l1,j6 g b.1] w) (([]:List Span),0) ay ⟨[],none,0,S0,wj s d [0] [1,0]⟩ ?_
  clear ay
  repeat clear u
  rintro b a w bX ⟨g,i,h,G,s,d⟩ u bN
  refine l3 (sz0 4 s y fun a s=>?_)
  refine cd s u y (fun u=>?_) fun u=>?_
  ·refine sk (l3 (A7 (fun a w=>∃ (k:(List Span)) (ac ah ag Y:_),a3U b k=some bX∧Sl 117 [(0,sl p2 k3 l1),(3,sl ah ag k),(4,iv b.2)] a∧Wd ⟨w0,S0,[]⟩ Y [.row ah k.length ag ac 52 2] [Sq p2 k3 l1,j6 ac k] w) ?_ ?_))
   ·refine m6 (l3 (l3 ?_))
    obtain ⟨cN,b2,u⟩:=bt u
    obtain ⟨q,t,cJ,da,b7,b4,b5,b6,b3⟩:=d.elemV 0 y b2
    have aY:=s
    have a1:=d
    subst b7
    have s:=aY
    have d:=a1
    obtain ⟨_,_,rfl,rfl,rfl⟩:=b3
    have d:=d.addE b6
    obtain ⟨cO,b8,u⟩:=bt u
    obtain ⟨cK,db,ca,cb,cc,b9⟩:=d.elemK 1 y b8
    obtain ⟨_,_,rfl,rfl,rfl⟩:=b9
    have d:=d.addE cc
    refine C7 (fun a w=>∃ H,Sl 117 [(0,sl (some ⟨q,t,none⟩) k3 l1),(3,sl i h b.1),(4,iv b.2),(25,.bool (decide (cO.To≤cN.From)))] a∧Wd ⟨w0,S0,[]⟩ H [.row i b.1.length h g 52 2] [Sq (some ⟨q,t,none⟩) k3 l1,j6 g b.1] w) ?_ ?_
    ·refine h_c [0] [0,1] d y y (by kernel_rfl) y fun hC d=>gn 2 [0,1] [] s hC y y y fun a s=>gx s 2 y j8 y hC o0 u5 y y b4 b5 fun a s=>gv s 3 y y hC (fun w hC=>l7 (o':=cJ+0) t8 y m8 y y y) fun a s=>gv s 4 y y hC (fun w hC=>F5 (j:=0) (hC.ceAt 1 y) y s8 y) fun a s=>gn 2 [5,6] [] s hC y y y fun a s=>gx s 7 y j8 y hC o0 u5 y y ca cb fun a s=>gv s 8 y y hC (fun w hC=>l7 (o':=cK+1) t8 y m8 y y y) fun a s=>gv s 9 y y hC (fun w hC=>F5 (j:=1) (hC.ceAt 0 y) y s8 y) fun a s=>gv s 10 y y hC (fun w hC=>a9C y y) fun a s=>q9 (by kernel_rfl) ?_
     exact ⟨G,wj s d [0] [2,3]⟩
    rintro a w ⟨H,s,d⟩
    refine tn (cd s u y (fun u=>?_) fun u=>?_)
    ·exact u0 (j5 (o9 (tn ⟨b.1,g,i,h,H,u,wj s d [0] [0,1]⟩)))
    refine sk (sn0 2 s y fun a s=>?_)
    obtain ⟨cH,ce,u⟩:=bt u
    refine sv s (w9 y ce) y fun a s=>nl (l3 ?_)
    obtain ⟨aL,aW,u⟩:=bt u
    refine A7 (fun a w=>∃ Z,Sl 117 [(0,sl (some ⟨q,t,none⟩) k3 l1),(3,sl i h b.1),(4,iv b.2),(5,iv aL)] a∧Wd ⟨w0,S0,[]⟩ Z [.row i b.1.length h g 52 2] [Sq (some ⟨q,t,none⟩) k3 l1,j6 g b.1] w) ?_ ?_
    ·refine m6 (u7 (fun R a w=>∃ I,Sl 117 [(0,sl (some ⟨q,t,none⟩) k3 l1),(3,sl i h b.1),(4,iv b.2),(5,iv R)] a∧Wd ⟨w0,S0,[]⟩ I [.row i b.1.length h g 52 2] [Sq (some ⟨q,t,none⟩) k3 l1,j6 g b.1] w) cH aW ⟨H,wj s d [0] [0,1]⟩ ?_)
     clear aW
     repeat clear u
     rintro R a w c2 ⟨I,s,d⟩ u bO
     refine l3 (l3 ?_)
     obtain ⟨bZ,az,u⟩:=bt u
     refine C7 (fun a w=>∃ J,Sl 117 [(0,sl (some ⟨q,t,none⟩) k3 l1),(3,sl i h b.1),(4,iv b.2),(5,iv R),(43,.bool bZ)] a∧Wd ⟨w0,S0,[]⟩ J [.row i b.1.length h g 52 2] [Sq (some ⟨q,t,none⟩) k3 l1,j6 g b.1] w) ?_ ?_
     ·rcases j0 (decide (0<R)) with V | V
      ·have W:=D7 az V
       obtain ⟨dw,cf,W⟩:=K3 W
       obtain ⟨c8,cL,dc,ck,ch,ci,cj,cg⟩:=d.elemRV (α:=Span) 0 y 1 y cf
       have aZ:=s
       have a2:=d
       subst ck
       have s:=aZ
       have d:=a2
       obtain ⟨_,_,rfl,rfl,rfl⟩:=cg
       obtain ⟨dx,cl,W⟩:=K3 W
       obtain ⟨cM,dd,cn,co,cp,cm⟩:=d.elemK 0 y cl
       obtain ⟨_,_,rfl,rfl,rfl⟩:=cm
       have d:=d.addE cp
       refine h_c [0] [0] d y y (by kernel_rfl) y fun hC d=>gn 3 [0,1,2] [] s hC y y y fun a s=>?_
       have s:=s.bT 30 y V
       refine gn 3 [3,4,5] [] s hC y y y fun a s=>gx s 6 y ⟨_,y,y⟩ y hC o0 u5 y y ch ci fun a s=>gt s 7 y ⟨_,y,y⟩ y hC (fun w hC=>l7 (o':=cL+0) t8 y m8 y y y) fun a s=>gt s 8 y ⟨_,y,y⟩ y hC (fun w hC=>H5 (j:=0) (hC.ownAt 0 y) y s8 cj y) fun a s=>gn 2 [9,10] [] s hC y y y fun a s=>gx s 11 y ⟨_,y,y⟩ y hC o0 u5 y y cn co fun a s=>gt s 12 y ⟨_,y,y⟩ y hC (fun w hC=>l7 (o':=cM+0) t8 y m8 y y y) fun a s=>gt s 13 y ⟨_,y,y⟩ y hC (fun w hC=>F5 (j:=0) (hC.ceAt 0 y) y s8 y) fun a s=>gt s 14 y ⟨_,y,y⟩ y hC (fun w hC=>y_gtr y y) fun a s=>gT s 15 y y hC y y W fun a s=>q9 (by kernel_rfl) ?_
       exact ⟨I,wj s d [0] [1,2]⟩
      have cq:=E8 az V
      refine h_c [0] [] d y y (by kernel_rfl) y fun hC d=>gn 3 [0,1,2] [] s hC y y y fun a s=>?_
      have s:=s.bF 30 y V
      refine gn 12 [3,4,5,6,7,8,9,10,11,12,13,14] [] s hC y y y fun a s=>gF s 15 y y hC y y cq fun a s=>q9 (by kernel_rfl) ?_
      exact ⟨I,wj s d [0] [0,1]⟩
     rintro a w ⟨J,s,d⟩
     refine tn (cd s u y (fun u=>?_) fun u=>?_)
     ·refine sk (m6 (j9 (rn0 2 s y fun a s=>?_)))
      obtain ⟨dk,cr,u⟩:=bt u
      refine sv s (w9 y cr) y fun a s=>l4 ?_
      exact l9 (tn ⟨_,io u,J,wj s d [0] [0,1]⟩)
     refine u0 (j5 (j5 (o9 ?_)))
     obtain rfl:=oi u
     have ct:=bO _ y
     subst ct
     exact tn ⟨J,wj s d [0] [0,1]⟩
    rintro a w ⟨Z,s,d⟩
    refine tn (sn0 3 s y fun a s=>?_)
    obtain ⟨aq,cu,u⟩:=bt u
    obtain ⟨dt,de,aM,cw,cx,cv⟩:=d.elemK 0 y cu
    obtain ⟨_,_,rfl,rfl,rfl⟩:=cv
    have d:=d.addE cx
    refine sv s (o7 o0 u5 y y aM.1 aM.2 cw) y fun a s=>sv s (D5 (j:=0) (d.ceAt 0 y) y H3 u5 y y) y fun a s=>q8 (α:=Span) (vs:=[V52 aq]) (cs:=(C52 aq)) (xs:=([aq]:List Span)) s d a3z y y y y y y ⟨⟨_,_,y,y,y⟩,y⟩ y j8 y fun c9 a w s d=>?_
    obtain ⟨dn,cy,u⟩:=bt u
    refine F6 (α:=Span) s d a3z 1 y y y 3 y 0 y 0 y cy y j8 ?_
    intro a4 ao df a w s d
    refine rz0 1 s y fun a s=>l3 ?_
    obtain ⟨dp,al,u⟩:=bt u
    obtain ⟨dr,dl,aN⟩:=X9 (α:=Span) d 1 y al
    obtain ⟨dq,aO,u⟩:=bt u
    obtain ⟨ds,dm,aP⟩:=X9 (α:=Span) d 1 y aO
    obtain ⟨ap,aQ,u⟩:=bt u
    refine C7 (fun a w=>∃ aa U,Sl 117 [(0,sl (some ⟨q,t,none⟩) k3 l1),(3,sl a4 ao ap),(4,iv b.2),(5,iv aL)] a∧Wd ⟨w0,S0,[]⟩ aa [.row a4 ap.length ao U 52 2] [Sq (some ⟨q,t,none⟩) k3 l1,j6 U ap] w) ?_ ?_
    ·refine h_c [0] [2] d y y (by kernel_rfl) y fun hC d=>gn 3 [0,1,2] [] s hC y y y fun a s=>gv s 3 y y hC (fun w hC=>U4 o0 u5 y ⟨_,y⟩ (by exact y) aN) fun a s=>gn 2 [4,5] [] s hC y y y fun a s=>gv s 6 y y hC (fun w hC=>U4 o0 u5 y ⟨_,y⟩ (by exact y) aP) fun a s=>ho 7 y ?_
     obtain ⟨ds_,an⟩:=b4i (d.ownAt 1 y) (d.envAt 0 y) aO aP
     refine b0O (α:=Span) s d 1 y 0 y o0 o0 u5 (by decide) al aN y y y an.1 an.2.1 an.2.2 y j8 ?_
     intro U a w s d
     rw [Option.some.inj aQ] at d
     have am:=(a5k al aQ)
     try have s:=s.fl 3 rfl am
     try have s:=s.fl 53 rfl am
     try have s:=s.fl 57 rfl am
     refine h_n [0] [3] d y y fun hC=>q9 (by kernel_rfl) ?_
     exact ⟨Z,U,wj s d [1] [4,0]⟩
    rintro a w ⟨aa,U,s,d⟩
    refine tn (j9 (rn0 4 s y fun a s=>?_))
    obtain ⟨dy,cz,u⟩:=bt u
    obtain ⟨du,dg,aR,cB,cC,cA⟩:=d.elemK 0 y cz
    obtain ⟨_,_,rfl,rfl,rfl⟩:=cA
    have d:=d.addE cC
    refine sv s (o7 o0 u5 y y aR.1 aR.2 cB) y fun a s=>sv s (D5 (j:=0) (d.ceAt 0 y) y H3 u5 y y) y fun a s=>?_
    obtain ⟨dz,cD,u⟩:=bt u
    obtain ⟨bY,dv,dh,cF,aS,aT,di,cE⟩:=d.elemRV (α:=Span) 0 y 2 y cD
    have a0:=s
    have a3:=d
    subst cF
    have s:=a0
    have d:=a3
    obtain ⟨_,_,rfl,rfl,rfl⟩:=cE
    refine sv s (o7 o0 u5 y y aS.1 aS.2 aT) y fun a s=>?_
    obtain ⟨cI,aU,u⟩:=bt u
    refine a5d (α:=Span) s d 0 y 2 y aT y y u5 y aU ⟨_,_,y,y,y⟩ j8 ?_
    intro b0 a w s d
    have aV:=Y8 aU
    try have s:=s.fl 3 rfl aV
    try have s:=s.fl 61 rfl aV
    refine l4 ?_
    exact l9 (tn ⟨cI,b0,(ad bY),ao,aa,u,wj s d [0] [2,0]⟩)
   rintro a w ⟨k,ac,ah,ag,Y,u,s,d⟩
   refine tn (j9 (rn0 2 s y fun a s=>?_))
   obtain ⟨dj,b1,u⟩:=bt u
   refine sv s (w9 y b1) y fun a s=>nl ⟨_,io u,ac,ah,ag,Y,wj s d [0] [0,1]⟩
  refine u0 (j5 (j5 (o9 ?_)))
  obtain rfl:=oi u
  have cG:=bN _ y
  subst cG
  exact tn ⟨g,i,h,G,wj s d [0] [1]⟩
 rintro a w ⟨n,x,o,X,s,d⟩
 refine tn (sz0 1 s y fun a s=>?_)
 refine l3 (sz0 1 s y fun a s=>?_)
 obtain ⟨ae,ax,u⟩:=bt u
 refine A7 (fun a w=>∃ K P M aj,Sl 117 [(6,sl P M ae)] a∧Wd ⟨w0,S0,[]⟩ aj [.row P ae.length M K 52 2] [j6 K ae] w) ?_ ?_
 ·refine m6 ?_
  have d:=d.nilRow Span 52
  refine u7 (fun c a w=>∃ A C l z,Sl 117 [(3,sl x o e),(6,sl C l c.1),(7,iv c.2)] a∧Wd ⟨w0,S0,[]⟩ z [.row x e.length o n 52 2,.row C c.1.length l A 52 2] [j6 n e,j6 A c.1] w) (([]:List Span),0) ax ⟨[],none,0,X,wj s d [1,0] [1,0]⟩ ?_
  clear ax
  repeat clear u
  rintro c a w a5 ⟨A,C,l,z,s,d⟩ u aX
  refine l3 (sz0 4 s y fun a s=>?_)
  refine cd s u y (fun u=>?_) fun u=>?_
  ·refine sk (l3 (m6 (sn0 2 s y fun a s=>?_)))
   obtain ⟨aA,a8,u⟩:=bt u
   refine sv s (w9 y a8) y fun a s=>nl (l3 ?_)
   obtain ⟨a6,ak,u⟩:=bt u
   refine C7 (fun a w=>∃ D,Sl 117 [(3,sl x o e),(6,sl C l c.1),(7,iv c.2),(8,iv aA),(91,.bool a6)] a∧Wd ⟨w0,S0,[]⟩ D [.row x e.length o n 52 2,.row C c.1.length l A 52 2] [j6 n e,j6 A c.1] w) ?_ ?_
   ·rcases j0 (decide (0<aA)) with E | E
    ·have F:=D7 ak E
     obtain ⟨c3,a9,F⟩:=K3 F
     obtain ⟨cP,bS,cT,be,bb,bc,bd,ba⟩:=d.elemRV (α:=Span) 0 y 0 y a9
     have aB:=s
     have aG:=d
     subst be
     have s:=aB
     have d:=aG
     obtain ⟨_,_,rfl,rfl,rfl⟩:=ba
     obtain ⟨c4,bf,F⟩:=K3 F
     obtain ⟨cQ,bU,cU,bk,bh,bi,bj,bg⟩:=d.elemRV (α:=Span) 1 y 1 y bf
     have aC:=s
     have aH:=d
     subst bk
     have s:=aC
     have d:=aH
     obtain ⟨_,_,rfl,rfl,rfl⟩:=bg
     refine h_c [0,1] [] d y y (by kernel_rfl) y fun hC d=>gn 3 [0,1,2] [] s hC y y y fun a s=>?_
     have s:=s.bT 78 y E
     refine gn 2 [3,4] [] s hC y y y fun a s=>gx s 5 y ⟨_,y,y⟩ y hC o0 u5 y y bb bc fun a s=>gt s 6 y ⟨_,y,y⟩ y hC (fun w hC=>l7 (o':=bS+0) t8 y m8 y y y) fun a s=>gt s 7 y ⟨_,y,y⟩ y hC (fun w hC=>H5 (j:=0) (hC.ownAt 0 y) y s8 bd y) fun a s=>gn 3 [8,9,10] [] s hC y y y fun a s=>gx s 11 y ⟨_,y,y⟩ y hC o0 u5 y y bh bi fun a s=>gt s 12 y ⟨_,y,y⟩ y hC (fun w hC=>l7 (o':=bU+1) t8 y m8 y y y) fun a s=>gt s 13 y ⟨_,y,y⟩ y hC (fun w hC=>H5 (j:=1) (hC.ownAt 1 y) y s8 bj y) fun a s=>gt s 14 y ⟨_,y,y⟩ y hC (fun w hC=>b2N y y) fun a s=>gT s 15 y y hC y y F fun a s=>q9 (by kernel_rfl) ?_
     exact ⟨z,wj s d [0,1] [0,1]⟩
    have bl:=E8 ak E
    refine h_c [0,1] [] d y y (by kernel_rfl) y fun hC d=>gn 3 [0,1,2] [] s hC y y y fun a s=>?_
    have s:=s.bF 78 y E
    refine gn 12 [3,4,5,6,7,8,9,10,11,12,13,14] [] s hC y y y fun a s=>gF s 15 y y hC y y bl fun a s=>q9 (by kernel_rfl) ?_
    exact ⟨z,wj s d [0,1] [0,1]⟩
   rintro a w ⟨D,s,d⟩
   refine tn (A7 (fun a w=>∃ (v:(List Span)) (L Q N S:_),a3V c v=some a5∧Sl 117 [(3,sl x o e),(6,sl Q N v),(7,iv c.2)] a∧Wd ⟨w0,S0,[]⟩ S [.row x e.length o n 52 2,.row Q v.length N L 52 2] [j6 n e,j6 L v] w) ?_ ?_)
   ·refine cd s u y (fun u=>?_) fun u=>?_
    ·obtain ⟨c5,bn,u⟩:=bt u
     obtain ⟨ab,c0,cV,bs,bp,bq,br,bo⟩:=d.elemRV (α:=Span) 1 y 1 y bn
     have aD:=s
     have aI:=d
     subst bs
     have s:=aD
     have d:=aI
     obtain ⟨_,_,rfl,rfl,rfl⟩:=bo
     obtain ⟨c6,bu,u⟩:=bt u
     obtain ⟨ar,bV,cW,bA,bw,bx,bz,bv⟩:=d.elemRV (α:=Span) 0 y 0 y bu
     have aE:=s
     have aJ:=d
     subst bA
     have s:=aE
     have d:=aJ
     obtain ⟨_,_,rfl,rfl,rfl⟩:=bv
     obtain ⟨c7,bB,u⟩:=bt u
     obtain ⟨bW,cX,bD,au,bE,bC⟩:=d.elemRK (α:=Span) 1 y 1 y bB
     obtain ⟨_,_,rfl,rfl,rfl⟩:=bC
     obtain ⟨O,av,u⟩:=bt u
     refine C7 (fun a w=>∃ T B,Sl 117 [(3,sl (ad ar) o e),(6,sl (ad ab) l O),(7,iv c.2)] a∧Wd ⟨w0,S0,[]⟩ T [.row (ad ar) e.length o n 52 2,.row (ad ab) O.length l B 52 2] [j6 n e,j6 B O] w) ?_ ?_
     ·refine h_c [0] [] d y y (by kernel_rfl) y fun hC d=>gn 6 [0,1,2,3,4,5] [] s hC y y y fun a s=>gx s 6 y j8 y hC o0 u5 y y bp bq fun a s=>gn 3 [7,9,10] [] s hC y y y fun a s=>gx s 11 y j8 y hC o0 u5 y y bw bx fun a s=>gv s 12 y y hC (fun w hC=>l7 (o':=bV+1) t8 y m8 y y y) fun a s=>gv s 13 y y hC (fun w hC=>H5 (j:=1) (hC.ownAt 0 y) y s8 bz y) fun a s=>ho 8 y ?_
      refine sv s (H5 (j:=1) (d.ownAt 1 y) y s8 br y) y fun a s=>h_n [0] [] d y y fun hC=>gv s 14 y y hC (fun w hC=>y_max y y) fun a s=>gx s 15 y j8 y hC o0 u5 y y bD au fun a s=>gv s 16 y y hC (fun w hC=>l7 (o':=bW+1) t8 y m8 y y y) fun a s=>ho 17 y ?_
      refine a6G (α:=Span) (f:=1) (m:=1) s d 1 rfl 1 rfl au rfl rfl m8 rfl rfl rfl av (fun es he=>by rw [bE] at he;subst he;exact ⟨_,_,rfl,rfl,rfl⟩) j8 ?_
      intro B a w s d
      have af:=Y8 av
      try have s:=s.fl 6 rfl af
      try have s:=s.fl 92 rfl af
      try have s:=s.fl 95 rfl af
      refine h_n [0] [] d y y fun hC=>q9 (by kernel_rfl) ?_
      exact ⟨D,B,wj s d [0,1] [1,0]⟩
     rintro a w ⟨T,B,s,d⟩
     exact tn ⟨O,B,(ad ab),l,T,u,wj s d [0,1] [0,1]⟩
    refine j9 (rn0 3 s y fun a s=>?_)
    obtain ⟨ai,bG,u⟩:=bt u
    obtain ⟨cR,c1,cY,bK,aw,bI,bJ,bH⟩:=d.elemRV (α:=Span) 0 y 0 y bG
    have aF:=s
    have aK:=d
    subst bK
    have s:=aF
    have d:=aK
    obtain ⟨_,_,rfl,rfl,rfl⟩:=bH
    refine sv s (o7 o0 u5 y y aw.1 aw.2 bI) y fun a s=>sv s (I4 (j:=0) (d.ownAt 0 y) y H3 u5 bJ y y) y fun a s=>q8 (α:=Span) (vs:=[V52 ai]) (cs:=(C52 ai)) (xs:=([ai]:List Span)) s d a3z y y y y y y ⟨⟨_,_,y,y,y⟩,y⟩ y j8 y fun cS a w s d=>?_
    obtain ⟨bQ,bL,u⟩:=bt u
    refine F6 (α:=Span) s d a3z 2 y y y 2 y 0 y 0 y bL y j8 ?_
    intro bR bP a7 a w s d
    refine rz0 1 s y fun a s=>⟨bQ,a7,bR,bP,D,u,wj s d [1,2] [2,0]⟩
   rintro a w ⟨v,L,Q,N,S,u,s,d⟩
   refine l9 (tn (j9 (rn0 2 s y fun a s=>?_)))
   obtain ⟨cZ,bm,u⟩:=bt u
   refine sv s (w9 y bm) y fun a s=>nl ⟨_,io u,L,Q,N,S,wj s d [0,1] [0,1]⟩
  refine u0 (j5 (j5 (o9 ?_)))
  obtain rfl:=oi u
  have bM:=aX _ y
  subst bM
  exact tn ⟨A,C,l,z,wj s d [1] [1]⟩
 rintro a w ⟨K,P,M,aj,s,d⟩
 refine tn (sz0 2 s y fun a s=>?_)
 obtain rfl:=oi u
 exact q1 s y (d.ret ⟨P,M,K,y,(d.outs [0] (by decide) y),(d.envAt 0 y)⟩)
end Go.Proofs.YteanekphncdhiaaGreat.Wk

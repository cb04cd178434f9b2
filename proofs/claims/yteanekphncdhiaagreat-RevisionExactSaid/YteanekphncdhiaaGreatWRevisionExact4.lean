/- The walks of RevisionExact, part 4: each Go function computes what its plain program computes. Printed by a program of ours. -/
import Derived.Test.YteanekphncdhiaaGreatProg
import Derived.Test.YteanekphncdhiaaGreatDat
import Derived.Test.YteanekphncdhiaaGreatSh
import Derived.Test.YteanekphncdhiaaGreatLa1
import Derived.Test.YteanekphncdhiaaGreatLa2
import Derived.Test.YteanekphncdhiaaGreatLibCh
import Derived.KernelRfl
import Derived.Test.YteanekphncdhiaaGreatLb1
import Derived.Shelf.SlLaysF0
import Derived.Test.YteanekphncdhiaaGreatWRevisionExact3
namespace Go.Proofs.YteanekphncdhiaaGreat.Wk
open Go Go.RowKit Go.Proofs Go.Proofs.YteanekphncdhiaaGreat.Sh Go.Proofs.Tryz
set_option linter.unusedVariables false
set_option linter.unusedSimpArgs false
set_option maxHeartbeats 4000000
set_option maxRecDepth 100000
theorem b2o {w0 S0 p2 k3 p6 k7 a1 b5 r} (u:a5W a1 b5=some r) (hS:Dm S0 w0) (h4:(Sq p2 k3 a1).p S0 w0) (h8:(Sq p6 k7 b5).p S0 w0):Ck Tryz.prog 17 #[sl p2 k3 a1,sl p6 k7 b5] w0 S0 [] A9 r:=by
 refine en 94 func17 y hS y y y fun a s d=>?_
 have d:=(d.addE h4).addE h8
 refine sz0 1 s y fun a s=>sn0 1 s y fun a s=>?_
 obtain ⟨f,h9,u⟩:=bt u
 refine cR s (a0V h9 d.dom (d.envAt 1 y)) (j3 call61 y) y ?_
 rintro cj ci w a bR ⟨bO,o,l,rfl,bS,bQ⟩ s
 have d:=(d.callN bR bS).addE (e:=j6 l f) bQ
 refine mv s y y fun a s=>?_
 obtain ⟨c,bU,u⟩:=bt u
 refine cR s (a0V bU d.dom (d.envAt 1 y)) (j3 call61 y) y ?_
 rintro ck bP w a bW ⟨D,t,m,rfl,bX,bV⟩ s
 have d:=(d.callN bW bX).addE (e:=j6 m c) bV
 refine rz0 2 s y fun a s=>sz0 1 s y fun a s=>l3 (sz0 1 s y fun a s=>?_)
 obtain ⟨ah,ay,u⟩:=bt u
 refine A7 (fun a w=>∃ J T O ai,Sl 94 [(7,sl T O ah)] a∧Wd ⟨w0,S0,[]⟩ ai [.row T ah.length O J 52 2] [j6 J ah] w) ?_ ?_
 ·refine m6 ?_
  have d:=d.nilRow Span 52
  refine u7 (fun h a w=>∃ ae ag af H,Sl 94 [(5,sl bO o f),(6,sl D t c),(7,sl ag af h.1),(8,iv h.2)] a∧Wd ⟨w0,S0,[]⟩ H [.row bO f.length o l 52 2,.row D c.length t m 52 2,.row ag h.1.length af ae 52 2] [j6 l f,j6 m c,j6 ae h.1] w) (([]:List Span),0) ay ⟨[],none,0,bP,wj s d [2,1,0] [2,1,0]⟩ ?_
  clear ay
  repeat clear u
  rintro h a w aF ⟨ae,ag,af,H,s,d⟩ u bv
  refine l3 (sz0 4 s y fun a s=>?_)
  refine cd s u y (fun u=>?_) fun u=>?_
  ·refine sk (l3 (m6 (sn0 2 s y fun a s=>?_)))
   obtain ⟨bM,aJ,u⟩:=bt u
   obtain ⟨g,bD,b0,aN,am,aL,aM,aK⟩:=d.elemRV (α:=Span) 0 y 0 y aJ
   have aA:=s
   have aC:=d
   subst aN
   have s:=aA
   have d:=aC
   obtain ⟨_,_,rfl,rfl,rfl⟩:=aK
   refine sv s (o7 o0 u5 y y am.1 am.2 aL) y fun a s=>sv s (l7 (o':=bD+0) t8 y m8 y y y) y fun a s=>sv s (H5 (j:=0) (d.ownAt 0 y) y s8 aM y) y fun a s=>rz0 1 s y fun a s=>l3 (sz0 1 s y fun a s=>?_)
   obtain ⟨i,ax,u⟩:=bt u
   refine A7 (fun a w=>∃ K U P E,Sl 94 [(5,sl (ad g) o f),(6,sl D t c),(7,sl U P i.1),(8,iv h.2),(9,iv i.2)] a∧Wd ⟨w0,S0,[]⟩ E [.row (ad g) f.length o l 52 2,.row D c.length t m 52 2,.row U i.1.length P K 52 2] [j6 l f,j6 m c,j6 K i.1] w) ?_ ?_
   ·refine m6 (u7 (fun b a w=>∃ n v q A,Sl 94 [(5,sl (ad g) o f),(6,sl D t c),(7,sl v q b.1),(8,iv h.2),(9,iv b.2.1),(10,iv b.2.2)] a∧Wd ⟨w0,S0,[]⟩ A [.row (ad g) f.length o l 52 2,.row D c.length t m 52 2,.row v b.1.length q n 52 2] [j6 l f,j6 m c,j6 n b.1] w) (h.1,bM.From,0) ax ⟨ae,ag,af,H,wj s d [0,1,2] [0,1,2]⟩ ?_)
    clear ax
    repeat clear u
    rintro b a w al ⟨n,v,q,A,s,d⟩ u aE
    refine l3 (sz0 4 s y fun a s=>?_)
    refine cd s u y (fun u=>?_) fun u=>?_
    ·refine sk (l3 (A7 (fun a w=>∃ (x:(List Span)) (C:Int) (L V Q aa:_),a4I b x C=some al∧Sl 94 [(5,sl (ad g) o f),(6,sl D t c),(7,sl V Q x),(8,iv h.2),(9,iv C),(10,iv b.2.2)] a∧Wd ⟨w0,S0,[]⟩ aa [.row (ad g) f.length o l 52 2,.row D c.length t m 52 2,.row V x.length Q L 52 2] [j6 l f,j6 m c,j6 L x] w) ?_ ?_))
     ·refine m6 (l3 (l3 ?_))
      obtain ⟨bN,aP,u⟩:=bt u
      obtain ⟨I,az,b1,aR,an,ao,ap,aQ⟩:=d.elemRV (α:=Span) 1 y 1 y aP
      have aB:=s
      have aD:=d
      subst aR
      have s:=aB
      have d:=aD
      obtain ⟨_,_,rfl,rfl,rfl⟩:=aQ
      obtain ⟨aG,ak,u⟩:=bt u
      refine C7 (fun a w=>∃ B,Sl 94 [(5,sl (ad g) o f),(6,sl (ad I) t c),(7,sl v q b.1),(8,iv h.2),(9,iv b.2.1),(10,iv b.2.2),(51,.bool aG)] a∧Wd ⟨w0,S0,[]⟩ B [.row (ad g) f.length o l 52 2,.row (ad I) c.length t m 52 2,.row v b.1.length q n 52 2] [j6 l f,j6 m c,j6 n b.1] w) ?_ ?_
      ·rcases j0 (decide (bN.To≤b.2.1)) with F | F
       ·have aS:=D7 ak F
        refine h_c [0,1,2] [] d y y (by kernel_rfl) y fun hC d=>gn 2 [0,1] [] s hC y y y fun a s=>gx s 2 y j8 y hC o0 u5 y y an ao fun a s=>gv s 3 y y hC (fun w hC=>l7 (o':=az+1) t8 y m8 y y y) fun a s=>gv s 4 y y hC (fun w hC=>H5 (j:=1) (hC.ownAt 1 y) y s8 ap y) fun a s=>gn 3 [5,6,7] [] s hC y y y fun a s=>?_
        have s:=s.bT 39 y F
        refine gn 11 [8,9,10,11,12,13,14,15,16,17,18] [] s hC y y y fun a s=>gT s 19 y y hC y y aS fun a s=>q9 (by kernel_rfl) ?_
        exact ⟨A,wj s d [0,1,2] [0,1,2]⟩
       have G:=E8 ak F
       obtain ⟨cc,aT,G⟩:=K3 G
       obtain ⟨bE,b2,aV,aW,aX,aU⟩:=d.elemRK (α:=Span) 1 y 1 y aT
       obtain ⟨_,_,rfl,rfl,rfl⟩:=aU
       obtain ⟨ce,aY,G⟩:=K3 G
       obtain ⟨bG,b3,a0,a2,a3,aZ⟩:=d.elemRK (α:=Span) 0 y 0 y aY
       obtain ⟨_,_,rfl,rfl,rfl⟩:=aZ
       refine h_c [0,1,2] [] d y y (by kernel_rfl) y fun hC d=>gn 2 [0,1] [] s hC y y y fun a s=>gx s 2 y j8 y hC o0 u5 y y an ao fun a s=>gv s 3 y y hC (fun w hC=>l7 (o':=az+1) t8 y m8 y y y) fun a s=>gv s 4 y y hC (fun w hC=>H5 (j:=1) (hC.ownAt 1 y) y s8 ap y) fun a s=>gn 3 [5,6,7] [] s hC y y y fun a s=>?_
       have s:=s.bF 39 y F
       refine gn 2 [8,9] [] s hC y y y fun a s=>gx s 10 y ⟨_,y,y⟩ y hC o0 u5 y y aV aW fun a s=>gt s 11 y ⟨_,y,y⟩ y hC (fun w hC=>l7 (o':=bE+0) t8 y m8 y y y) fun a s=>gt s 12 y ⟨_,y,y⟩ y hC (fun w hC=>H5 (j:=0) (hC.ownAt 1 y) y s8 aX y) fun a s=>gn 2 [13,14] [] s hC y y y fun a s=>gx s 15 y ⟨_,y,y⟩ y hC o0 u5 y y a0 a2 fun a s=>gt s 16 y ⟨_,y,y⟩ y hC (fun w hC=>l7 (o':=bG+1) t8 y m8 y y y) fun a s=>gt s 17 y ⟨_,y,y⟩ y hC (fun w hC=>H5 (j:=1) (hC.ownAt 0 y) y s8 a3 y) fun a s=>gt s 18 y ⟨_,y,y⟩ y hC (fun w hC=>a9C y y) fun a s=>gF s 19 y y hC y y G fun a s=>q9 (by kernel_rfl) ?_
       exact ⟨A,wj s d [0,1,2] [0,1,2]⟩
      rintro a w ⟨B,s,d⟩
      refine tn (cd s u y (fun u=>?_) fun u=>?_)
      ·exact u0 (j5 (o9 (tn ⟨b.1,b.2.1,n,v,q,B,u,wj s d [0,1,2] [0,1,2]⟩)))
      refine sk (l3 (sn0 2 s y fun a s=>?_))
      obtain ⟨cf,a4,u⟩:=bt u
      obtain ⟨bH,b4,aq,a6,a7,a5⟩:=d.elemRK (α:=Span) 1 y 1 y a4
      obtain ⟨_,_,rfl,rfl,rfl⟩:=a5
      refine sv s (o7 o0 u5 y y aq.1 aq.2 a6) y fun a s=>sv s (l7 (o':=bH+0) t8 y m8 y y y) y fun a s=>sv s (H5 (j:=0) (d.ownAt 1 y) y s8 a7 y) y fun a s=>rz0 2 s y fun a s=>A7 (fun a w=>∃ (k:(List Span)) (M W R ab:_),a4J c b k=some al∧Sl 94 [(5,sl (ad g) o f),(6,sl (ad I) t c),(7,sl W R k),(8,iv h.2),(9,iv b.2.1),(10,iv b.2.2)] a∧Wd ⟨w0,S0,[]⟩ ab [.row (ad g) f.length o l 52 2,.row (ad I) c.length t m 52 2,.row W k.length R M 52 2] [j6 l f,j6 m c,j6 M k] w) ?_ ?_
      ·refine cd s u y (fun u=>?_) fun u=>?_
       ·refine j9 (rn0 4 s y fun a s=>?_)
        obtain ⟨Y,bd,u⟩:=bt u
        obtain ⟨bJ,b7,au,bf,bg,be⟩:=d.elemRK (α:=Span) 1 y 1 y bd
        obtain ⟨_,_,rfl,rfl,rfl⟩:=be
        refine sv s (o7 o0 u5 y y au.1 au.2 bf) y fun a s=>sv s (l7 (o':=bJ+0) t8 y m8 y y y) y fun a s=>sv s (H5 (j:=0) (d.ownAt 1 y) y s8 bg y) y fun a s=>sv s (A8 (vs:=[(0,iv b.2.1),(1,iv Y.From)]) a7i y y) y fun a s=>q8 (α:=Span) (vs:=[.agg #[iv b.2.1,iv Y.From]]) (cs:=[iv b.2.1,iv Y.From]) (xs:=([(⟨b.2.1,Y.From⟩:Span)]:List Span)) s d a3z y y y y y y ⟨⟨_,_,y,y,y⟩,y⟩ y j8 y fun bY a w s d=>?_
        obtain ⟨bz,bh,u⟩:=bt u
        refine F6 (α:=Span) s d a3z 3 y y y 3 y 0 y 0 y bh y j8 ?_
        intro bB bw aH a w s d
        refine rz0 1 s y fun a s=>⟨bz,aH,bB,bw,B,u,wj s d [1,2,3] [2,3,0]⟩
       exact sk ⟨b.1,n,v,q,B,u,wj s d [0,1,2] [0,1,2]⟩
      rintro a w ⟨k,M,W,R,ab,u,s,d⟩
      refine tn (j9 (rn0 3 s y fun a s=>?_))
      obtain ⟨cg,a8,u⟩:=bt u
      obtain ⟨bI,b6,ar,ba,bb,a9⟩:=d.elemRK (α:=Span) 1 y 1 y a8
      obtain ⟨_,_,rfl,rfl,rfl⟩:=a9
      refine sv s (o7 o0 u5 y y ar.1 ar.2 ba) y fun a s=>sv s (l7 (o':=bI+1) t8 y m8 y y y) y fun a s=>sv s (H5 (j:=1) (d.ownAt 1 y) y s8 bb y) y fun a s=>sv s (y_max y y) y fun a s=>?_
      obtain ⟨aj,bc,u⟩:=bt u
      refine sv s (w9 y bc) y fun a s=>l4 ?_
      exact l9 (tn ⟨k,aj,M,W,R,ab,u,wj s d [0,1,2] [0,1,2]⟩)
     rintro a w ⟨x,C,L,V,Q,aa,u,s,d⟩
     refine tn (j9 (rn0 2 s y fun a s=>?_))
     obtain ⟨cb,aO,u⟩:=bt u
     refine sv s (w9 y aO) y fun a s=>nl ⟨_,io u,L,V,Q,aa,wj s d [0,1,2] [0,1,2]⟩
    refine u0 (j5 (j5 (o9 ?_)))
    obtain rfl:=oi u
    have bi:=aE _ y
    subst bi
    exact tn ⟨n,v,q,A,wj s d [0,1,2] [0,1,2]⟩
   rintro a w ⟨K,U,P,E,s,d⟩
   refine tn (sn0 3 s y fun a s=>?_)
   obtain ⟨ch,bj,u⟩:=bt u
   obtain ⟨bK,b8,av,bl,bm,bk⟩:=d.elemRK (α:=Span) 0 y 0 y bj
   obtain ⟨_,_,rfl,rfl,rfl⟩:=bk
   refine sv s (o7 o0 u5 y y av.1 av.2 bl) y fun a s=>sv s (l7 (o':=bK+1) t8 y m8 y y y) y fun a s=>sv s (H5 (j:=1) (d.ownAt 0 y) y s8 bm y) y fun a s=>rz0 1 s y fun a s=>A7 (fun a w=>∃ (z:(List Span)) (N X S ac:_),a4K h z=some aF∧Sl 94 [(5,sl (ad g) o f),(6,sl D t c),(7,sl X S z),(8,iv h.2)] a∧Wd ⟨w0,S0,[]⟩ ac [.row (ad g) f.length o l 52 2,.row D c.length t m 52 2,.row X z.length S N 52 2] [j6 l f,j6 m c,j6 N z] w) ?_ ?_
   ·refine cd s u y (fun u=>?_) fun u=>?_
    ·refine j9 (rn0 4 s y fun a s=>?_)
     obtain ⟨Z,bo,u⟩:=bt u
     obtain ⟨bL,b9,aw,bq,br,bp⟩:=d.elemRK (α:=Span) 0 y 0 y bo
     obtain ⟨_,_,rfl,rfl,rfl⟩:=bp
     refine sv s (o7 o0 u5 y y aw.1 aw.2 bq) y fun a s=>sv s (l7 (o':=bL+1) t8 y m8 y y y) y fun a s=>sv s (H5 (j:=1) (d.ownAt 0 y) y s8 br y) y fun a s=>sv s (A8 (vs:=[(0,iv i.2),(1,iv Z.To)]) a7i y y) y fun a s=>q8 (α:=Span) (vs:=[.agg #[iv i.2,iv Z.To]]) (cs:=[iv i.2,iv Z.To]) (xs:=([(⟨i.2,Z.To⟩:Span)]:List Span)) s d a3z y y y y y y ⟨⟨_,_,y,y,y⟩,y⟩ y j8 y fun bZ a w s d=>?_
     obtain ⟨bA,bs,u⟩:=bt u
     refine F6 (α:=Span) s d a3z 3 y y y 3 y 0 y 0 y bs y j8 ?_
     intro bC bx aI a w s d
     refine rz0 1 s y fun a s=>⟨bA,aI,bC,bx,E,u,wj s d [1,2,3] [2,3,0]⟩
    exact sk ⟨i.1,K,U,P,E,u,wj s d [0,1,2] [0,1,2]⟩
   rintro a w ⟨z,N,X,S,ac,u,s,d⟩
   refine l9 (tn (j9 (rn0 2 s y fun a s=>?_)))
   obtain ⟨ca,bn,u⟩:=bt u
   refine sv s (w9 y bn) y fun a s=>nl ⟨_,io u,N,X,S,ac,wj s d [0,1,2] [0,1,2]⟩
  refine u0 (j5 (j5 (o9 ?_)))
  obtain rfl:=oi u
  have bu:=bv _ y
  subst bu
  exact tn ⟨ae,ag,af,H,wj s d [2] [2]⟩
 rintro a w ⟨J,T,O,ai,s,d⟩
 refine tn (sz0 2 s y fun a s=>?_)
 obtain rfl:=oi u
 exact q1 s y (d.ret ⟨T,O,J,y,(d.outs [0] (by decide) y),(d.envAt 0 y)⟩)
abbrev b1C (a:Epoch) (b:Epoch):List Span:=([(⟨a.From,b.To⟩:Span)]:List Span)
theorem a8d {w0 S0 p2 k3 p6 k7 a1 b5 r} (u:a1Z a1 b5=some r) (hS:Dm S0 w0) (h4:(Sq p2 k3 a1.Epochs).p S0 w0) (h8:(Sq p6 k7 b5.Epochs).p S0 w0):Ck Tryz.prog 78 #[V73 a1 p2 k3,V73 b5 p6 k7] w0 S0 [] A9 r:=by
 refine en 68 func78 y hS y y y fun a s d=>?_
 have d:=(d.addE h4).addE h8
 refine sr (wb (C73 a1 p2 k3) s d y fun b9 a w s d=>?_)
 refine wb (C73 b5 p6 k7) s d y fun n a w s d=>rz0 1 s y fun a s=>sz0 1 s y fun a s=>l3 (sz0 1 s y fun a s=>?_)
 obtain ⟨Y,ai,u⟩:=bt u
 refine A7 (fun a w=>∃ S X V Z,Sl 68 [(5,sl X V Y)] a∧Wd ⟨w0,S0,[]⟩ Z [.row X Y.length V S 52 2] [j6 S Y] w) ?_ ?_
 ·refine m6 ?_
  have d:=d.nilRow Span 52
  refine u7 (fun b a w=>∃ h k i I,Sl 68 [(2,pt b9),(3,pt n),(5,sl k i b.1),(6,iv b.2)] a∧Wd ⟨w0,S0,[]⟩ I [.box b9 (C73 a1 p2 k3) 73,.box n (C73 b5 p6 k7) 73,.row k b.1.length i h 52 2] [Sq p2 k3 a1.Epochs,Sq p6 k7 b5.Epochs,j6 h b.1] w) (([]:List Span),0) ai ⟨[],none,0,S0,wj s d [2,1,0] [2,1,0]⟩ ?_
  clear ai
  repeat clear u
  rintro b a w bU ⟨h,k,i,I,s,d⟩ u bc
  refine l3 (sz 5 [0] s d y y fun a s=>?_)
  refine cd s u y (fun u=>?_) fun u=>?_
  ·refine sk (l3 (m6 (l3 ?_)))
   obtain ⟨f,au,u⟩:=bt u
   obtain ⟨l,m,br,bC,aA,ax,ay,az,aw⟩:=d.elemV 0 y au
   have aj:=s
   have al:=d
   subst aA
   have s:=aj
   have d:=al
   obtain ⟨_,_,_,_,_,_,_,_,rfl,rfl,rfl,rfl,rfl,rfl,rfl,rfl,⟨bk,bM,bd,rfl,aa⟩⟩:=aw
   obtain rfl:=aa.1
   have d:=(d.addE (e:=SlA bk _ bd f.Response.Stages) aa).addE az
   obtain ⟨g,aB,u⟩:=bt u
   obtain ⟨bs,bD,aD,aE,aF,aC⟩:=d.elemK 2 y aB
   obtain ⟨_,_,_,_,_,_,_,_,rfl,rfl,rfl,rfl,rfl,rfl,rfl,rfl,⟨bl,bN,be,rfl,ab⟩⟩:=aC
   obtain rfl:=ab.1
   have d:=(d.addE (e:=SlA bl _ be g.Response.Stages) ab).addE aF
   refine C7 (fun a w=>∃ M A,Sl 68 [(2,pt b9),(3,pt n),(5,sl k i b.1),(6,iv b.2),(7,sl (ad A) (b1C f g).length (b1C f g))] a∧Wd ⟨w0,S0,[]⟩ M [.box b9 (C73 a1 (some ⟨l,m,none⟩) k3) 73,.box n (C73 b5 p6 k7) 73,.row k b.1.length i h 52 2,.row (ad A) (b1C f g).length (b1C f g).length [iv f.From,iv g.To] 52 2] [Sq (some ⟨l,m,none⟩) k3 a1.Epochs,Sq p6 k7 b5.Epochs,j6 h b.1,j6 [iv f.From,iv g.To] (b1C f g)] w) ?_ ?_
   ·refine h_c [0,1,2] [0,2] d y y (by kernel_rfl) y fun hC d=>gn 3 [0,1,2] [0] s hC y y y fun a s=>gx s 3 y j8 y hC o4 t6 y y ax ay fun a s=>gv s 4 y y hC (fun w hC=>l7 (o':=br+0) B7 y m8 y y y) fun a s=>gv s 5 y y hC (fun w hC=>F5 (j:=0) (hC.ceAt 1 y) y s8 y) fun a s=>gn 3 [6,7,8] [0] s hC y y y fun a s=>gx s 9 y j8 y hC o4 t6 y y aD aE fun a s=>gv s 10 y y hC (fun w hC=>l7 (o':=bs+1) B7 y m8 y y y) fun a s=>gv s 11 y y hC (fun w hC=>F5 (j:=1) (hC.ceAt 0 y) y s8 y) fun a s=>gv s 12 y y hC (fun w hC=>A8 (vs:=[(0,iv f.From),(1,iv g.To)]) a7i y y) fun a s=>ho 13 y ?_
    refine q8 (α:=Span) (vs:=[.agg #[iv f.From,iv g.To]]) (cs:=[iv f.From,iv g.To]) (xs:=(b1C f g)) s d a3z y y y y y y ⟨⟨_,_,y,y,y⟩,y⟩ y j8 y fun A a w s d=>h_n [1,2,3] [1,3] d y y fun hC=>h_d [1,2,3,0] [1,3] [0,1,2] [0,1] d y y y y fun hC=>gv s 14 y y hC (fun w hC=>J6 y) fun a s=>q9 (by kernel_rfl) ?_
    exact ⟨I,A,wj s d [1,2,3,0] [5,6,7,0]⟩
   rintro a w ⟨M,A,s,d⟩
   refine tn (l3 (sz0 1 s y fun a s=>?_))
   obtain ⟨T,ah,u⟩:=bt u
   refine A7 (fun a w=>∃ R W U N,Sl 68 [(2,pt b9),(3,pt n),(5,sl k i b.1),(6,iv b.2),(7,sl W U T)] a∧Wd ⟨w0,S0,[]⟩ N [.box b9 (C73 a1 (some ⟨l,m,none⟩) k3) 73,.box n (C73 b5 p6 k7) 73,.row k b.1.length i h 52 2,.row W T.length U R 52 2] [Sq (some ⟨l,m,none⟩) k3 a1.Epochs,Sq p6 k7 b5.Epochs,j6 h b.1,j6 R T] w) ?_ ?_
   ·refine m6 (u7 (fun c a w=>∃ q x v F,Sl 68 [(2,pt b9),(3,pt n),(5,sl k i b.1),(6,iv b.2),(7,sl x v c.1),(8,iv c.2)] a∧Wd ⟨w0,S0,[]⟩ F [.box b9 (C73 a1 (some ⟨l,m,none⟩) k3) 73,.box n (C73 b5 p6 k7) 73,.row k b.1.length i h 52 2,.row x c.1.length v q 52 2] [Sq (some ⟨l,m,none⟩) k3 a1.Epochs,Sq p6 k7 b5.Epochs,j6 h b.1,j6 q c.1] w) ((b1C f g),0) ah ⟨[iv f.From,iv g.To],(ad A),(b1C f g).length,M,wj s d [0,1,2,3] [0,1,2,3]⟩ ?_)
    clear ah
    repeat clear u
    rintro c a w aq ⟨q,x,v,F,s,d⟩ u ao
    refine l3 (sz 5 [1] s d y y fun a s=>?_)
    refine cd s u y (fun u=>?_) fun u=>?_
    ·refine sk (l3 (m6 (l3 ?_)))
     obtain ⟨bw,aG,u⟩:=bt u
     obtain ⟨bS,bF,aI,aJ,aK,aH⟩:=d.elemK 0 y aG
     obtain ⟨_,_,_,_,_,_,_,_,rfl,rfl,rfl,rfl,rfl,rfl,rfl,rfl,⟨bm,bO,bf,rfl,ac⟩⟩:=aH
     obtain rfl:=ac.1
     have d:=(d.addE (e:=SlA bm _ bf bw.Response.Stages) ac).addE aK
     obtain ⟨bx,aL,u⟩:=bt u
     obtain ⟨B,D,bT,bG,aQ,aN,aO,aP,aM⟩:=d.elemV 3 y aL
     have ak:=s
     have am:=d
     subst aQ
     have s:=ak
     have d:=am
     obtain ⟨_,_,_,_,_,_,_,_,rfl,rfl,rfl,rfl,rfl,rfl,rfl,rfl,⟨bn,bP,bg,rfl,ae⟩⟩:=aM
     obtain rfl:=ae.1
     have d:=(d.addE (e:=SlA bn _ bg bx.Response.Stages) ae).addE aP
     obtain ⟨ap,aR,u⟩:=bt u
     refine C7 (fun a w=>∃ O,Sl 68 [(2,pt b9),(3,pt n),(5,sl k i b.1),(6,iv b.2),(7,sl x v c.1),(8,iv c.2),(47,.bool ap)] a∧Wd ⟨w0,S0,[]⟩ O [.box b9 (C73 a1 (some ⟨l,m,none⟩) k3) 73,.box n (C73 b5 (some ⟨B,D,none⟩) k7) 73,.row k b.1.length i h 52 2,.row x c.1.length v q 52 2] [Sq (some ⟨l,m,none⟩) k3 a1.Epochs,Sq (some ⟨B,D,none⟩) k7 b5.Epochs,j6 h b.1,j6 q c.1] w) ?_ ?_
     ·refine h_c [0,1,2,3] [0,2] d y y (by kernel_rfl) y fun hC d=>gn 3 [0,1,2] [0] s hC y y y fun a s=>gx s 3 y j8 y hC o4 t6 y y aI aJ fun a s=>gv s 4 y y hC (fun w hC=>D5 (j:=0) (hC.ceAt 1 y) y E3 t6 y y) fun a s=>gn 3 [5,6,7] [1] s hC y y y fun a s=>gx s 8 y j8 y hC o4 t6 y y aN aO fun a s=>gv s 9 y y hC (fun w hC=>D5 (j:=0) (hC.ceAt 0 y) y E3 t6 y y) fun a s=>ho 10 y ?_
      refine cV s d (b3b aR d.bdom (d.bE 3 y) (d.bE 1 y)) (j3 call118 y) y fun a w s d=>h_n [0,1,2,3] [0,2] d y y fun hC=>q9 (by kernel_rfl) ?_
      exact ⟨F,wj s d [0,1,2,3] [4,5,6,7]⟩
     rintro a w ⟨O,s,d⟩
     refine tn (A7 (fun a w=>∃ (o:(List Span)) (J L K P:_),a4a c o=some aq∧Sl 68 [(2,pt b9),(3,pt n),(5,sl k i b.1),(6,iv b.2),(7,sl L K o),(8,iv c.2)] a∧Wd ⟨w0,S0,[]⟩ P [.box b9 (C73 a1 (some ⟨l,m,none⟩) k3) 73,.box n (C73 b5 (some ⟨B,D,none⟩) k7) 73,.row k b.1.length i h 52 2,.row L o.length K J 52 2] [Sq (some ⟨l,m,none⟩) k3 a1.Epochs,Sq (some ⟨B,D,none⟩) k7 b5.Epochs,j6 h b.1,j6 J o] w) ?_ ?_)
     ·refine cd s u y (fun u=>?_) fun u=>?_
      ·obtain ⟨G,aT,u⟩:=bt u
       obtain ⟨bu,bH,aV,aW,aX,aU⟩:=d.elemK 1 y aT
       obtain ⟨_,_,_,_,_,_,_,_,rfl,rfl,rfl,rfl,rfl,rfl,rfl,rfl,⟨bo,bQ,bh,rfl,af⟩⟩:=aU
       obtain rfl:=af.1
       have d:=(d.addE (e:=SlA bo _ bh G.Response.Stages) af).addE aX
       obtain ⟨H,aY,u⟩:=bt u
       obtain ⟨bv,bI,a0,a2,a3,aZ⟩:=d.elemK 3 y aY
       obtain ⟨_,_,_,_,_,_,_,_,rfl,rfl,rfl,rfl,rfl,rfl,rfl,rfl,⟨bp,bR,bi,rfl,ag⟩⟩:=aZ
       obtain rfl:=ag.1
       have d:=(d.addE (e:=SlA bp _ bi H.Response.Stages) ag).addE a3
       obtain ⟨z,a4,u⟩:=bt u
       refine C7 (fun a w=>∃ Q t C E,Sl 68 [(2,pt b9),(3,pt n),(5,sl k i b.1),(6,iv b.2),(7,sl E C z),(8,iv c.2)] a∧Wd ⟨w0,S0,[]⟩ Q [.box b9 (C73 a1 (some ⟨l,m,none⟩) k3) 73,.box n (C73 b5 (some ⟨B,D,none⟩) k7) 73,.row k b.1.length i h 52 2,.row E z.length C t 52 2] [Sq (some ⟨l,m,none⟩) k3 a1.Epochs,Sq (some ⟨B,D,none⟩) k7 b5.Epochs,j6 h b.1,j6 t z] w) ?_ ?_
       ·refine h_c [0,1,2] [0,2] d y y (by kernel_rfl) y fun hC d=>gn 4 [0,1,2,3] [1] s hC y y y fun a s=>gx s 4 y j8 y hC o4 t6 y y aV aW fun a s=>gv s 5 y y hC (fun w hC=>l7 (o':=bu+0) B7 y m8 y y y) fun a s=>gv s 6 y y hC (fun w hC=>F5 (j:=0) (hC.ceAt 1 y) y s8 y) fun a s=>gn 3 [7,8,9] [1] s hC y y y fun a s=>gx s 10 y j8 y hC o4 t6 y y a0 a2 fun a s=>gv s 11 y y hC (fun w hC=>l7 (o':=bv+1) B7 y m8 y y y) fun a s=>gv s 12 y y hC (fun w hC=>F5 (j:=1) (hC.ceAt 0 y) y s8 y) fun a s=>gv s 13 y y hC (fun w hC=>A8 (vs:=[(0,iv G.From),(1,iv H.To)]) a7i y y) fun a s=>ho 14 y ?_
        refine q8 (α:=Span) (vs:=[.agg #[iv G.From,iv H.To]]) (cs:=[iv G.From,iv H.To]) (xs:=([(⟨G.From,H.To⟩:Span)]:List Span)) s d a3z y y y y y y ⟨⟨_,_,y,y,y⟩,y⟩ y j8 y fun bB a w s d=>h_n [1,2,3] [1,3] d y y fun hC=>ho 15 y ?_
        obtain ⟨bz,d⟩:=C8 (α:=Span) d 4 y 8 y
        obtain ⟨bA,d⟩:=C8 (α:=Span) d 0 y 1 y
        refine cR s (b2o a4 d.dom (d.envAt 1 y) (d.envAt 0 y)) (j3 call17 y) y ?_
        rintro bV an w a a6 ⟨E,C,t,rfl,a7,a5⟩ s
        have d:=(d.callN a6 a7).addE (e:=j6 t z) a5
        refine h_n [1,2,3] [4,6] d y y fun hC=>h_d [1,2,3,0] [4,6] [0,1,2] [0,1] d y y y y fun hC=>gv s 16 y y hC (fun w hC=>J6 y) fun a s=>q9 (by kernel_rfl) ?_
        exact ⟨an,t,C,E,wj s d [1,2,3,0] [8,9,10,0]⟩
       rintro a w ⟨Q,t,C,E,s,d⟩
       exact tn ⟨z,t,E,C,Q,u,wj s d [0,1,2,3] [0,1,2,3]⟩
      exact sk ⟨c.1,q,x,v,O,u,wj s d [0,1,2,3] [0,1,2,3]⟩
     rintro a w ⟨o,J,L,K,P,u,s,d⟩
     refine l9 (tn (j9 (rn0 2 s y fun a s=>?_)))
     obtain ⟨bK,aS,u⟩:=bt u
     refine sv s (w9 y aS) y fun a s=>nl ⟨_,io u,J,L,K,P,wj s d [0,1,2,3] [0,1,2,3]⟩
    refine u0 (j5 (j5 (o9 ?_)))
    obtain rfl:=oi u
    have a8:=ao _ y
    subst a8
    exact tn ⟨q,x,v,F,wj s d [0,1,2,3] [0,1,2,3]⟩
   rintro a w ⟨R,W,U,N,s,d⟩
   refine tn (j9 (rn0 2 s y fun a s=>?_))
   obtain ⟨bL,a9,u⟩:=bt u
   refine F6 (α:=Span) s d a3z 2 y y y 2 y 3 y 3 y a9 y j8 ?_
   intro bq bj ar a w s d
   refine av s y y fun a s=>l4 ?_
   refine l9 (tn (j9 (rn0 2 s y fun a s=>?_)))
   obtain ⟨bJ,ba,u⟩:=bt u
   refine sv s (w9 y ba) y fun a s=>nl ⟨_,io u,ar,bq,bj,N,wj s d [0,1,2] [1,2,0]⟩
  refine u0 (j5 (j5 (o9 ?_)))
  obtain rfl:=oi u
  have bb:=bc _ y
  subst bb
  exact tn ⟨h,k,i,I,wj s d [2] [2]⟩
 rintro a w ⟨S,X,V,Z,s,d⟩
 refine tn (sz0 2 s y fun a s=>?_)
 obtain rfl:=oi u
 exact q1 s y (d.ret ⟨X,V,S,y,(d.outs [0] (by decide) y),(d.envAt 0 y)⟩)
theorem b2p {w0 S0 p2 k3 p6 k7 a1 b5 r} (u:a5X a1 b5=some r) (hS:Dm S0 w0) (h4:(Sq p2 k3 a1).p S0 w0) (h8:(Sq p6 k7 b5).p S0 w0):Ck Tryz.prog 29 #[sl p2 k3 a1,sl p6 k7 b5] w0 S0 [] A9 r:=by
 refine en 10 func29 y hS y y y fun a s d=>?_
 have d:=(d.addE h4).addE h8
 refine sz0 1 s y fun a s=>sn0 1 s y fun a s=>?_
 obtain ⟨l10,h9,u⟩:=bt u
 have d:=d.nilRow Span 52
 refine R4 (α:=Span) s d a3z 0 y y y 0 y 2 y h9 y j8 ?_
 intro z t o a w s d
 refine mv s y y fun a s=>?_
 obtain ⟨x,f,u⟩:=bt u
 refine R4 (α:=Span) s d a3z 0 y y y 0 y 2 y f y j8 ?_
 intro A v q a w s d
 obtain ⟨c,g,u⟩:=bt u
 obtain ⟨m,d⟩:=C8 (α:=Span) d 0 y 0 y
 refine cR s (a0V g d.dom (d.envAt 0 y)) (j3 call61 y) y ?_
 rintro B n w a i ⟨l,k,b,rfl,j,h⟩ s
 have d:=(d.callN i j).addE (e:=j6 b c) h
 refine rz0 1 s y fun a s=>?_
 obtain rfl:=oi u
 exact q1 s y (d.ret ⟨l,k,b,y,(d.outs [0] (by decide) y),(d.envAt 0 y)⟩)
theorem a4O {w0 S0 p2 k3 p6 k7 a1 b5 r} (u:a1G a1 b5=some r) (hS:Dm S0 w0) (h4:(Sq p2 k3 a1.Channels).p S0 w0) (h8:(Sq p6 k7 b5.Channels).p S0 w0):Ck Tryz.prog 36 #[.agg #[sl p2 k3 a1.Channels],.agg #[sl p6 k7 b5.Channels]] w0 S0 [] a5Y r:=by
 refine en 101 func36 y hS y y y fun a s d=>?_
 have d:=(d.addE h4).addE h8
 refine sr (wb [sl p2 k3 a1.Channels] s d y fun b9 a w s d=>?_)
 refine wb [sl p6 k7 b5.Channels] s d y fun f a w s d=>rz0 1 s y fun a s=>l3 (sn 1 [1] s d y y fun a s=>?_)
 obtain ⟨cm,co,u⟩:=bt u
 refine cV s d (a4N co d.bdom (d.bE 1 y)) (j3 call18 y) y fun a w s d=>rn0 2 s y fun a s=>?_
 obtain ⟨cn,aI,u⟩:=bt u
 refine y7 4 (fun a w=>∃ ai,Sl 101 [(2,pt b9),(3,pt f),(22,.bool cn)] a∧Wd ⟨w0,S0,[]⟩ ai [.box b9 [sl p2 k3 a1.Channels] 29,.box f [sl p6 k7 b5.Channels] 29] [Sq p2 k3 a1.Channels,Sq p6 k7 b5.Channels] w) ?_ ?_
 ·rcases j0 (!cm) with ah | ah
  ·have s:=s.bT 18 y ah
   have u:=D7 aI ah
   refine rn0 4 s y fun a s=>l4 ?_
   obtain rfl:=oi u
   exact tn ⟨S0,wj s d [1,0] [1,0]⟩
  have s:=s.bF 18 y ah
  have u:=E8 aI ah
  refine D6 s (Y0 (d.ownAt 0 y) y D4 s9 y y) ⟨_,y,y⟩ y y fun a s=>?_
  obtain ⟨c0,cp,u⟩:=bt u
  refine x9 s (a4N cp d.bdom (d.bE 0 y)) (j3 call18 y) ⟨_,y,y⟩ y y ?_
  rintro db cz w a cq rfl s
  have d:=d.callB cq
  refine rn0 2 s y fun a s=>l4 ?_
  obtain rfl:=oi u
  exact tn ⟨S0,wj s d [1,0] [1,0]⟩
 rintro a w ⟨ai,s,d⟩
 refine nl (cd s u y (fun u=>?_) fun u=>?_)
 ·refine sz0 1 s y fun a s=>?_
  obtain rfl:=oi u
  have d:=d.nilRow Affected 56
  exact t7 (j4 (rt s y (d.ret ⟨none,0,[],y,(d.outs [0] (by decide) y),(d.envAt 0 y)⟩)))
 refine sk (sz0 1 s y fun a s=>?_)
 refine l3 (sz0 1 s y fun a s=>?_)
 obtain ⟨T,aH,u⟩:=bt u
 refine A7 (fun a w=>∃ P aa V L,Sl 101 [(2,pt b9),(3,pt f),(5,sl aa V T)] a∧Wd ⟨w0,S0,[]⟩ L [.box b9 [sl p2 k3 a1.Channels] 29,.box f [sl p6 k7 b5.Channels] 29,.row aa T.length V P 32 4] [Sq p2 k3 a1.Channels,Sq p6 k7 b5.Channels,j6 P T] w) ?_ ?_
 ·refine m6 ?_
  have d:=d.nilRow SourceID 32
  refine u7 (fun K a w=>∃ ax Z U I,Sl 101 [(2,pt b9),(3,pt f),(5,sl Z U K.1),(6,iv K.2)] a∧Wd ⟨w0,S0,[]⟩ I [.box b9 [sl p2 k3 a1.Channels] 29,.box f [sl p6 k7 b5.Channels] 29,.row Z K.1.length U ax 32 4] [Sq p2 k3 a1.Channels,Sq p6 k7 b5.Channels,j6 ax K.1] w) (([]:List SourceID),0) aH ⟨[],none,0,ai,wj s d [1,2,0] [1,2,0]⟩ ?_
  clear aH
  repeat clear u
  rintro K a w cx ⟨ax,Z,U,I,s,d⟩ u aX
  refine l3 (sz 5 [0] s d y y fun a s=>?_)
  refine cd s u y (fun u=>?_) fun u=>?_
  ·refine sk (l3 (m6 (j9 (rn 4 [0] s d y y fun a s=>?_))))
   obtain ⟨af,a9,u⟩:=bt u
   obtain ⟨cA,cS,ck,cF,bd,ay,bb,bc,ba⟩:=d.elemV 0 y a9
   have aJ:=s
   have aM:=d
   subst bd
   have s:=aJ
   have d:=aM
   obtain ⟨_,_,_,_,_,rfl,rfl,rfl,rfl,rfl,⟨cf,n178,b7,rfl,az⟩⟩:=ba
   obtain rfl:=az.1
   have d:=(d.addE (e:=SlA cf _ b7 af.Epochs) az).addE bc
   refine sv s (o7 m5 o3 y y ay.1 ay.2 bb) y fun a s=>sv s (l7 (o':=ck+0) u9 y s6 y y y) y fun a s=>sv s (D5 (j:=0) (d.ceAt 0 y) y B9 s6 y y) y fun a s=>q8 (α:=SourceID) (vs:=[V32 af.Source]) (cs:=(C32 af.Source)) (xs:=([af.Source]:List SourceID)) s d b1X y y y y y y ⟨⟨_,_,_,_,y,y,y,y,y⟩,y⟩ y j8 y fun cB a w s d=>?_
   obtain ⟨cP,be,u⟩:=bt u
   refine F6 (α:=SourceID) s d b1X 3 y y y 5 y 0 y 0 y be y j8 ?_
   intro cg b8 a4 a w s d
   refine av s y y fun a s=>l4 ?_
   refine l9 (tn (j9 (rn0 2 s y fun a s=>?_)))
   obtain ⟨cK,bf,u⟩:=bt u
   refine sv s (w9 y bf) y fun a s=>nl ⟨_,io u,a4,cg,b8,I,wj s d [1,2,3] [4,5,0]⟩
  refine u0 (j5 (j5 (o9 ?_)))
  obtain rfl:=oi u
  have bg:=aX _ y
  subst bg
  exact tn ⟨ax,Z,U,I,wj s d [0,1,2] [0,1,2]⟩
 rintro a w ⟨P,aa,V,L,s,d⟩
 refine tn (l3 (sz0 1 s y fun a s=>?_))
 obtain ⟨ak,aG,u⟩:=bt u
 refine A7 (fun a w=>∃ aj ap ao aq,Sl 101 [(2,pt b9),(3,pt f),(5,sl ap ao ak)] a∧Wd ⟨w0,S0,[]⟩ aq [.box b9 [sl p2 k3 a1.Channels] 29,.box f [sl p6 k7 b5.Channels] 29,.row ap ak.length ao aj 32 4] [Sq p2 k3 a1.Channels,Sq p6 k7 b5.Channels,j6 aj ak] w) ?_ ?_
 ·refine m6 (u7 (fun G a w=>∃ Q ab W J,Sl 101 [(2,pt b9),(3,pt f),(5,sl ab W G.1),(7,iv G.2)] a∧Wd ⟨w0,S0,[]⟩ J [.box b9 [sl p2 k3 a1.Channels] 29,.box f [sl p6 k7 b5.Channels] 29,.row ab G.1.length W Q 32 4] [Sq p2 k3 a1.Channels,Sq p6 k7 b5.Channels,j6 Q G.1] w) (T,0) aG ⟨P,aa,V,L,wj s d [0,1,2] [0,1,2]⟩ ?_)
  clear aG
  repeat clear u
  rintro G a w cy ⟨Q,ab,W,J,s,d⟩ u aY
  refine l3 (sz 5 [1] s d y y fun a s=>?_)
  refine cd s u y (fun u=>?_) fun u=>?_
  ·refine sk (l3 (m6 (j9 (rn 4 [1] s d y y fun a s=>?_))))
   obtain ⟨ag,bh,u⟩:=bt u
   obtain ⟨cC,cT,cl,cG,bl,aA,bj,bk,bi⟩:=d.elemV 1 y bh
   have aK:=s
   have aN:=d
   subst bl
   have s:=aK
   have d:=aN
   obtain ⟨_,_,_,_,_,rfl,rfl,rfl,rfl,rfl,⟨ch,n329,ca,rfl,aB⟩⟩:=bi
   obtain rfl:=aB.1
   have d:=(d.addE (e:=SlA ch _ ca ag.Epochs) aB).addE bk
   refine sv s (o7 m5 o3 y y aA.1 aA.2 bj) y fun a s=>sv s (l7 (o':=cl+0) u9 y s6 y y y) y fun a s=>sv s (D5 (j:=0) (d.ceAt 0 y) y B9 s6 y y) y fun a s=>q8 (α:=SourceID) (vs:=[V32 ag.Source]) (cs:=(C32 ag.Source)) (xs:=([ag.Source]:List SourceID)) s d b1X y y y y y y ⟨⟨_,_,_,_,y,y,y,y,y⟩,y⟩ y j8 y fun cD a w s d=>?_
   obtain ⟨cQ,bm,u⟩:=bt u
   refine F6 (α:=SourceID) s d b1X 3 y y y 5 y 0 y 0 y bm y j8 ?_
   intro ci cb a5 a w s d
   refine av s y y fun a s=>l4 ?_
   refine l9 (tn (j9 (rn0 2 s y fun a s=>?_)))
   obtain ⟨cL,bn,u⟩:=bt u
   refine sv s (w9 y bn) y fun a s=>nl ⟨_,io u,a5,ci,cb,J,wj s d [1,2,3] [4,5,0]⟩
  refine u0 (j5 (j5 (o9 ?_)))
  obtain rfl:=oi u
  have bo:=aY _ y
  subst bo
  exact tn ⟨Q,ab,W,J,wj s d [0,1,2] [0,1,2]⟩
 rintro a w ⟨aj,ap,ao,aq,s,d⟩
 refine tn (sn0 1 s y fun a s=>?_)
 obtain ⟨c,bp,u⟩:=bt u
 obtain ⟨cr,d⟩:=C8 (α:=SourceID) d 2 y 2 y
 refine cR s (b2V bp d.dom (d.envAt 0 y)) (j3 call77 y) y ?_
 rintro c1 aQ w a br ⟨aP,v,i,rfl,bs,bq⟩ s
 have d:=(d.callN br bs).addE (e:=j6 i c) bq
 refine rz0 1 s y fun a s=>sz0 1 s y fun a s=>l3 (sz0 1 s y fun a s=>?_)
 obtain ⟨al,aF,u⟩:=bt u
 refine A7 (fun a w=>∃ R ac X ar,Sl 101 [(8,sl ac X al)] a∧Wd ⟨w0,S0,[]⟩ ar [.row ac al.length X R 56 5] [j6 R al] w) ?_ ?_
 ·refine m6 ?_
  have d:=d.nilRow Affected 56
  refine u7 (fun b a w=>∃ k n l M,Sl 101 [(2,pt b9),(3,pt f),(5,sl aP v c),(8,sl n l b.1),(9,iv b.2)] a∧Wd ⟨w0,S0,[]⟩ M [.box b9 [sl p2 k3 a1.Channels] 29,.box f [sl p6 k7 b5.Channels] 29,.row aP c.length v i 32 4,.row n b.1.length l k 56 5] [Sq p2 k3 a1.Channels,Sq p6 k7 b5.Channels,j6 i c,j6 k b.1] w) (([]:List Affected),0) aF ⟨[],none,0,aQ,wj s d [2,3,1,0] [3,4,1,0]⟩ ?_
  clear aF
  repeat clear u
  rintro b a w a3 ⟨k,n,l,M,s,d⟩ u aZ
  refine l3 (sz0 4 s y fun a s=>?_)
  refine cd s u y (fun u=>?_) fun u=>?_
  ·refine sk (l3 (m6 (l3 ?_)))
   obtain ⟨c9,bu,u⟩:=bt u
   obtain ⟨A,cX,cH,bA,bw,bx,bz,bv⟩:=d.elemRV (α:=SourceID) 2 y 2 y bu
   have aL:=s
   have aO:=d
   subst bA
   have s:=aL
   have d:=aO
   obtain ⟨_,_,_,_,rfl,rfl,rfl,rfl,rfl⟩:=bv
   obtain ⟨q,aC,u⟩:=bt u
   refine C7 (fun a w=>∃ au z g h,Sl 101 [(2,pt b9),(3,pt f),(5,sl (ad A) v c),(8,sl n l b.1),(9,iv b.2),(10,pt z)] a∧Wd ⟨w0,S0,[]⟩ au [.box b9 [sl p2 k3 a1.Channels] 29,.box f [sl p6 k7 b5.Channels] 29,.box z (C73 q.1 h g) 73,.row (ad A) c.length v i 32 4,.row n b.1.length l k 56 5] [Sq p2 k3 a1.Channels,Sq p6 k7 b5.Channels,Sq h g q.1.Epochs,j6 i c,j6 k b.1] w) ?_ ?_
   ·refine h_c [0,1,2,3] [] d y y (by kernel_rfl) y fun hC d=>gn 3 [0,1,2] [0] s hC y y y fun a s=>gx s 3 y j8 y hC v8 s6 y y bw bx fun a s=>gv s 4 y y hC (fun w hC=>I4 (j:=0) (hC.ownAt 2 y) y B9 s6 bz y y) fun a s=>a2E (rs:=[5,9]) (by kernel_rfl) y ?_
    refine Q7.cons y ?_ ?_
    ·refine cR s (a5I aC d.dom (d.envAt 0 y)) (j3 call60 y) y ?_
     rintro c2 aR w a bB ⟨h,g,rfl,am⟩ s
     have d:=(d.call bB).addE (e:=Sq h g q.1.Epochs) am
     refine h_n [0,1,2,3] [] d y y fun hC=>gn 3 [6,7,8] [] s hC y y y fun a s=>ho 9 y ?_
     refine wa Z2 s d zeroValue73 fun z a w s d=>h_n [1,2,3,4] [] d y y fun hC=>ho 10 y ?_
     refine ws (C73 q.1 h g) s d 0 y y y o3 fun a w s d=>h_n [1,2,3,4] [] d y y fun hC=>gv s 11 y y hC (fun w hC=>J6 y) fun a s=>q9 (by kernel_rfl) ?_
     exact ⟨aR,z,g,h,wj s d [1,2,0,3,4] [1,2,0,3,4]⟩
    refine Q7.cons y ?_ ?_
    ·refine wa Z2 s d zeroValue73 fun z a w s d=>h_n [1,2,3,4] [] d y y fun hC=>ho 5 y ?_
     refine cR s (a5I aC d.dom (d.envAt 0 y)) (j3 call60 y) y ?_
     rintro c3 aS w a bC ⟨h,g,rfl,am⟩ s
     have d:=(d.call bC).addE (e:=Sq h g q.1.Epochs) am
     refine h_n [1,2,3,4] [] d y y fun hC=>gn 3 [6,7,8] [] s hC y y y fun a s=>ho 10 y ?_
     refine ws (C73 q.1 h g) s d 0 y y y o3 fun a w s d=>h_n [1,2,3,4] [] d y y fun hC=>gv s 11 y y hC (fun w hC=>J6 y) fun a s=>q9 (by kernel_rfl) ?_
     exact ⟨aS,z,g,h,wj s d [1,2,0,3,4] [1,2,0,3,4]⟩
    exact Q7.nil
   rintro a w ⟨au,z,g,h,s,d⟩
   refine tn (l3 ?_)
   obtain ⟨da,bD,u⟩:=bt u
   obtain ⟨cY,cI,bH,bI,bJ,bG⟩:=d.elemRK (α:=SourceID) 3 y 3 y bD
   obtain ⟨_,_,_,_,rfl,rfl,rfl,rfl,rfl⟩:=bG
   obtain ⟨E,aD,u⟩:=bt u
   refine C7 (fun a w=>∃ aw F m o,Sl 101 [(2,pt b9),(3,pt f),(5,sl (ad A) v c),(8,sl n l b.1),(9,iv b.2),(10,pt z),(12,pt F)] a∧Wd ⟨w0,S0,[]⟩ aw [.box b9 [sl p2 k3 a1.Channels] 29,.box f [sl p6 k7 b5.Channels] 29,.box z (C73 q.1 h g) 73,.box F (C73 E.1 o m) 73,.row (ad A) c.length v i 32 4,.row n b.1.length l k 56 5] [Sq p2 k3 a1.Channels,Sq p6 k7 b5.Channels,Sq h g q.1.Epochs,Sq o m E.1.Epochs,j6 i c,j6 k b.1] w) ?_ ?_
   ·refine h_c [0,1,2,3,4] [] d y y (by kernel_rfl) y fun hC d=>gn 3 [0,1,2] [1] s hC y y y fun a s=>gx s 3 y j8 y hC v8 s6 y y bH bI fun a s=>gv s 4 y y hC (fun w hC=>I4 (j:=0) (hC.ownAt 3 y) y B9 s6 bJ y y) fun a s=>a2E (rs:=[5,9]) (by kernel_rfl) y ?_
    refine Q7.cons y ?_ ?_
    ·refine cR s (a5I aD d.dom (d.envAt 1 y)) (j3 call60 y) y ?_
     rintro c4 aT w a bK ⟨o,m,rfl,an⟩ s
     have d:=(d.call bK).addE (e:=Sq o m E.1.Epochs) an
     refine h_n [0,1,2,3,4] [] d y y fun hC=>gn 3 [6,7,8] [] s hC y y y fun a s=>ho 9 y ?_
     refine wa Z2 s d zeroValue73 fun F a w s d=>h_n [1,2,3,4,5] [] d y y fun hC=>ho 10 y ?_
     refine ws (C73 E.1 o m) s d 0 y y y o3 fun a w s d=>h_n [1,2,3,4,5] [] d y y fun hC=>gv s 11 y y hC (fun w hC=>J6 y) fun a s=>q9 (by kernel_rfl) ?_
     exact ⟨aT,F,m,o,wj s d [1,2,3,0,4,5] [1,2,3,0,4,5]⟩
    refine Q7.cons y ?_ ?_
    ·refine wa Z2 s d zeroValue73 fun F a w s d=>h_n [1,2,3,4,5] [] d y y fun hC=>ho 5 y ?_
     refine cR s (a5I aD d.dom (d.envAt 1 y)) (j3 call60 y) y ?_
     rintro c5 aU w a bL ⟨o,m,rfl,an⟩ s
     have d:=(d.call bL).addE (e:=Sq o m E.1.Epochs) an
     refine h_n [1,2,3,4,5] [] d y y fun hC=>gn 3 [6,7,8] [] s hC y y y fun a s=>ho 10 y ?_
     refine ws (C73 E.1 o m) s d 0 y y y o3 fun a w s d=>h_n [1,2,3,4,5] [] d y y fun hC=>gv s 11 y y hC (fun w hC=>J6 y) fun a s=>q9 (by kernel_rfl) ?_
     exact ⟨aU,F,m,o,wj s d [1,2,3,0,4,5] [1,2,3,0,4,5]⟩
    exact Q7.nil
   rintro a w ⟨aw,F,m,o,s,d⟩
   refine tn (l3 ?_)
   obtain ⟨a0,bM,u⟩:=bt u
   obtain ⟨a2,bO,u⟩:=bt u
   obtain ⟨t,bQ,u⟩:=bt u
   refine C7 (fun a w=>∃ N H B D,Sl 101 [(2,pt b9),(3,pt f),(5,sl (ad A) v c),(8,sl n l b.1),(9,iv b.2),(14,sl D B t)] a∧Wd ⟨w0,S0,[]⟩ N [.box b9 [sl p2 k3 a1.Channels] 29,.box f [sl p6 k7 b5.Channels] 29,.row (ad A) c.length v i 32 4,.row n b.1.length l k 56 5,.row D t.length B H 52 2] [Sq p2 k3 a1.Channels,Sq p6 k7 b5.Channels,j6 i c,j6 k b.1,j6 H t] w) ?_ ?_
   ·refine h_c [0,1,2,3,4,5] [] d y y (by kernel_rfl) y fun hC d=>gn 4 [0,1,3,4] [2,3,3,2] s hC y y y fun a s=>ho 2 y ?_
    refine cR s (a8d bM d.dom (d.envAt 2 y) (d.envAt 3 y)) (j3 call78 y) y ?_
    rintro c6 ct w a bS ⟨cU,cN,a6,rfl,bU,bN⟩ s
    have d:=(d.callN bS bU).addE (e:=j6 a6 a0) bN
    refine h_n [1,2,3,4,5,6] [] d y y fun hC=>ho 5 y ?_
    refine cR s (a8d bO d.dom (d.envAt 4 y) (d.envAt 3 y)) (j3 call78 y) y ?_
    rintro c7 cu w a bV ⟨cW,cO,a7,rfl,bW,bP⟩ s
    have d:=(d.callN bV bW).addE (e:=j6 a7 a2) bP
    refine h_n [2,3,4,5,6,7] [] d y y fun hC=>ho 6 y ?_
    obtain ⟨cv,d⟩:=C8 (α:=Span) d 1 y 1 y
    obtain ⟨cw,d⟩:=C8 (α:=Span) d 0 y 1 y
    refine cR s (b2p bQ d.dom (d.envAt 1 y) (d.envAt 0 y)) (j3 call29 y) y ?_
    rintro c8 aV w a bX ⟨D,B,H,rfl,bY,bR⟩ s
    have d:=(d.callN bX bY).addE (e:=j6 H t) bR
    refine h_n [1,2,3,4,5,6] [] d y y fun hC=>h_d [1,2,3,4,5,6,0] [] [0,1,2,3,4,5] [] d y y y y fun hC=>gv s 7 y y hC (fun w hC=>J6 y) fun a s=>q9 (by kernel_rfl) ?_
    exact ⟨aV,H,B,D,wj s d [1,2,5,6,0] [5,6,9,10,0]⟩
   rintro a w ⟨N,H,B,D,s,d⟩
   refine tn (sz0 3 s y fun a s=>?_)
   refine A7 (fun a w=>∃ (C:(List Affected)) (S ae Y O:_),a2I b C=some a3∧Sl 101 [(2,pt b9),(3,pt f),(5,sl (ad A) v c),(8,sl ae Y C),(9,iv b.2)] a∧Wd ⟨w0,S0,[]⟩ O [.box b9 [sl p2 k3 a1.Channels] 29,.box f [sl p6 k7 b5.Channels] 29,.row (ad A) c.length v i 32 4,.row ae C.length Y S 56 5] [Sq p2 k3 a1.Channels,Sq p6 k7 b5.Channels,j6 i c,j6 S C] w) ?_ ?_
   ·refine cd s u y (fun u=>?_) fun u=>?_
    ·refine j9 (rn0 3 s y fun a s=>?_)
     obtain ⟨x,b0,u⟩:=bt u
     obtain ⟨cZ,cJ,aE,b2,b3,b1⟩:=d.elemRK (α:=SourceID) 2 y 2 y b0
     obtain ⟨_,_,_,_,rfl,rfl,rfl,rfl,rfl⟩:=b1
     refine sv s (o7 v8 s6 y y aE.1 aE.2 b2) y fun a s=>sv s (I4 (j:=0) (d.ownAt 2 y) y B9 s6 b3 y y) y fun a s=>mv s y y fun a s=>sv s (A8 (vs:=[(0,V32 x),(1,sl D B t)]) Bld56 y y) y fun a s=>?_
     obtain ⟨aW,d⟩:=C8 (α:=Span) d 4 y 4 y
     refine q8 (α:=Affected) (vs:=[.agg #[.string x.Network,.string x.Station,.string x.Location,.string x.Channel,sl D B t]]) (cs:=[.string x.Network,.string x.Station,.string x.Location,.string x.Channel,sl D B t]) (xs:=([(⟨x,t⟩:Affected)]:List Affected)) s d El48 y y y y y y ⟨⟨_,_,_,_,_,y,y,y,y,y,⟨_,_,_,y,d.envAt 0 y⟩⟩,y⟩ y j8 y fun cE a w s d=>?_
     obtain ⟨ce,b4,u⟩:=bt u
     refine F6 (α:=Affected) s d El48 4 y y y 5 y 0 y 0 y b4 y j8 ?_
     intro cj cc a8 a w s d
     refine rz0 1 s y fun a s=>⟨ce,a8,cj,cc,aW,u,wj s d [1,2,3,4] [3,4,5,0]⟩
    exact sk ⟨b.1,k,n,l,N,u,wj s d [0,1,2,3] [0,1,2,3]⟩
   rintro a w ⟨C,S,ae,Y,O,u,s,d⟩
   refine l9 (tn (j9 (rn0 2 s y fun a s=>?_)))
   obtain ⟨cM,bZ,u⟩:=bt u
   refine sv s (w9 y bZ) y fun a s=>nl ⟨_,io u,S,ae,Y,O,wj s d [0,1,2,3] [0,1,2,3]⟩
  refine u0 (j5 (j5 (o9 ?_)))
  obtain rfl:=oi u
  have b6:=aZ _ y
  subst b6
  exact tn ⟨k,n,l,M,wj s d [3] [3]⟩
 rintro a w ⟨R,ac,X,ar,s,d⟩
 refine tn (sz0 2 s y fun a s=>?_)
 obtain rfl:=oi u
 exact q1 s y (d.ret ⟨ac,X,R,y,(d.outs [0] (by decide) y),(d.envAt 0 y)⟩)
theorem a2C {w0 S0 p2 k3 p6 k7 a1 b5 r} (u:a0d a1 b5=some r) (hS:Dm S0 w0) (h4:(Sq p2 k3 a1).p S0 w0) (h8:(Sq p6 k7 b5).p S0 w0):Ck Tryz.prog 28 #[sl p2 k3 a1,sl p6 k7 b5] w0 S0 [] o5 r:=by
 refine en 42 func28 y hS y y y fun a s d=>?_
 have d:=(d.addE h4).addE h8
 refine sz0 1 s y fun a s=>l3 (sz0 5 s y fun a s=>?_)
 refine cd s u y (fun u=>?_) fun u=>?_
 ·refine sz0 1 s y fun a s=>?_
  obtain rfl:=oi u
  exact t7 (j4 (rt s y (d.ret y)))
 refine sk (l3 (sz0 1 s y fun a s=>?_))
 refine m6 (u7 (fun k a w=>∃ c,Sl 42 [(0,sl p2 k3 a1),(1,sl p6 k7 b5),(5,iv k)] a∧Wd ⟨w0,S0,[]⟩ c [] [Sq p2 k3 a1,Sq p6 k7 b5] w) 0 u ⟨S0,wj s d [] [1,0]⟩ ?_)
 repeat clear u
 rintro k a w aB ⟨c,s,d⟩ u n
 refine l3 (sz0 4 s y fun a s=>?_)
 refine cd s u y (fun u=>?_) fun u=>?_
 ·refine sk (l3 (m6 (l3 ?_)))
  obtain ⟨g,N,u⟩:=bt u
  obtain ⟨o,I,K,aC,Q,t,v,P,O⟩:=d.elemV 0 y N
  have E:=s
  have G:=d
  subst Q
  have s:=E
  have d:=G
  obtain ⟨_,_,_,_,_,rfl,rfl,rfl,rfl,rfl,⟨ao,aH,ak,rfl,x⟩⟩:=O
  obtain rfl:=x.1
  have d:=(d.addE (e:=SlA ao _ ak g.Spans) x).addE P
  obtain ⟨h,R,u⟩:=bt u
  obtain ⟨q,J,L,aD,U,z,A,T,S⟩:=d.elemV 3 y R
  have F:=s
  have H:=d
  subst U
  have s:=F
  have d:=H
  obtain ⟨_,_,_,_,_,rfl,rfl,rfl,rfl,rfl,⟨ap,aI,al,rfl,B⟩⟩:=S
  obtain rfl:=B.1
  have d:=(d.addE (e:=SlA ap _ al h.Spans) B).addE T
  obtain ⟨M,m,u⟩:=bt u
  refine C7 (fun a w=>∃ i,Sl 42 [(0,sl (some ⟨o,I,none⟩) k3 a1),(1,sl (some ⟨q,J,none⟩) k7 b5),(5,iv k),(41,.bool M)] a∧Wd ⟨w0,S0,[]⟩ i [] [Sq (some ⟨o,I,none⟩) k3 a1,Sq (some ⟨q,J,none⟩) k7 b5] w) ?_ ?_
  ·rcases j0 (!((g.Source.Network == h.Source.Network) && ((g.Source.Station == h.Source.Station) && ((g.Source.Location == h.Source.Location) && ((g.Source.Channel == h.Source.Channel) && true))))) with f | f
   ·have V:=D7 m f
    refine h_c [] [0,2] d y y (by kernel_rfl) y fun hC d=>gn 2 [0,1] [] s hC y y y fun a s=>gx s 2 y j8 y hC C3 G2 y y t v fun a s=>gv s 3 y y hC (fun w hC=>l7 (o':=K+0) C2 y s6 y y y) fun a s=>gv s 4 y y hC (fun w hC=>D5 (j:=0) (hC.ceAt 1 y) y B9 s6 y y) fun a s=>gn 2 [5,6] [] s hC y y y fun a s=>gx s 7 y j8 y hC C3 G2 y y z A fun a s=>gv s 8 y y hC (fun w hC=>l7 (o':=L+0) C2 y s6 y y y) fun a s=>gv s 9 y y hC (fun w hC=>D5 (j:=0) (hC.ceAt 0 y) y B9 s6 y y) fun a s=>gv s 10 y y hC (fun w hC=>a8T (by kernel_rfl) y y (M5 B8 (by kernel_rfl) (EqF.cons1 y B0 y y (D9 m7) (EqF.cons1 y B0 y y (D9 m7) (EqF.cons1 y B0 y y (D9 m7) (EqF.cons1 y B0 y y (D9 m7) EqF.nil)))))) fun a s=>gm s 11 y y y hC fun a s=>?_
    have s:=s.bT 28 y f
    refine gn 12 [12,13,14,15,16,17,18,19,20,21,22,23] [] s hC y y y fun a s=>gT s 24 y y hC y y V fun a s=>q9 (by kernel_rfl) ?_
    exact ⟨c,wj s d [] [4,5]⟩
   have b:=E8 m f
   obtain ⟨aw,W,b⟩:=K3 b
   obtain ⟨au,aE,Y,Z,aa,X⟩:=d.elemK 4 y W
   obtain ⟨_,_,_,_,_,rfl,rfl,rfl,rfl,rfl,⟨aq,aJ,am,rfl,C⟩⟩:=X
   obtain rfl:=C.1
   have d:=(d.addE (e:=SlA aq _ am aw.Spans) C).addE aa
   obtain ⟨ax,ab,b⟩:=K3 b
   obtain ⟨av,aF,ad,ae,af,ac⟩:=d.elemK 7 y ab
   obtain ⟨_,_,_,_,_,rfl,rfl,rfl,rfl,rfl,⟨ar,aK,an,rfl,D⟩⟩:=ac
   obtain rfl:=D.1
   have d:=(d.addE (e:=SlA ar _ an ax.Spans) D).addE af
   obtain ⟨az,ag,b⟩:=K3 b
   refine h_c [] [0,2,4,6] d y y (by kernel_rfl) y fun hC d=>gn 2 [0,1] [] s hC y y y fun a s=>gx s 2 y j8 y hC C3 G2 y y t v fun a s=>gv s 3 y y hC (fun w hC=>l7 (o':=K+0) C2 y s6 y y y) fun a s=>gv s 4 y y hC (fun w hC=>D5 (j:=0) (hC.ceAt 3 y) y B9 s6 y y) fun a s=>gn 2 [5,6] [] s hC y y y fun a s=>gx s 7 y j8 y hC C3 G2 y y z A fun a s=>gv s 8 y y hC (fun w hC=>l7 (o':=L+0) C2 y s6 y y y) fun a s=>gv s 9 y y hC (fun w hC=>D5 (j:=0) (hC.ceAt 2 y) y B9 s6 y y) fun a s=>gv s 10 y y hC (fun w hC=>a8T (by kernel_rfl) y y (M5 B8 (by kernel_rfl) (EqF.cons1 y B0 y y (D9 m7) (EqF.cons1 y B0 y y (D9 m7) (EqF.cons1 y B0 y y (D9 m7) (EqF.cons1 y B0 y y (D9 m7) EqF.nil)))))) fun a s=>gm s 11 y y y hC fun a s=>?_
   have s:=s.bF 28 y f
   refine gn 2 [12,13] [] s hC y y y fun a s=>gx s 14 y ⟨_,y,y⟩ y hC C3 G2 y y Y Z fun a s=>gt s 15 y ⟨_,y,y⟩ y hC (fun w hC=>l7 (o':=au+4) C2 y K2 y y y) fun a s=>gt s 16 y ⟨_,y,y⟩ y hC (fun w hC=>F5 (j:=4) (hC.ceAt 1 y) y M1 y) fun a s=>gn 2 [17,18] [] s hC y y y fun a s=>gx s 19 y ⟨_,y,y⟩ y hC C3 G2 y y ad ae fun a s=>gt s 20 y ⟨_,y,y⟩ y hC (fun w hC=>l7 (o':=av+4) C2 y K2 y y y) fun a s=>gt s 21 y ⟨_,y,y⟩ y hC (fun w hC=>F5 (j:=4) (hC.ceAt 0 y) y M1 y) fun a s=>ho 22 y ?_
   refine x9 s (a9B ag d.bdom (d.bE 3 y) (d.bE 1 y)) (j3 call42 y) ⟨_,y,y⟩ y y ?_
   rintro aL ay w a ah rfl s
   have d:=d.callB ah
   refine h_n [] [0,2,4,6] d y y fun hC=>gt s 23 y ⟨_,y,y⟩ y hC (fun w hC=>a5Z y) fun a s=>gF s 24 y y hC y y b fun a s=>q9 (by kernel_rfl) ?_
   exact ⟨c,wj s d [] [8,9]⟩
  rintro a w ⟨i,s,d⟩
  refine tn (cd s u y (fun u=>?_) fun u=>?_)
  ·refine sz0 1 s y fun a s=>?_
   obtain rfl:=oi u
   have ai:=n _ y
   subst ai
   exact t7 (o8 (j4 (j4 (o8 (j4 (rt s y (d.ret y)))))))
  refine D1 (l9 (tn (j9 (rn0 2 s y fun a s=>?_))))
  obtain ⟨aG,aj,u⟩:=bt u
  refine sv s (w9 y aj) y fun a s=>nl ⟨_,io u,i,wj s d [] [0,1]⟩
 obtain ⟨aA,u,l⟩:=X5 u
 have l:=(n _ l.symm).symm
 subst l
 refine u0 (j5 (j5 (o9 (tn (sz0 1 s y fun a s=>?_)))))
 obtain rfl:=oi u
 exact q1 s y (d.ret y)
abbrev b1n (w0:World) (X:List Nat) (r:(Inventory × Bool)):Rd:=fun S w v=>∃ c b a,v=.tuple #[.agg #[sl c b r.1.Channels],.bool r.2]∧Outs X w0 S w [.row c r.1.Channels.length b a 73 5]∧(j6 a r.1.Channels).p S w
theorem a5t {w0 S0 p2 k3 p6 k7 h l5 r} (u:a3N h l5=some r) (hS:Dm S0 w0) (h4:(Sq p2 k3 h.Channels).p S0 w0) (h8:(Sq p6 k7 l5).p S0 w0):Ck Tryz.prog 71 #[.agg #[sl p2 k3 h.Channels],sl p6 k7 l5] w0 S0 [] b1n r:=by
 refine en 28 func71 y hS y y y fun a s d=>?_
 have d:=(d.addE h4).addE h8
 refine sr (wb [sl p2 k3 h.Channels] s d y fun b9 a w s d=>?_)
 refine wa [.slice none ([]:List Channel).length 0] s d zeroValue29 fun F a w s d=>rz0 1 s y fun a s=>sn 1 [1] s d y y fun a s=>?_
 obtain ⟨k,U,u⟩:=bt u
 refine cR s (a6K U d.dom (d.envAt 1 y)) (j3 call48 y) y ?_
 rintro ah J w a W ⟨I,H,G,rfl,X,V⟩ s
 have d:=(d.callN W X).addE (e:=j6 G k.Channels) V
 refine ws [sl I H k.Channels] s d 2 y y y s9 fun a w s d=>nl (l3 (sz0 3 s y fun a s=>?_))
 refine m6 ?_
 have d:=d.addE (e:=SlA (α:=Channel) none 0 0 []) K9
 refine u7 (fun b a w=>∃ g f c l,Sl 28 [(2,pt b9),(4,pt F),(11,sl p6 k7 l5),(12,iv (l5.length:Int)),(13,iv b.2)] a∧Wd ⟨w0,S0,[]⟩ l [.box b9 [sl f c b.1] 29,.box F [.slice none ([]:List Channel).length 0] 29,.row f b.1.length c g 73 5] [Sq p6 k7 l5,Sq none 0 ([]:List Channel),j6 g b.1] w) (k.Channels,0) u ⟨G,I,H,J,wj s d [2,1,0] [2,0,1]⟩ ?_
 repeat clear u
 rintro b a w aa ⟨g,f,c,l,s,d⟩ u m
 refine sz0 1 s y fun a s=>l3 (cd s u y (fun u=>?_) fun u=>?_)
 ·refine sk (l3 (m6 (sr ?_)))
  obtain ⟨D,K,u⟩:=bt u
  obtain ⟨ab,ae,af,ad,O,q,M,N,L⟩:=d.elemV 0 y K
  have v:=s
  have x:=d
  subst O
  have s:=v
  have d:=x
  obtain ⟨_,_,_,_,_,_,_,_,_,_,_,_,_,_,rfl,rfl,rfl,rfl,rfl,rfl,rfl,rfl,rfl,rfl,rfl,rfl,rfl,rfl,⟨B,n293,z,rfl,t⟩⟩:=L
  obtain rfl:=t.1
  have d:=(d.addE (e:=SlA B _ z D.Epoch.Response.Stages) t).addE N
  refine sv s (o7 C6 A0 y y q.1 q.2 M) y fun a s=>sv s (D5 (j:=0) (d.ceAt 0 y) y F1 A0 y y) y fun a s=>wa Z18 s d zeroValue43 fun ac a w s d=>ws (C43 D B z) s d 0 y y y A0 fun a w s d=>nl (sz0 1 s y fun a s=>?_)
  refine sn 2 [1,0] s d y y fun a s=>?_
  obtain ⟨n,P,u⟩:=bt u
  obtain ⟨Y,d⟩:=C8 (α:=Channel) d 3 y 4 y
  refine cR s (a0p P d.dom (d.envAt 0 y) (d.envAt 2 y)) (j3 call14 y) y ?_
  rintro ag E w a R ⟨C,A,o,rfl,S,Q⟩ s
  have d:=(d.callN R S).addE (e:=j6 o n.1.Channels) Q
  refine rn0 3 s y fun a s=>ws [sl C A n.1.Channels] s d 2 y y y s9 fun a w s d=>rz0 1 s y fun a s=>sz0 2 s y fun a s=>cd s u y (fun u=>?_) fun u=>?_
  ·refine sr (sv s (A8 (vs:=[]) a5Q y y) y fun a s=>?_)
   refine ws [.slice none ([]:List Channel).length 0] s d 3 y y y s9 fun a w s d=>rz0 1 s y fun a s=>?_
   obtain rfl:=oi u
   have T:=m _ y
   subst T
   have d:=d.nilRow Channel 73
   exact t7 (o8 (j4 (j4 (o8 (j4 (Y7 s y (D8 d 4 y y D4 s9 y) (F3 y) (d.ret ⟨none,0,[],y,(d.outs [0] (by decide) y),(d.envAt 0 y)⟩)))))))
  refine D1 (l9 (tn (j9 (rz0 2 s y fun a s=>?_))))
  exact ⟨_,io u,o,C,A,E,wj s d [2,3,0] [4,5,0]⟩
 obtain ⟨Z,u,i⟩:=X5 u
 have i:=(m _ i.symm).symm
 subst i
 refine u0 (j5 (j5 (o9 (tn (sn 1 [0] s d y y fun a s=>?_)))))
 refine ws [sl f c b.1] s d 1 y y y s9 fun a w s d=>rz0 1 s y fun a s=>?_
 obtain rfl:=oi u
 exact t7 (Y7 s y (D8 d 1 y y D4 s9 y) (F3 y) (d.ret ⟨f,c,g,y,(d.outs [2] (by decide) y),(d.envAt 2 y)⟩))
theorem a6Q {w0 S0 p2 k3 p4 k5 h1 r} (u:a3b h1=some r) (hS:Dm S0 w0) (h6:(Sq p2 k3 h1.Base.Channels).p S0 w0) (h7:(Sq p4 k5 h1.Changes).p S0 w0):Ck Tryz.prog 32 #[V65 h1 p2 k3 p4 k5] w0 S0 [] o5 r:=by
 refine en 24 func32 y hS y y y fun a s d=>?_
 have d:=(d.addE h6).addE h7
 refine sr (wb (C65 h1 p2 k3 p4 k5) s d y fun b8 a w s d=>?_)
 refine rz0 1 s y fun a s=>l3 (sn 2 [0] s d y y fun a s=>?_)
 obtain ⟨m,h9,u⟩:=bt u
 refine cV s d (a1U h9 d.bdom (d.bE 1 y)) (j3 call55 y) y fun a w s d=>rn0 2 s y fun a s=>rO 5 9 [0] s d y y y y y fun a s=>nl (cd s u y (fun u=>?_) fun u=>?_)
 ·refine sz0 1 s y fun a s=>?_
  obtain rfl:=oi u
  exact t7 (j4 (rt s y (d.ret y)))
 refine sk (sn 4 [0,0] s d y y fun a s=>?_)
 obtain ⟨b,f,u⟩:=bt u
 refine cR s (a5t f d.dom (d.envAt 1 y) (d.envAt 0 y)) (j3 call71 y) y ?_
 rintro o l w a h ⟨k,j,c,rfl,i,g⟩ s
 have d:=(d.callN h i).addE (e:=j6 c b.1.Channels) g
 refine rn0 3 s y fun a s=>wa [.slice none ([]:List Channel).length 0] s d zeroValue29 fun n a w s d=>ws [sl k j b.1.Channels] s d 0 y y y s9 fun a w s d=>rz0 1 s y fun a s=>sz0 2 s y fun a s=>?_
 obtain rfl:=oi u
 exact q1 s y (d.ret y)
abbrev b3f:List Value:=[.slice none ([]:List Channel).length 0]
theorem a1A {w0 S0 p2 k3 p4 k5 h1 n8 r} (u:a0e h1 n8=some r) (hS:Dm S0 w0) (h6:(Sq p2 k3 h1.Base.Channels).p S0 w0) (h7:(Sq p4 k5 h1.Changes).p S0 w0):Ck Tryz.prog 30 #[V65 h1 p2 k3 p4 k5,iv n8] w0 S0 [] a6P r:=by
 refine en 33 func30 y hS y y y fun a s d=>?_
 have d:=(d.addE h6).addE h7
 refine sr (wb (C65 h1 p2 k3 p4 k5) s d y fun b9 a w s d=>?_)
 refine wa b3f s d zeroValue29 fun j a w s d=>rz0 1 s y fun a s=>l3 (sn 1 [1] s d y y fun a s=>?_)
 obtain ⟨B,n,u⟩:=bt u
 refine cV s d (a6Q n d.bdom (d.bE 1 y) (d.bE 0 y)) (j3 call32 y) y fun a w s d=>rz0 1 s y fun a s=>cd s u y (fun u=>?_) fun u=>?_
 ·refine sr (sv s (A8 (vs:=[]) a5Q y y) y fun a s=>?_)
  refine ws b3f s d 0 y y y s9 fun a w s d=>rz0 1 s y fun a s=>?_
  obtain rfl:=oi u
  have d:=d.nilRow Channel 73
  exact t7 (j4 (Y7 s y (D8 d 1 y y D4 s9 y) (F3 y) (d.ret ⟨none,0,[],y,(d.outs [0] (by decide) y),(d.envAt 0 y)⟩)))
 refine sk (l3 (sn0 3 s y fun a s=>?_))
 refine rO 6 14 [1] s d y y y y y fun a s=>nl (cd s u y (fun u=>?_) fun u=>?_)
 ·refine sr (sv s (A8 (vs:=[]) a5Q y y) y fun a s=>?_)
  refine ws b3f s d 0 y y y s9 fun a w s d=>rz0 1 s y fun a s=>?_
  obtain rfl:=oi u
  have d:=d.nilRow Channel 73
  exact t7 (j4 (Y7 s y (D8 d 1 y y D4 s9 y) (F3 y) (d.ret ⟨none,0,[],y,(d.outs [0] (by decide) y),(d.envAt 0 y)⟩)))
 refine sk (l3 ?_)
 obtain ⟨D,o,u⟩:=bt u
 obtain ⟨p27,C,q,t⟩:=a7Y (d.envAt 0 y) o
 have d:=d.addE q
 obtain ⟨c,k,u⟩:=bt u
 refine C7 (fun a w=>∃ h g f b p32,Sl 33 [(4,pt j),(6,pt g)] a∧Wd ⟨w0,S0,[]⟩ h [.box j b3f 29,.box g [sl p32 b c.1.Channels] 29,.row p32 c.1.Channels.length b f 73 5] [Sq none 0 ([]:List Channel),j6 f c.1.Channels] w) ?_ ?_
 ·refine h_c [0,1] [] d y y (by kernel_rfl) y fun hC d=>gn 5 [0,1,2,3,4] [1,1] s hC y y y fun a s=>gv s 5 y y hC (fun w hC=>U4 C6 A0 y (by exact y) ⟨_,y⟩ t) fun a s=>a2E (rs:=[6,10]) (by kernel_rfl) y ?_
  refine Q7.cons y ?_ ?_
  ·refine cR s (a5t k d.dom (d.envAt 2 y) (d.envAt 0 y)) (j3 call71 y) y ?_
   rintro E l w a v ⟨p32,b,f,rfl,x,i⟩ s
   have d:=(d.callN v x).addE (e:=j6 f c.1.Channels) i
   refine h_n [1,2] [] d y y fun hC=>h_d [1,2,0] [] [0,1] [] d y y y y fun hC=>gn 3 [7,8,9] [] s hC y y y fun a s=>ho 10 y ?_
   refine wa b3f s d zeroValue29 fun g a w s d=>h_n [2,3,1] [] d y y fun hC=>ho 11 y ?_
   refine ws [sl p32 b c.1.Channels] s d 0 y y y s9 fun a w s d=>h_n [2,3,1] [] d y y fun hC=>gv s 12 y y hC (fun w hC=>J6 y) fun a s=>q9 (by kernel_rfl) ?_
   have d:=d.addE (e:=SlA (α:=Channel) none 0 0 []) K9
   exact ⟨l,g,f,b,p32,wj s d [2,0,1] [0,1]⟩
  refine Q7.cons y ?_ ?_
  ·refine wa b3f s d zeroValue29 fun g a w s d=>h_n [1,2] [] d y y fun hC=>ho 6 y ?_
   refine cR s (a5t k d.dom (d.envAt 2 y) (d.envAt 0 y)) (j3 call71 y) y ?_
   rintro F m w a z ⟨p32,b,f,rfl,A,i⟩ s
   have d:=(d.callN z A).addE (e:=j6 f c.1.Channels) i
   refine h_n [2,3] [] d y y fun hC=>h_d [2,3,0] [] [0,1] [] d y y y y fun hC=>gn 3 [7,8,9] [] s hC y y y fun a s=>ho 11 y ?_
   refine ws [sl p32 b c.1.Channels] s d 1 y y y s9 fun a w s d=>h_n [2,3,0] [] d y y fun hC=>gv s 12 y y hC (fun w hC=>J6 y) fun a s=>q9 (by kernel_rfl) ?_
   have d:=d.addE (e:=SlA (α:=Channel) none 0 0 []) K9
   exact ⟨m,g,f,b,p32,wj s d [2,1,0] [0,1]⟩
  exact Q7.nil
 rintro a w ⟨h,g,f,b,p32,s,d⟩
 refine tn (sn 1 [1] s d y y fun a s=>?_)
 refine ws [sl p32 b c.1.Channels] s d 0 y y y s9 fun a w s d=>rz0 1 s y fun a s=>?_
 obtain rfl:=oi u
 exact t7 (Y7 s y (D8 d 0 y y D4 s9 y) (F3 y) (d.ret ⟨p32,b,f,y,(d.outs [2] (by decide) y),(d.envAt 1 y)⟩))
abbrev a6h (w0:World) (X:List Nat) (r:((List Affected) × Int)):Rd:=fun S w v=>∃ c b a,v=.tuple #[sl c b r.1,iv r.2]∧Outs X w0 S w [.row c r.1.length b a 56 5]∧(j6 a r.1).p S w
theorem a9p {w0 S0 p2 k3 p4 k5 h1 n8 m9 r} (u:a3p h1 n8 m9=some r) (hS:Dm S0 w0) (h6:(Sq p2 k3 h1.Base.Channels).p S0 w0) (h7:(Sq p4 k5 h1.Changes).p S0 w0):Ck Tryz.prog 27 #[V65 h1 p2 k3 p4 k5,iv n8,iv m9] w0 S0 [] a6h r:=by
 refine en 32 func27 y hS y y y fun a s d=>?_
 have d:=(d.addE h6).addE h7
 refine sr (wb (C65 h1 p2 k3 p4 k5) s d y fun K a w s d=>?_)
 refine rz0 2 s y fun a s=>sn 2 [0] s d y y fun a s=>?_
 obtain ⟨b,j,u⟩:=bt u
 refine cR s (a1A j d.dom (d.envAt 1 y) (d.envAt 0 y)) (j3 call30 y) y ?_
 rintro N F w a l ⟨E,B,h,rfl,m,k⟩ s
 have d:=(d.callN l m).addE (e:=j6 h b.1.Channels) k
 refine rn0 3 s y fun a s=>wa [.slice none ([]:List Channel).length 0] s d zeroValue29 fun L a w s d=>ws [sl E B b.1.Channels] s d 0 y y y s9 fun a w s d=>rz0 1 s y fun a s=>l3 (sz0 2 s y fun a s=>?_)
 refine cd s u y (fun u=>?_) fun u=>?_
 ·refine sz0 3 s y fun a s=>?_
  obtain rfl:=oi u
  have d:=d.nilRow Affected 56
  exact t7 (j4 (Y7 s y (F3 y) (F3 y) (d.ret ⟨none,0,[],y,(d.outs [0] (by decide) y),(d.envAt 0 y)⟩)))
 refine sk (sn 2 [2] s d y y fun a s=>?_)
 obtain ⟨c,n,u⟩:=bt u
 refine cR s (a1A n d.dom (d.envAt 2 y) (d.envAt 1 y)) (j3 call30 y) y ?_
 rintro O G w a q ⟨p28,C,i,rfl,t,o⟩ s
 have d:=(d.callN q t).addE (e:=j6 i c.1.Channels) o
 refine rn0 3 s y fun a s=>wa [.slice none ([]:List Channel).length 0] s d zeroValue29 fun M a w s d=>ws [sl p28 C c.1.Channels] s d 0 y y y s9 fun a w s d=>rz0 1 s y fun a s=>l3 (sz0 2 s y fun a s=>?_)
 refine cd s u y (fun u=>?_) fun u=>?_
 ·refine sz0 3 s y fun a s=>?_
  obtain rfl:=oi u
  have d:=d.nilRow Affected 56
  exact t7 (j4 (Y7 s y (F3 y) (F3 y) (d.ret ⟨none,0,[],y,(d.outs [0] (by decide) y),(d.envAt 0 y)⟩)))
 refine sk (sn 2 [2,0] s d y y fun a s=>?_)
 obtain ⟨g,v,u⟩:=bt u
 obtain ⟨H,d⟩:=C8 (α:=Channel) d 3 y 1 y
 obtain ⟨I,d⟩:=C8 (α:=Channel) d 1 y 1 y
 refine cR s (a1d v d.dom (d.envAt 1 y) (d.envAt 0 y)) (j3 call15 y) y ?_
 rintro P J w a z ⟨p43,D,f,rfl,A,x⟩ s
 have d:=(d.callN z A).addE (e:=j6 f g) x
 refine rz0 2 s y fun a s=>?_
 obtain rfl:=oi u
 exact t7 (Y7 s y (F3 y) (F3 y) (d.ret ⟨p43,D,f,y,(d.outs [0] (by decide) y),(d.envAt 0 y)⟩))
theorem b1h {w0 S0 p2 k3 p4 k5 h1 n8 m9 r} (u:a5K h1 n8 m9=some r) (hS:Dm S0 w0) (h6:(Sq p2 k3 h1.Base.Channels).p S0 w0) (h7:(Sq p4 k5 h1.Changes).p S0 w0):Ck Tryz.prog 38 #[V65 h1 p2 k3 p4 k5,iv n8,iv m9] w0 S0 [] a6h r:=by
 refine en 32 func38 y hS y y y fun a s d=>?_
 have d:=(d.addE h6).addE h7
 refine sr (wb (C65 h1 p2 k3 p4 k5) s d y fun E a w s d=>?_)
 refine rz0 2 s y fun a s=>sn 2 [0] s d y y fun a s=>?_
 obtain ⟨b,k,u⟩:=bt u
 refine cR s (a1J k d.dom (d.envAt 1 y) (d.envAt 0 y)) (j3 call22 y) y ?_
 rintro H B w a m ⟨i,g,rfl,l⟩ s
 have d:=(d.call m).addE (e:=Sq i g b.1.Channels) l
 refine rn0 3 s y fun a s=>wa [.slice none ([]:List Channel).length 0] s d zeroValue29 fun F a w s d=>ws [sl i g b.1.Channels] s d 0 y y y s9 fun a w s d=>rz0 1 s y fun a s=>l3 (sz0 2 s y fun a s=>?_)
 refine cd s u y (fun u=>?_) fun u=>?_
 ·refine sz0 3 s y fun a s=>?_
  obtain rfl:=oi u
  have d:=d.nilRow Affected 56
  exact t7 (j4 (Y7 s y (F3 y) (F3 y) (d.ret ⟨none,0,[],y,(d.outs [0] (by decide) y),(d.envAt 0 y)⟩)))
 refine sk (sn 2 [1] s d y y fun a s=>?_)
 obtain ⟨c,n,u⟩:=bt u
 refine cR s (a1J n d.dom (d.envAt 2 y) (d.envAt 1 y)) (j3 call22 y) y ?_
 rintro I C w a q ⟨p27,h,rfl,o⟩ s
 have d:=(d.call q).addE (e:=Sq p27 h c.1.Channels) o
 refine rn0 3 s y fun a s=>wa [.slice none ([]:List Channel).length 0] s d zeroValue29 fun G a w s d=>ws [sl p27 h c.1.Channels] s d 0 y y y s9 fun a w s d=>rz0 1 s y fun a s=>l3 (sz0 2 s y fun a s=>?_)
 refine cd s u y (fun u=>?_) fun u=>?_
 ·refine sz0 3 s y fun a s=>?_
  obtain rfl:=oi u
  have d:=d.nilRow Affected 56
  exact t7 (j4 (Y7 s y (F3 y) (F3 y) (d.ret ⟨none,0,[],y,(d.outs [0] (by decide) y),(d.envAt 0 y)⟩)))
 refine sk (sn 2 [1,0] s d y y fun a s=>?_)
 obtain ⟨j,t,u⟩:=bt u
 refine cR s (a4O t d.dom (d.envAt 1 y) (d.envAt 0 y)) (j3 call36 y) y ?_
 rintro J D w a x ⟨p41,A,f,rfl,z,v⟩ s
 have d:=(d.callN x z).addE (e:=j6 f j) v
 refine rz0 2 s y fun a s=>?_
 obtain rfl:=oi u
 exact t7 (Y7 s y (F3 y) (F3 y) (d.ret ⟨p41,A,f,y,(d.outs [0] (by decide) y),(d.envAt 0 y)⟩))
theorem a1n {w0 S0 p2 k3 g6 f7 f s1} {f5:Affected→Option Bool} {r} (u:P8 s1 f5=some r) (hS:Dm S0 w0) (h4:(Sq p2 k3 s1).p S0 w0) (h9:(a6o Tryz.prog g6 f7 f f5).p S0 w0):Ck Tryz.prog 114 #[sl p2 k3 s1,.func (.func g6) f7.toArray f.toArray] w0 S0 [] K7 r:=by
 refine en 19 func114 y hS y y y fun a s d=>?_
 have d:=(d.addE h4).addE h9
 refine sz0 1 s y fun a s=>l3 (sz0 3 s y fun a s=>?_)
 refine m6 (u7 (fun m a w=>∃ b,Sl 19 [(0,sl p2 k3 s1),(1,.func (.func g6) f7.toArray f.toArray),(7,iv (s1.length:Int)),(8,iv m)] a∧Wd ⟨w0,S0,[]⟩ b [] [Sq p2 k3 s1,a6o Tryz.prog g6 f7 f f5] w) 0 u ⟨S0,wj s d [] [1,0]⟩ ?_)
 repeat clear u
 rintro m a w H ⟨b,s,d⟩ u g
 refine sz0 1 s y fun a s=>l3 (cd s u y (fun u=>?_) fun u=>?_)
 ·refine sk (l3 (m6 (sz0 2 s y fun a s=>?_)))
  refine sn0 3 s y fun a s=>?_
  obtain ⟨D,n,u⟩:=bt u
  obtain ⟨I,K,L,J,v,h,q,t,o⟩:=d.elemV 0 y n
  have k:=s
  have l:=d
  subst v
  have s:=k
  have d:=l
  obtain ⟨_,_,_,_,_,rfl,rfl,rfl,rfl,rfl,⟨C,n212,B,rfl,i⟩⟩:=o
  obtain rfl:=i.1
  have d:=(d.addE (e:=SlA C _ B D.Spans) i).addE t
  refine sv s (o7 C3 G2 y y h.1 h.2 q) y fun a s=>sv s (D5 (j:=0) (d.ceAt 0 y) y isAgg56 G2 y y) y fun a s=>?_
  obtain ⟨F,x,u⟩:=bt u
  refine x9 s ((d.bE 3 y).2 a2O.rfl' d.bdom ⟨_,_,_,_,_,y,y,y,y,y,⟨_,_,_,y,d.bE 1 y⟩⟩ x) (a4A (d.bE 3 y).1 y y) j8 y y ?_
  rintro M E w a z rfl s
  have d:=d.callB z
  refine nl (cd s u y (fun u=>?_) fun u=>?_)
  ·refine sz0 2 s y fun a s=>?_
   obtain rfl:=oi u
   have A:=g _ y
   subst A
   exact t7 (o8 (j4 (j4 (o8 (j4 (rt s y (d.ret y)))))))
  refine D1 (l9 (tn (j9 (rz0 2 s y fun a s=>?_))))
  exact ⟨_,io u,b,wj s d [] [2,3]⟩
 obtain ⟨G,u,c⟩:=X5 u
 have c:=(g _ c.symm).symm
 subst c
 refine u0 (j5 (j5 (o9 (tn (sz0 1 s y fun a s=>?_)))))
 obtain rfl:=oi u
 exact q1 s y (d.ret y)
theorem a0U {w0 S0 p2 k3 g6 f7 b s1} {f5:Affected→Option Bool} {r} (u:N9 s1 f5=some r) (hS:Dm S0 w0) (h4:(Sq p2 k3 s1).p S0 w0) (h9:(a6o Tryz.prog g6 f7 b f5).p S0 w0):Ck Tryz.prog 66 #[sl p2 k3 s1,.func (.func g6) f7.toArray b.toArray] w0 S0 [] o5 r:=by
 refine en 9 func66 y hS y y y fun a s d=>?_
 have d:=(d.addE h4).addE h9
 refine sz0 1 s y fun a s=>sn0 2 s y fun a s=>?_
 obtain ⟨e,c,u⟩:=bt u
 refine cV s d (a1n c d.bdom (d.bE 1 y) (d.bE 0 y)) (j3 call114 y) y fun a w s d=>rz0 2 s y fun a s=>?_
 obtain rfl:=oi u
 exact q1 s y (d.ret y)
theorem b4g {w0 S0 p2 k3 p6 k7 a1 b5 r} (u:b1w a1 b5=some r) (hS:Dm S0 w0) (h4:(Sq p2 k3 a1).p S0 w0) (h8:(Sq p6 k7 b5).p S0 w0):Ck Tryz.prog 115 #[sl p2 k3 a1,sl p6 k7 b5] w0 S0 [] A9 r:=by
 refine en 68 func115 y hS y y y fun a s d=>?_
 have d:=(d.addE h4).addE h8
 refine sz0 1 s y fun a s=>sn0 1 s y fun a s=>?_
 obtain ⟨f,h9,u⟩:=bt u
 refine cR s (a5c h9 d.dom (d.envAt 1 y)) (j3 call137 y) y ?_
 rintro bk bc w a a5 ⟨Y,q,k,rfl,a6,a4⟩ s
 have d:=(d.callN a5 a6).addE (e:=j6 k f) a4
 refine mv s y y fun a s=>?_
 obtain ⟨g,a7,u⟩:=bt u
 refine cR s (a5c a7 d.dom (d.envAt 1 y)) (j3 call137 y) y ?_
 rintro bl aa w a a9 ⟨Z,t,l,rfl,ba,a8⟩ s
 have d:=(d.callN a9 ba).addE (e:=j6 l g) a8
 refine rz0 2 s y fun a s=>sz0 1 s y fun a s=>l3 (sz0 2 s y fun a s=>?_)
 obtain ⟨N,S,u⟩:=bt u
 refine A7 (fun a w=>∃ K M L Q,Sl 68 [(5,sl M L N)] a∧Wd ⟨w0,S0,[]⟩ Q [.row M N.length L K 52 2] [j6 K N] w) ?_ ?_
 ·refine m6 ?_
  have d:=d.nilRow Span 52
  refine u7 (fun b a w=>∃ v z x E,Sl 68 [(0,sl Y q f),(1,sl Z t g),(5,sl z x b.1),(6,iv b.2.1),(7,iv b.2.2)] a∧Wd ⟨w0,S0,[]⟩ E [.row Y f.length q k 52 2,.row Z g.length t l 52 2,.row z b.1.length x v 52 2] [j6 k f,j6 l g,j6 v b.1] w) (([]:List Span),0,0) S ⟨[],none,0,aa,wj s d [2,1,0] [2,1,0]⟩ ?_
  clear S
  repeat clear u
  rintro b a w R ⟨v,z,x,E,s,d⟩ u X
  refine l3 (sn0 5 s y fun a s=>?_)
  refine rA 5 17 [] s d y y y y y fun a s=>nl (cd s u y (fun u=>?_) fun u=>?_)
  ·refine sk (m6 (l3 (l3 ?_)))
   obtain ⟨A,ac,u⟩:=bt u
   obtain ⟨h,aV,be,ai,af,ag,ah,ae⟩:=d.elemRV (α:=Span) 0 y 0 y ac
   have T:=s
   have V:=d
   subst ai
   have s:=T
   have d:=V
   obtain ⟨_,_,rfl,rfl,rfl⟩:=ae
   obtain ⟨B,aj,u⟩:=bt u
   obtain ⟨i,aW,bf,ao,al,am,an,ak⟩:=d.elemRV (α:=Span) 1 y 1 y aj
   have U:=s
   have W:=d
   subst ao
   have s:=U
   have d:=W
   obtain ⟨_,_,rfl,rfl,rfl⟩:=ak
   obtain ⟨C,ap,u⟩:=bt u
   obtain ⟨aX,bg,ar,au,av,aq⟩:=d.elemRK (α:=Span) 0 y 0 y ap
   obtain ⟨_,_,rfl,rfl,rfl⟩:=aq
   obtain ⟨D,aw,u⟩:=bt u
   obtain ⟨aY,bh,ay,az,aA,ax⟩:=d.elemRK (α:=Span) 1 y 1 y aw
   obtain ⟨_,_,rfl,rfl,rfl⟩:=ax
   refine C7 (fun a w=>∃ F H,Sl 68 [(0,sl (ad h) q f),(1,sl (ad i) t g),(5,sl z x b.1),(6,iv b.2.1),(7,iv b.2.2),(8,pt H)] a∧Wd ⟨w0,S0,[]⟩ F [.box H [iv (max A.From B.From),iv (min C.To D.To)] 52,.row (ad h) f.length q k 52 2,.row (ad i) g.length t l 52 2,.row z b.1.length x v 52 2] [j6 k f,j6 l g,j6 v b.1] w) ?_ ?_
   ·refine h_c [0,1,2] [] d y y (by kernel_rfl) y fun hC d=>gn 2 [0,1] [] s hC y y y fun a s=>gx s 2 y j8 y hC o0 u5 y y af ag fun a s=>gv s 3 y y hC (fun w hC=>l7 (o':=aV+0) t8 y m8 y y y) fun a s=>gv s 4 y y hC (fun w hC=>H5 (j:=0) (hC.ownAt 0 y) y s8 ah y) fun a s=>gn 2 [5,6] [] s hC y y y fun a s=>gx s 7 y j8 y hC o0 u5 y y al am fun a s=>gv s 8 y y hC (fun w hC=>l7 (o':=aW+0) t8 y m8 y y y) fun a s=>gv s 9 y y hC (fun w hC=>H5 (j:=0) (hC.ownAt 1 y) y s8 an y) fun a s=>gn 3 [10,11,12] [] s hC y y y fun a s=>gx s 13 y j8 y hC o0 u5 y y ar au fun a s=>gv s 14 y y hC (fun w hC=>l7 (o':=aX+1) t8 y m8 y y y) fun a s=>gv s 15 y y hC (fun w hC=>H5 (j:=1) (hC.ownAt 0 y) y s8 av y) fun a s=>?_
    refine gn 2 [16,17] [] s hC y y y fun a s=>gx s 18 y j8 y hC o0 u5 y y ay az fun a s=>gv s 19 y y hC (fun w hC=>l7 (o':=aY+1) t8 y m8 y y y) fun a s=>gv s 20 y y hC (fun w hC=>H5 (j:=1) (hC.ownAt 1 y) y s8 aA y) fun a s=>gv s 21 y y hC (fun w hC=>y_min y y) fun a s=>gv s 22 y y hC (fun w hC=>A8 (vs:=[(0,iv (max A.From B.From)),(1,iv (min C.To D.To))]) a7i y y) fun a s=>ho 23 y ?_
    refine wa [iv 0,iv 0] s d zeroValue52 fun H a w s d=>h_n [1,2,3] [] d y y fun hC=>ho 24 y ?_
    refine ws [iv (max A.From B.From),iv (min C.To D.To)] s d 0 y y y u5 fun a w s d=>h_n [1,2,3] [] d y y fun hC=>q9 (by kernel_rfl) ?_
    exact ⟨E,H,wj s d [0,1,2,3] [0,1,2]⟩
   rintro a w ⟨F,H,s,d⟩
   refine tn (sn 1 [0] s d y y fun a s=>?_)
   obtain ⟨bb,aB,u⟩:=bt u
   refine cV s d (b0L aB d.bdom) (j3 call140 y) y fun a w s d=>nl (A7 (fun a w=>∃ (c:(List Span)) (m o n I:_),a1i f g b c=some R∧Sl 68 [(0,sl (ad h) q f),(1,sl (ad i) t g),(5,sl o n c),(6,iv b.2.1),(7,iv b.2.2)] a∧Wd ⟨w0,S0,[]⟩ I [.row (ad h) f.length q k 52 2,.row (ad i) g.length t l 52 2,.row o c.length n m 52 2] [j6 k f,j6 l g,j6 m c] w) ?_ ?_)
   ·refine cd s u y (fun u=>?_) fun u=>?_
    ·refine j9 (rn 2 [0] s d y y fun a s=>?_)
     refine q8 (α:=Span) (vs:=[.agg #[iv (max A.From B.From),iv (min C.To D.To)]]) (cs:=[iv (max A.From B.From),iv (min C.To D.To)]) (xs:=([(⟨(max A.From B.From),(min C.To D.To)⟩:Span)]:List Span)) s d a3z y y y y y y ⟨⟨_,_,y,y,y⟩,y⟩ y j8 y fun bd a w s d=>?_
     obtain ⟨aT,aO,u⟩:=bt u
     refine F6 (α:=Span) s d a3z 4 y y y 3 y 0 y 0 y aO y j8 ?_
     intro aU aS ab a w s d
     refine rz0 1 s y fun a s=>⟨aT,ab,aU,aS,F,u,wj s d [2,3,4] [2,3,0]⟩
    exact sk ⟨b.1,v,z,x,F,u,wj s d [1,2,3] [0,1,2]⟩
   rintro a w ⟨c,m,o,n,I,u,s,d⟩
   refine tn (l3 ?_)
   obtain ⟨a2,aC,u⟩:=bt u
   obtain ⟨aZ,bi,aE,aF,aG,aD⟩:=d.elemRK (α:=Span) 0 y 0 y aC
   obtain ⟨_,_,rfl,rfl,rfl⟩:=aD
   obtain ⟨a3,aH,u⟩:=bt u
   obtain ⟨a0,bj,aJ,aK,aL,aI⟩:=d.elemRK (α:=Span) 1 y 1 y aH
   obtain ⟨_,_,rfl,rfl,rfl⟩:=aI
   refine C7 (fun a w=>∃ G,Sl 68 [(0,sl (ad h) q f),(1,sl (ad i) t g),(5,sl o n c),(6,iv b.2.1),(7,iv b.2.2),(62,.bool (decide (a2.To<a3.To)))] a∧Wd ⟨w0,S0,[]⟩ G [.row (ad h) f.length q k 52 2,.row (ad i) g.length t l 52 2,.row o c.length n m 52 2] [j6 k f,j6 l g,j6 m c] w) ?_ ?_
   ·refine h_c [0,1,2] [] d y y (by kernel_rfl) y fun hC d=>gn 2 [0,1] [] s hC y y y fun a s=>gx s 2 y j8 y hC o0 u5 y y aE aF fun a s=>gv s 3 y y hC (fun w hC=>l7 (o':=aZ+1) t8 y m8 y y y) fun a s=>gv s 4 y y hC (fun w hC=>H5 (j:=1) (hC.ownAt 0 y) y s8 aG y) fun a s=>gn 2 [5,6] [] s hC y y y fun a s=>gx s 7 y j8 y hC o0 u5 y y aJ aK fun a s=>gv s 8 y y hC (fun w hC=>l7 (o':=a0+1) t8 y m8 y y y) fun a s=>gv s 9 y y hC (fun w hC=>H5 (j:=1) (hC.ownAt 1 y) y s8 aL y) fun a s=>gv s 10 y y hC (fun w hC=>b1G y y) fun a s=>q9 (by kernel_rfl) ?_
    exact ⟨I,wj s d [0,1,2] [0,1,2]⟩
   rintro a w ⟨G,s,d⟩
   refine tn (A7 (fun a w=>∃ (O:Int) (P:Int) (J:_),a6k c O P=some R∧Sl 68 [(0,sl (ad h) q f),(1,sl (ad i) t g),(5,sl o n c),(6,iv O),(7,iv P)] a∧Wd ⟨w0,S0,[]⟩ J [.row (ad h) f.length q k 52 2,.row (ad i) g.length t l 52 2,.row o c.length n m 52 2] [j6 k f,j6 l g,j6 m c] w) ?_ ?_)
   ·refine cd s u y (fun u=>?_) fun u=>?_
    ·refine j9 (rn0 2 s y fun a s=>?_)
     obtain ⟨aQ,aM,u⟩:=bt u
     refine sv s (w9 y aM) y fun a s=>nl ⟨aQ,b.2.2,G,u,wj s d [0,1,2] [0,1,2]⟩
    refine j9 (rn0 2 s y fun a s=>?_)
    obtain ⟨aR,aN,u⟩:=bt u
    refine sv s (w9 y aN) y fun a s=>nl ⟨b.2.1,aR,G,u,wj s d [0,1,2] [0,1,2]⟩
   rintro a w ⟨O,P,J,u,s,d⟩
   exact l9 (tn ⟨_,io u,m,o,n,J,wj s d [0,1,2] [0,1,2]⟩)
  refine u0 (j5 (j5 (o9 ?_)))
  obtain rfl:=oi u
  have aP:=X _ y
  subst aP
  exact tn ⟨v,z,x,E,wj s d [2] [2]⟩
 rintro a w ⟨K,M,L,Q,s,d⟩
 refine tn (sz0 2 s y fun a s=>?_)
 obtain rfl:=oi u
 exact q1 s y (d.ret ⟨M,L,K,y,(d.outs [0] (by decide) y),(d.envAt 0 y)⟩)
theorem b5b {w0 S0 p2 k3 l1 b c r} (u:b0K l1 b c=some r) (hS:Dm S0 w0) (h4:(Sq p2 k3 l1).p S0 w0):Ck Tryz.prog 68 #[sl p2 k3 l1,iv b,iv c] w0 S0 [] A9 r:=by
 refine en 13 func68 y hS y y y fun a s d=>?_
 have d:=d.addE h4
 refine sz0 1 s y fun a s=>sn0 3 s y fun a s=>sv s (A8 (vs:=[(0,iv b),(1,iv c)]) a7i y y) y fun a s=>q8 (α:=Span) (vs:=[.agg #[iv b,iv c]]) (cs:=[iv b,iv c]) (xs:=([(⟨b,c⟩:Span)]:List Span)) s d a3z y y y y y y ⟨⟨_,_,y,y,y⟩,y⟩ y j8 y fun b8 a w s d=>?_
 obtain ⟨g,h9,u⟩:=bt u
 obtain ⟨m,d⟩:=C8 (α:=Span) d 0 y 0 y
 refine cR s (b4g h9 d.dom (d.envAt 2 y) (d.envAt 0 y)) (j3 call115 y) y ?_
 rintro o n w a i ⟨l,k,f,rfl,j,h⟩ s
 have d:=(d.callN i j).addE (e:=j6 f g) h
 refine rz0 1 s y fun a s=>?_
 obtain rfl:=oi u
 exact q1 s y (d.ret ⟨l,k,f,y,(d.outs [0] (by decide) y),(d.envAt 0 y)⟩)
theorem a7r {w0 S0 p2 k3 b6 b9 g x1 x5 x8 h r} (u:X0 x1 x5 x8 h=some r) (hS:Dm S0 w0) (h4:(Sq p2 k3 x1.Spans).p S0 w0) (h7:(CeA b6 0 (C32 x5)).p S0 w0) (n:(CeA b9 0 [iv x8]).p S0 w0) (o:(CeA g 0 [iv h]).p S0 w0):Ck Tryz.prog 67 #[V56 x1 p2 k3,pt b6,pt b9,pt g] w0 S0 [] o5 r:=by
 refine en 19 func67 y hS y y y fun a s d=>?_
 have d:=((d.addE h4).addE h7).addE n
 have d:=d.addE o
 refine sr (wb (C56 x1 p2 k3) s d y fun z a w s d=>?_)
 refine rz0 1 s y fun a s=>sn 2 [0] s d y y fun a s=>sv s (D5 (j:=0) (d.ceAt 2 y) y B9 s6 y y) y fun a s=>sv s (a0E (by kernel_rfl) y y (M5 B8 (by kernel_rfl) (EqF.cons1 y B0 y y (D9 m7) (EqF.cons1 y B0 y y (D9 m7) (EqF.cons1 y B0 y y (D9 m7) (EqF.cons1 y B0 y y (D9 m7) EqF.nil)))))) y fun a s=>mv s y y fun a s=>?_
 obtain ⟨l,f,u⟩:=bt u
 refine y7 8 (fun a w=>∃ c,Sl 19 [(18,.bool l)] a∧Wd ⟨w0,S0,[]⟩ c [] [] w) ?_ ?_
 ·rcases j0 ((x1.Source.Network == x5.Network) && ((x1.Source.Station == x5.Station) && ((x1.Source.Location == x5.Location) && ((x1.Source.Channel == x5.Channel) && true)))) with b | b
  ·have s:=s.bT 10 y b
   have u:=D7 f b
   refine rn 2 [0] s d y y fun a s=>D6 s (F5 (j:=0) (d.ceAt 1 y) y s8 y) ⟨_,y,y⟩ y y fun a s=>D6 s (F5 (j:=0) (d.ceAt 0 y) y s8 y) ⟨_,y,y⟩ y y fun a s=>?_
   obtain ⟨k,q,u⟩:=bt u
   refine x9 s (b5b q d.dom (d.envAt 3 y)) (j3 call68 y) ⟨_,y,y⟩ y y ?_
   rintro B i w a v ⟨p32,A,m,rfl,x,t⟩ s
   have d:=(d.callN v x).addE (e:=j6 m k) t
   refine rn0 3 s y fun a s=>l4 ?_
   obtain rfl:=oi u
   exact tn ⟨i,wj s d [] []⟩
  have s:=s.bF 10 y b
  have u:=E8 f b
  refine rn0 8 s y fun a s=>l4 ?_
  obtain rfl:=oi u
  exact tn ⟨S0,wj s d [] []⟩
 rintro a w ⟨c,s,d⟩
 refine rz0 1 s y fun a s=>?_
 obtain rfl:=oi u
 exact q1 s y (d.ret y)
theorem a7q {S0 w0 b6 b9 a x5 x8 b} (h7:(CeA b6 0 (C32 x5)).p S0 w0) (c:(CeA b9 0 [iv x8]).p S0 w0) (d:(CeA a 0 [iv b]).p S0 w0):(a6o Tryz.prog 67 [] [pt b6,pt b9,pt a] (fun y0=>X0 y0 x5 x8 b)).p S0 w0:=by
  refine ⟨call67,?_⟩
  rintro S1 w1 hk hS c0 x0 r1 ⟨_,_,_,_,_,rfl,rfl,rfl,rfl,rfl,⟨_,_,_,rfl,e0⟩⟩ hf
  obtain rfl:=e0.1
  exact a7r hf hS e0 (Asrt.mono _ hk h7) (Asrt.mono _ hk c) (Asrt.mono _ hk d)
theorem a9s {w0 S0 p2 k3 l1 s5 b c r} (u:a3r l1 s5 b c=some r) (hS:Dm S0 w0) (h4:(Sq p2 k3 l1).p S0 w0):Ck Tryz.prog 20 #[sl p2 k3 l1,V32 s5,iv b,iv c] w0 S0 [] o5 r:=by
 refine en 12 func20 y hS y y y fun a s d=>?_
 have d:=d.addE h4
 refine sr (wb (C32 s5) s d y fun b8 a w s d=>?_)
 refine wb [iv b] s d y fun b9 a w s d=>wb [iv c] s d y fun e a w s d=>rz0 1 s y fun a s=>sn0 1 s y fun a s=>sv s (b0h (vs:=#[]) (us:=#[pt b8,pt b9,pt e]) y y) y fun a s=>?_
 obtain ⟨g,f,u⟩:=bt u
 refine cV s d (a0U f d.bdom (d.bE 0 y) (a7q (d.bBox 2 y) (d.bBox 1 y) (d.bBox 0 y))) (j3 call66 y) y fun a w s d=>rz0 1 s y fun a s=>?_
 obtain rfl:=oi u
 exact q1 s y (d.ret y)
theorem b2W {w0 S0 p2 k3 p6 k7 a1 b5 r} (u:a9S a1 b5=some r) (hS:Dm S0 w0) (h4:(Sq p2 k3 a1).p S0 w0) (h8:(Sq p6 k7 b5).p S0 w0):Ck Tryz.prog 119 #[sl p2 k3 a1,sl p6 k7 b5] w0 S0 [] A9 r:=by
 refine en 61 func119 y hS y y y fun a s d=>?_
 have d:=(d.addE h4).addE h8
 refine sz0 1 s y fun a s=>sn0 1 s y fun a s=>?_
 obtain ⟨b,h9,u⟩:=bt u
 refine cR s (a0V h9 d.dom (d.envAt 1 y)) (j3 call61 y) y ?_
 rintro bn bm w a a7 ⟨R,x,m,rfl,a8,a6⟩ s
 have d:=(d.callN a7 a8).addE (e:=j6 m b) a6
 refine mv s y y fun a s=>?_
 obtain ⟨c,a9,u⟩:=bt u
 refine cR s (a0V a9 d.dom (d.envAt 1 y)) (j3 call61 y) y ?_
 rintro bo a3 w a bb ⟨S,z,n,rfl,bc,ba⟩ s
 have d:=(d.callN bb bc).addE (e:=j6 n c) ba
 refine rz0 2 s y fun a s=>sz0 1 s y fun a s=>l3 (sz0 1 s y fun a s=>?_)
 obtain ⟨V,ab,u⟩:=bt u
 refine A7 (fun a w=>∃ U X W Y,Sl 61 [(7,sl X W V)] a∧Wd ⟨w0,S0,[]⟩ Y [.row X V.length W U 52 2] [j6 U V] w) ?_ ?_
 ·refine m6 ?_
  have d:=d.nilRow Span 52
  refine u7 (fun g a w=>∃ O Q P D,Sl 61 [(5,sl R x b),(6,sl S z c),(7,sl Q P g.1),(8,iv g.2)] a∧Wd ⟨w0,S0,[]⟩ D [.row R b.length x m 52 2,.row S c.length z n 52 2,.row Q g.1.length P O 52 2] [j6 m b,j6 n c,j6 O g.1] w) (([]:List Span),0) ab ⟨[],none,0,a3,wj s d [2,1,0] [2,1,0]⟩ ?_
  clear ab
  repeat clear u
  rintro g a w bk ⟨O,Q,P,D,s,d⟩ u aS
  refine l3 (sz0 4 s y fun a s=>?_)
  refine cd s u y (fun u=>?_) fun u=>?_
  ·refine sk (l3 (m6 (sz0 1 s y fun a s=>?_)))
   obtain ⟨T,aa,u⟩:=bt u
   refine A7 (fun a w=>∃ G K I M,Sl 61 [(5,sl R x b),(6,sl S z c),(7,sl K I T),(8,iv g.2)] a∧Wd ⟨w0,S0,[]⟩ M [.row R b.length x m 52 2,.row S c.length z n 52 2,.row K T.length I G 52 2] [j6 m b,j6 n c,j6 G T] w) ?_ ?_
   ·refine m6 (u7 (fun f a w=>∃ i l k A,Sl 61 [(5,sl R x b),(6,sl S z c),(7,sl l k f.1),(8,iv g.2),(9,iv f.2)] a∧Wd ⟨w0,S0,[]⟩ A [.row R b.length x m 52 2,.row S c.length z n 52 2,.row l f.1.length k i 52 2] [j6 m b,j6 n c,j6 i f.1] w) (g.1,0) aa ⟨O,Q,P,D,wj s d [0,1,2] [0,1,2]⟩ ?_)
    clear aa
    repeat clear u
    rintro f a w aj ⟨i,l,k,A,s,d⟩ u ah
    refine l3 (sz0 4 s y fun a s=>?_)
    refine cd s u y (fun u=>?_) fun u=>?_
    ·refine sk (l3 (m6 (l3 ?_)))
     obtain ⟨o,al,u⟩:=bt u
     obtain ⟨E,aY,be,aq,an,ao,ap,am⟩:=d.elemRV (α:=Span) 0 y 0 y al
     have ac:=s
     have af:=d
     subst aq
     have s:=ac
     have d:=af
     obtain ⟨_,_,rfl,rfl,rfl⟩:=am
     obtain ⟨q,ar,u⟩:=bt u
     obtain ⟨F,aZ,bf,ay,av,aw,ax,au⟩:=d.elemRV (α:=Span) 1 y 1 y ar
     have ae:=s
     have ag:=d
     subst ay
     have s:=ae
     have d:=ag
     obtain ⟨_,_,rfl,rfl,rfl⟩:=au
     obtain ⟨t,az,u⟩:=bt u
     obtain ⟨a0,bg,aB,aC,aD,aA⟩:=d.elemRK (α:=Span) 0 y 0 y az
     obtain ⟨_,_,rfl,rfl,rfl⟩:=aA
     obtain ⟨v,aE,u⟩:=bt u
     obtain ⟨a2,bh,aG,aH,aI,aF⟩:=d.elemRK (α:=Span) 1 y 1 y aE
     obtain ⟨_,_,rfl,rfl,rfl⟩:=aF
     refine C7 (fun a w=>∃ B C,Sl 61 [(5,sl (ad E) x b),(6,sl (ad F) z c),(7,sl l k f.1),(8,iv g.2),(9,iv f.2),(10,pt C)] a∧Wd ⟨w0,S0,[]⟩ B [.box C [iv (max o.From q.From),iv (min t.To v.To)] 52,.row (ad E) b.length x m 52 2,.row (ad F) c.length z n 52 2,.row l f.1.length k i 52 2] [j6 m b,j6 n c,j6 i f.1] w) ?_ ?_
     ·refine h_c [0,1,2] [] d y y (by kernel_rfl) y fun hC d=>gn 2 [0,1] [] s hC y y y fun a s=>gx s 2 y j8 y hC o0 u5 y y an ao fun a s=>gv s 3 y y hC (fun w hC=>l7 (o':=aY+0) t8 y m8 y y y) fun a s=>gv s 4 y y hC (fun w hC=>H5 (j:=0) (hC.ownAt 0 y) y s8 ap y) fun a s=>gn 2 [5,6] [] s hC y y y fun a s=>gx s 7 y j8 y hC o0 u5 y y av aw fun a s=>gv s 8 y y hC (fun w hC=>l7 (o':=aZ+0) t8 y m8 y y y) fun a s=>gv s 9 y y hC (fun w hC=>H5 (j:=0) (hC.ownAt 1 y) y s8 ax y) fun a s=>gn 3 [10,11,12] [] s hC y y y fun a s=>gx s 13 y j8 y hC o0 u5 y y aB aC fun a s=>gv s 14 y y hC (fun w hC=>l7 (o':=a0+1) t8 y m8 y y y) fun a s=>gv s 15 y y hC (fun w hC=>H5 (j:=1) (hC.ownAt 0 y) y s8 aD y) fun a s=>?_
      refine gn 2 [16,17] [] s hC y y y fun a s=>gx s 18 y j8 y hC o0 u5 y y aG aH fun a s=>gv s 19 y y hC (fun w hC=>l7 (o':=a2+1) t8 y m8 y y y) fun a s=>gv s 20 y y hC (fun w hC=>H5 (j:=1) (hC.ownAt 1 y) y s8 aI y) fun a s=>gv s 21 y y hC (fun w hC=>y_min y y) fun a s=>gv s 22 y y hC (fun w hC=>A8 (vs:=[(0,iv (max o.From q.From)),(1,iv (min t.To v.To))]) a7i y y) fun a s=>ho 23 y ?_
      refine wa [iv 0,iv 0] s d zeroValue52 fun C a w s d=>h_n [1,2,3] [] d y y fun hC=>ho 24 y ?_
      refine ws [iv (max o.From q.From),iv (min t.To v.To)] s d 0 y y y u5 fun a w s d=>h_n [1,2,3] [] d y y fun hC=>q9 (by kernel_rfl) ?_
      exact ⟨A,C,wj s d [0,1,2,3] [0,1,2]⟩
     rintro a w ⟨B,C,s,d⟩
     refine tn (sz 5 [0,0] s d y y fun a s=>?_)
     refine A7 (fun a w=>∃ (h:(List Span)) (H L J N:_),a5A f h=some aj∧Sl 61 [(5,sl (ad E) x b),(6,sl (ad F) z c),(7,sl L J h),(8,iv g.2),(9,iv f.2)] a∧Wd ⟨w0,S0,[]⟩ N [.row (ad E) b.length x m 52 2,.row (ad F) c.length z n 52 2,.row L h.length J H 52 2] [j6 m b,j6 n c,j6 H h] w) ?_ ?_
     ·refine cd s u y (fun u=>?_) fun u=>?_
      ·refine j9 (rn 2 [0] s d y y fun a s=>?_)
       refine q8 (α:=Span) (vs:=[.agg #[iv (max o.From q.From),iv (min t.To v.To)]]) (cs:=[iv (max o.From q.From),iv (min t.To v.To)]) (xs:=([(⟨(max o.From q.From),(min t.To v.To)⟩:Span)]:List Span)) s d a3z y y y y y y ⟨⟨_,_,y,y,y⟩,y⟩ y j8 y fun bd a w s d=>?_
       obtain ⟨aV,aK,u⟩:=bt u
       refine F6 (α:=Span) s d a3z 4 y y y 3 y 0 y 0 y aK y j8 ?_
       intro aW aT ak a w s d
       refine rz0 1 s y fun a s=>⟨aV,ak,aW,aT,B,u,wj s d [2,3,4] [2,3,0]⟩
      exact sk ⟨f.1,i,l,k,B,u,wj s d [1,2,3] [0,1,2]⟩
     rintro a w ⟨h,H,L,J,N,u,s,d⟩
     refine l9 (tn (j9 (rn0 2 s y fun a s=>?_)))
     obtain ⟨bj,aJ,u⟩:=bt u
     refine sv s (w9 y aJ) y fun a s=>nl ⟨_,io u,H,L,J,N,wj s d [0,1,2] [0,1,2]⟩
    refine u0 (j5 (j5 (o9 ?_)))
    obtain rfl:=oi u
    have aL:=ah _ y
    subst aL
    exact tn ⟨i,l,k,A,wj s d [0,1,2] [0,1,2]⟩
   rintro a w ⟨G,K,I,M,s,d⟩
   refine l9 (tn (j9 (rn0 2 s y fun a s=>?_)))
   obtain ⟨bi,aM,u⟩:=bt u
   refine sv s (w9 y aM) y fun a s=>nl ⟨_,io u,G,K,I,M,wj s d [0,1,2] [0,1,2]⟩
  refine u0 (j5 (j5 (o9 ?_)))
  obtain rfl:=oi u
  have aN:=aS _ y
  subst aN
  exact tn ⟨O,Q,P,D,wj s d [2] [2]⟩
 rintro a w ⟨U,X,W,Y,s,d⟩
 refine tn (sn0 1 s y fun a s=>?_)
 obtain ⟨ai,aO,u⟩:=bt u
 obtain ⟨a4,d⟩:=C8 (α:=Span) d 0 y 0 y
 refine cR s (a0V aO d.dom (d.envAt 0 y)) (j3 call61 y) y ?_
 rintro bl a5 w a aQ ⟨aX,aU,Z,rfl,aR,aP⟩ s
 have d:=(d.callN aQ aR).addE (e:=j6 Z ai) aP
 refine rz0 1 s y fun a s=>?_
 obtain rfl:=oi u
 exact q1 s y (d.ret ⟨aX,aU,Z,y,(d.outs [0] (by decide) y),(d.envAt 0 y)⟩)
theorem b3V {w0 S0 p2 k3 l1 b c r} (u:a7n l1 b c=some r) (hS:Dm S0 w0) (h4:(Sq p2 k3 l1).p S0 w0):Ck Tryz.prog 79 #[sl p2 k3 l1,iv b,iv c] w0 S0 [] A9 r:=by
 refine en 13 func79 y hS y y y fun a s d=>?_
 have d:=d.addE h4
 refine sz0 1 s y fun a s=>sn0 3 s y fun a s=>sv s (A8 (vs:=[(0,iv b),(1,iv c)]) a7i y y) y fun a s=>q8 (α:=Span) (vs:=[.agg #[iv b,iv c]]) (cs:=[iv b,iv c]) (xs:=([(⟨b,c⟩:Span)]:List Span)) s d a3z y y y y y y ⟨⟨_,_,y,y,y⟩,y⟩ y j8 y fun b8 a w s d=>?_
 obtain ⟨g,h9,u⟩:=bt u
 obtain ⟨m,d⟩:=C8 (α:=Span) d 0 y 0 y
 refine cR s (b2W h9 d.dom (d.envAt 2 y) (d.envAt 0 y)) (j3 call119 y) y ?_
 rintro o n w a i ⟨l,k,f,rfl,j,h⟩ s
 have d:=(d.callN i j).addE (e:=j6 f g) h
 refine rz0 1 s y fun a s=>?_
 obtain rfl:=oi u
 exact q1 s y (d.ret ⟨l,k,f,y,(d.outs [0] (by decide) y),(d.envAt 0 y)⟩)
theorem b1k {w0 S0 p2 k3 l1 s5 b o r} (u:a5M l1 s5 b o=some r) (hS:Dm S0 w0) (h4:(Sq p2 k3 l1).p S0 w0):Ck Tryz.prog 39 #[sl p2 k3 l1,V32 s5,iv b,iv o] w0 S0 [] o5 r:=by
 refine en 35 func39 y hS y y y fun a s d=>?_
 have d:=d.addE h4
 refine sr (wb (C32 s5) s d y fun b8 a w s d=>?_)
 refine rz0 1 s y fun a s=>l3 (sz0 1 s y fun a s=>?_)
 refine m6 (u7 (fun k a w=>∃ h,Sl 35 [(0,sl p2 k3 l1),(2,iv b),(3,iv o),(5,pt b8),(9,iv k)] a∧Wd ⟨w0,S0,[]⟩ h [.box b8 (C32 s5) 32] [Sq p2 k3 l1] w) 0 u ⟨S0,wj s d [0] [0]⟩ ?_)
 repeat clear u
 rintro k a w af ⟨h,s,d⟩ u n
 refine l3 (sz0 4 s y fun a s=>?_)
 refine cd s u y (fun u=>?_) fun u=>?_
 ·refine sk (l3 (m6 (l3 ?_)))
  obtain ⟨g,I,u⟩:=bt u
  obtain ⟨q,C,D,ag,L,t,v,K,J⟩:=d.elemV 0 y I
  have A:=s
  have B:=d
  subst L
  have s:=A
  have d:=B
  obtain ⟨_,_,_,_,_,rfl,rfl,rfl,rfl,rfl,⟨aa,n321,Y,rfl,x⟩⟩:=J
  obtain rfl:=x.1
  have d:=(d.addE (e:=SlA aa _ Y g.Spans) x).addE K
  obtain ⟨G,m,u⟩:=bt u
  refine C7 (fun a w=>∃ i,Sl 35 [(0,sl (some ⟨q,C,none⟩) k3 l1),(2,iv b),(3,iv o),(5,pt b8),(9,iv k),(34,.bool G)] a∧Wd ⟨w0,S0,[]⟩ i [.box b8 (C32 s5) 32] [Sq (some ⟨q,C,none⟩) k3 l1] w) ?_ ?_
  ·rcases j0 ((g.Source.Network == s5.Network) && ((g.Source.Station == s5.Station) && ((g.Source.Location == s5.Location) && ((g.Source.Channel == s5.Channel) && true)))) with c | c
   ·have f:=D7 m c
    obtain ⟨ad,M,f⟩:=K3 f
    obtain ⟨ac,ah,O,P,Q,N⟩:=d.elemK 2 y M
    obtain ⟨_,_,_,_,_,rfl,rfl,rfl,rfl,rfl,⟨ab,ak,Z,rfl,z⟩⟩:=N
    obtain rfl:=z.1
    have d:=(d.addE (e:=SlA ab _ Z ad.Spans) z).addE Q
    obtain ⟨F,R,f⟩:=K3 f
    refine h_c [0] [0,2] d y y (by kernel_rfl) y fun hC d=>gn 2 [0,1] [] s hC y y y fun a s=>gx s 2 y j8 y hC C3 G2 y y t v fun a s=>gv s 3 y y hC (fun w hC=>l7 (o':=D+0) C2 y s6 y y y) fun a s=>gv s 4 y y hC (fun w hC=>D5 (j:=0) (hC.ceAt 1 y) y B9 s6 y y) fun a s=>gv s 5 y y hC (fun w hC=>Y0 (hC.ownAt 0 y) y B9 s6 y y) fun a s=>gv s 6 y y hC (fun w hC=>a0E (by kernel_rfl) y y (M5 B8 (by kernel_rfl) (EqF.cons1 y B0 y y (D9 m7) (EqF.cons1 y B0 y y (D9 m7) (EqF.cons1 y B0 y y (D9 m7) (EqF.cons1 y B0 y y (D9 m7) EqF.nil)))))) fun a s=>gm s 7 y y y hC fun a s=>?_
    have s:=s.bT 23 y c
    refine gn 2 [8,9] [] s hC y y y fun a s=>gx s 10 y ⟨_,y,y⟩ y hC C3 G2 y y O P fun a s=>gt s 11 y ⟨_,y,y⟩ y hC (fun w hC=>l7 (o':=ac+4) C2 y K2 y y y) fun a s=>gt s 12 y ⟨_,y,y⟩ y hC (fun w hC=>F5 (j:=4) (hC.ceAt 0 y) y M1 y) fun a s=>gn 2 [13,14] [] s hC y y y fun a s=>ho 15 y ?_
    refine x9 s (b3V R d.dom (d.envAt 1 y)) (j3 call79 y) ⟨_,y,y⟩ y y ?_
    rintro am E w a T ⟨al,aj,H,rfl,U,S⟩ s
    have d:=(d.callN T U).addE (e:=j6 H F) S
    refine h_n [1] [1,3] d y y fun hC=>h_d [1,0] [1,3] [0] [0,1] d y y y y fun hC=>gn 2 [16,17] [] s hC y y y fun a s=>gT s 18 y y hC y y f fun a s=>q9 (by kernel_rfl) ?_
    exact ⟨E,wj s d [1] [5]⟩
   have V:=E8 m c
   refine h_c [0] [0] d y y (by kernel_rfl) y fun hC d=>gn 2 [0,1] [] s hC y y y fun a s=>gx s 2 y j8 y hC C3 G2 y y t v fun a s=>gv s 3 y y hC (fun w hC=>l7 (o':=D+0) C2 y s6 y y y) fun a s=>gv s 4 y y hC (fun w hC=>D5 (j:=0) (hC.ceAt 0 y) y B9 s6 y y) fun a s=>gv s 5 y y hC (fun w hC=>Y0 (hC.ownAt 0 y) y B9 s6 y y) fun a s=>gv s 6 y y hC (fun w hC=>a0E (by kernel_rfl) y y (M5 B8 (by kernel_rfl) (EqF.cons1 y B0 y y (D9 m7) (EqF.cons1 y B0 y y (D9 m7) (EqF.cons1 y B0 y y (D9 m7) (EqF.cons1 y B0 y y (D9 m7) EqF.nil)))))) fun a s=>gm s 7 y y y hC fun a s=>?_
   have s:=s.bF 23 y c
   refine gn 10 [8,9,10,11,12,13,14,15,16,17] [] s hC y y y fun a s=>gF s 18 y y hC y y V fun a s=>q9 (by kernel_rfl) ?_
   exact ⟨h,wj s d [0] [2]⟩
  rintro a w ⟨i,s,d⟩
  refine tn (cd s u y (fun u=>?_) fun u=>?_)
  ·refine sz0 1 s y fun a s=>?_
   obtain rfl:=oi u
   have W:=n _ y
   subst W
   exact t7 (o8 (j4 (j4 (o8 (j4 (rt s y (d.ret y)))))))
  refine D1 (l9 (tn (j9 (rn0 2 s y fun a s=>?_))))
  obtain ⟨ai,X,u⟩:=bt u
  refine sv s (w9 y X) y fun a s=>nl ⟨_,io u,i,wj s d [0] [0]⟩
 obtain ⟨ae,u,l⟩:=X5 u
 have l:=(n _ l.symm).symm
 subst l
 refine u0 (j5 (j5 (o9 (tn (sz0 1 s y fun a s=>?_)))))
 obtain rfl:=oi u
 exact q1 s y (d.ret y)
abbrev a3e (w0:World) (X:List Nat) (r:(List Change)):Rd:=fun S w v=>∃ c b a,v=sl c b r∧Outs X w0 S w [.row c r.length b a 43 14]∧(j6 a r).p S w
theorem a3d {w0 S0 p2 k3 s1 r} (u:J9 s1=some r) (hS:Dm S0 w0) (h4:(Sq p2 k3 s1).p S0 w0):Ck Tryz.prog 80 #[sl p2 k3 s1] w0 S0 [] a3e r:=by
 refine en 8 func80 y hS y y y fun a s d=>?_
 have d:=d.addE h4
 delta J9 at u
 refine sz0 1 s y fun a s=>l3 (sn0 1 s y fun a s=>?_)
 refine sv s (b0g C6 y y) y fun a s=>nl ?_
 have b:=s
 have c:=d
 rcases p2 with _ | i
 ·have s:=b
  have d:=c
  obtain rfl:=b2z (d.envAt 0 y)
  have u:some ([]:List Change)=some r:=by simpa [T9,maxLen] using u
  refine wp_cond_true (s.ev y) ?_
  refine sz0 1 s y fun a s=>?_
  obtain rfl:=oi u
  have d:=d.nilRow Change 43
  exact t7 (j4 (rt s y (d.ret ⟨none,0,[],y,(d.outs [0] (by decide) y),(d.envAt 0 y)⟩)))
 have s:=b
 have d:=c
 refine wp_cond_false (s.ev y) ?_
 refine sk (sr (a1j (α:=Change) (vs:=[]) (cs:=[]) (xs:=([]:List Change)) s d a5R y y y y y y y y j8 fun p9 a w s d=>?_))
 refine mv s y y fun a s=>?_
 obtain ⟨j,f,u⟩:=bt u
 refine R4 (α:=Change) s d a5R 0 y y y 0 y 1 y f y j8 ?_
 intro h g e a w s d
 refine rz0 1 s y fun a s=>?_
 obtain rfl:=oi u
 exact q1 s y (d.ret ⟨h,g,e,y,(d.outs [0] (by decide) y),(d.envAt 0 y)⟩)
abbrev a9Y (w0:World) (X:List Nat) (r:Change):Rd:=fun S w v=>∃ c b a,v=V43 r c b∧Outs X w0 S w [.row c r.Epoch.Response.Stages.length b a 138 10]∧(j6 a r.Epoch.Response.Stages).p S w
theorem a9X {w0 S0 p2 k3 c1 r} (u:a4e c1=some r) (hS:Dm S0 w0) (h4:(Sq p2 k3 c1.Epoch.Response.Stages).p S0 w0):Ck Tryz.prog 81 #[V43 c1 p2 k3] w0 S0 [] a9Y r:=by
 refine en 8 func81 y hS y y y fun a s d=>?_
 have d:=d.addE h4
 refine sr (wb (C43 c1 p2 k3) s d y fun b5 a w s d=>?_)
 refine wa Z18 s d zeroValue43 fun b6 a w s d=>nl (sn 2 [1] s d y y fun a s=>?_)
 obtain ⟨c,h7,u⟩:=bt u
 refine cR s (a1S h7 d.dom (d.envAt 0 y)) (j3 call97 y) y ?_
 rintro k j w a h ⟨p9,b,f,rfl,i,g⟩ s
 have d:=(d.callN h i).addE (e:=j6 f c.Response.Stages) g
 refine sv s (l7 (o':=6) H0 y t6 y y y) y fun a s=>ws (C43 ⟨c1.Kind,c1.Source,c1.From,c⟩ p9 b) s d 2 y y y t6 fun a w s d=>nl (sn 1 [2] s d y y fun a s=>?_)
 refine ws (C43 ⟨c1.Kind,c1.Source,c1.From,c⟩ p9 b) s d 1 y y y A0 fun a w s d=>nl ?_
 obtain rfl:=oi u
 exact t7 (a7p s y (D8 d 1 y y F1 A0 y) (d.ret ⟨p9,b,f,y,(d.outs [0] (by decide) y),(d.envAt 0 y)⟩))
abbrev D40t1 (a:Nat) (b:Nat) (c:Nat):F7:=[(2,pt a),(3,pt b),(4,pt c)]
abbrev D40t2 (a:Nat) (d:Nat) (c8:Change) (h1:History) (e:Nat) (k3:Nat) (k5:Nat) (f:Nat) (g:Nat) (h:Nat) (i:(List Change)) (p2:Option Addr) (p4:Option Addr) (p50:Option Addr) (p56:Option Addr) (p64:Option Addr) (p9:Option Addr) (b:Inventory) (c:(List Change)):Vs:=[(0,39,pt a),(1,40,.agg #[sl p2 k3 h1.Base.Channels]),(2,41,.agg #[sl p50 f b.Channels]),(3,42,.pointer (some ⟨a,1,none⟩)),(4,43,sl p4 k5 h1.Changes),(5,44,sl p56 g c),(6,45,V43 c8 p9 e),(7,46,sl (ad d) ([c8]:List Change).length ([c8]:List Change)),(8,47,sl p64 h i),(9,48,pt a),(11,49,.pointer (some ⟨a,1,none⟩))]
theorem a9W {w0 S0 p2 k3 p4 k5 p9 C h1 c8 r} (u:a4d h1 c8=some r) (hS:Dm S0 w0) (h6:(Sq p2 k3 h1.Base.Channels).p S0 w0) (h7:(Sq p4 k5 h1.Changes).p S0 w0) (a5:(Sq p9 C c8.Epoch.Response.Stages).p S0 w0):Ck Tryz.prog 40 #[V65 h1 p2 k3 p4 k5,V43 c8 p9 C] w0 S0 [] a8c r:=by
 refine en 66 func40 y hS y y y fun a s d=>?_
 have d:=((d.addE h6).addE h7).addE a5
 refine sr (wb (C65 h1 p2 k3 p4 k5) s d y fun q a w s d=>?_)
 refine wb (C43 c8 p9 C) s d y fun aB a w s d=>wa Z21 s d zeroValue65 fun F a w s d=>rz0 1 s y fun a s=>sn 4 [2,2] s d y y fun a s=>?_
 obtain ⟨M,a6,u⟩:=bt u
 refine cR s (a1A a6 d.dom (d.envAt 2 y) (d.envAt 1 y)) (j3 call30 y) y ?_
 rintro bE bn w a a8 ⟨aq,an,aC,rfl,a9,a7⟩ s
 have d:=(d.callN a8 a9).addE (e:=j6 aC M.1.Channels) a7
 refine rn0 3 s y fun a s=>wa [.slice none ([]:List Channel).length 0] s d zeroValue29 fun a3 a w s d=>ws [sl aq an M.1.Channels] s d 0 y y y s9 fun a w s d=>rz0 1 s y fun a s=>l3 (sz0 2 s y fun a s=>?_)
 refine cd s u y (fun u=>?_) fun u=>?_
 ·refine sr (sv s (A8 (vs:=[]) a6n y y) y fun a s=>?_)
  refine mv s y y fun a s=>ws Z21 s d 2 y y y C1 fun a w s d=>rz0 1 s y fun a s=>?_
  obtain rfl:=oi u
  have d:=(d.nilRow Channel 73).nilRow Change 43
  exact t7 (j4 (Y7 s y (D8 d 4 y y H4 C1 y) (F3 y) (d.ret ⟨none,0,[],none,0,[],y,(d.outs [1,0] (by decide) y),(d.envAt 1 y),(d.envAt 0 y)⟩)))
 refine sk (l3 (sz 4 [4] s d y y fun a s=>?_))
 refine cd s u y (fun u=>?_) fun u=>?_
 ·refine sr (sv s (A8 (vs:=[]) a6n y y) y fun a s=>?_)
  refine ws Z21 s d 2 y y y C1 fun a w s d=>rz0 1 s y fun a s=>?_
  obtain rfl:=oi u
  have d:=(d.nilRow Channel 73).nilRow Change 43
  exact t7 (j4 (Y7 s y (D8 d 4 y y H4 C1 y) (F3 y) (d.ret ⟨none,0,[],none,0,[],y,(d.outs [1,0] (by decide) y),(d.envAt 1 y),(d.envAt 0 y)⟩)))
 refine sk (l3 (sn 2 [0,3] s d y y fun a s=>?_))
 obtain ⟨N,ba,u⟩:=bt u
 obtain ⟨bo,d⟩:=C8 (α:=Channel) d 1 y 0 y
 refine cR s (a0p ba d.dom (d.envAt 0 y) (d.envAt 2 y)) (j3 call14 y) y ?_
 rintro bG aH w a bc ⟨p34,ao,ac,rfl,bd,bb⟩ s
 have d:=(d.callN bc bd).addE (e:=j6 ac N.1.Channels) bb
 refine rn0 3 s y fun a s=>wa [.slice none ([]:List Channel).length 0] s d zeroValue29 fun a4 a w s d=>ws [sl p34 ao N.1.Channels] s d 0 y y y s9 fun a w s d=>rz0 1 s y fun a s=>sz0 2 s y fun a s=>cd s u y (fun u=>?_) fun u=>?_
 ·refine sr (sv s (A8 (vs:=[]) a6n y y) y fun a s=>?_)
  refine mv s y y fun a s=>ws Z21 s d 3 y y y C1 fun a w s d=>rz0 1 s y fun a s=>?_
  obtain rfl:=oi u
  have d:=(d.nilRow Channel 73).nilRow Change 43
  exact t7 (j4 (Y7 s y (D8 d 5 y y H4 C1 y) (F3 y) (d.ret ⟨none,0,[],none,0,[],y,(d.outs [1,0] (by decide) y),(d.envAt 1 y),(d.envAt 0 y)⟩)))
 refine sk (l3 ?_)
 obtain ⟨i,be,u⟩:=bt u
 obtain ⟨G,bg,u⟩:=bt u
 obtain ⟨x,bi,u⟩:=bt u
 refine C7 (fun a w=>∃ X f h c g p50 p64,Sl 66 [(2,pt q),(4,pt F)] a∧Wd ⟨w0,S0,[]⟩ X [.box q [sl p50 c i.Channels,sl p64 g x] 65,.box F Z21 65,.row p50 i.Channels.length c f 73 5,.row p64 x.length g h 43 14] [Sq none 0 ([]:List Channel),Sq none 0 ([]:List Change),j6 f i.Channels,j6 h x] w) ?_ ?_
 ·refine a7h (n:=13) (Φ:=fun l a w=>∃ m f k h c o g p50 p56 p64 S,SlF 66 (D40t1 q aB F) (D40t2 q m c8 h1 C k3 k5 c o g x p2 p4 p50 p56 p64 p9 i G) l a∧Wd ⟨w0,S0,[]⟩ S [.box a4 [sl p34 ao N.1.Channels] 29,.row p34 N.1.Channels.length ao ac 73 5,.box a3 [sl aq an M.1.Channels] 29,.box F Z21 65,.box aB (C43 c8 p9 C) 43,((bif l 12 then .box q [sl p50 c i.Channels,sl p64 g x] 65 else (bif l 10 then .box q [sl p50 c i.Channels,sl p4 k5 h1.Changes] 65 else .box q (C65 h1 p2 k3 p4 k5) 65)):Res),((bif l 2 then .row p50 i.Channels.length c f 73 5 else emp):Res),((bif l 8 then .row p64 x.length g h 43 14 else (bif l 5 then .row p56 G.length o k 43 14 else emp)):Res),((bif l 7 then .row (ad m) ([c8]:List Change).length ([c8]:List Change).length (C43 c8 p9 C) 43 14 else emp):Res)] [j6 ac N.1.Channels,Sq aq an M.1.Channels,j6 aC M.1.Channels,Sq p9 C c8.Epoch.Response.Stages,Sq p4 k5 h1.Changes,Sq p2 k3 h1.Base.Channels,a6b (l 2) (j6 f i.Channels),a6b (l 5) (j6 k G),a6b (l 7) (j6 (C43 c8 p9 C) ([c8]:List Change)),a6b (l 8) (j6 h x)] w) [1,2,3,1,2,4,1,2,5,4,6,7,8] (by kernel_rfl) y (by kernel_rfl) ?_ (U5.succ (U5.succ (U5.succ (U5.succ (U5.succ (U5.succ (U5.succ (U5.succ (U5.succ (U5.succ (U5.succ (U5.succ (U5.succ U5.zero ?_) ?_) ?_) ?_) ?_) ?_) ?_) ?_) ?_) ?_) ?_) ?_) ?_) ?_
  ·obtain ⟨m,f,k,h,c,o,g,p50,p56,p64,_⟩:∃ (m:Nat) (f:List Value) (k:List Value) (h:List Value) (c:Nat) (o:Nat) (g:Nat) (p50:Option Addr) (p56:Option Addr) (p64:Option Addr),True:=⟨0,[],[],[],0,0,0,none,none,none,j8⟩
   have d:=((d.drew).emp).emp
   have d:=((d.emp).noE (j6 h x)).noE (j6 (C43 c8 p9 C) ([c8]:List Change))
   have d:=(d.noE (j6 k G)).noE (j6 f i.Channels)
   exact ⟨m,f,k,h,c,o,g,p50,p56,p64,aH,SlF.init (s.wk y) (by kernel_rfl),d.gt [3,4,5,6,7,8,0,1,2] [4,5,6,7,8,9,0,1,2,3] y y⟩
  ·intro l hi hp hc a w ⟨m,f,k,h,c,o,g,p50,p56,p64,S,hS,d⟩
   refine a0F hS (.b (t:=2) y .nil) y y j8 (l7 (o':=0) E7 y s9 y y y) (y) 0 y fun a hS=>⟨m,f,k,h,c,o,g,p50,p56,p64,S,hS,d⟩
  ·intro l hi hp hc a w ⟨m,f,k,h,c,o,g,p50,p56,p64,S,hS,d⟩
   have al:=d
   have z:=Y5 hc 11 hi y
   have A:=Y5 hc 12 z y
   have I:=Y5 hc 9 hi y
   have B:=Y5 hc 10 I y
   have d:=d.fixR 5 (r':=.box q (C65 h1 p2 k3 p4 k5) 65) y ((bF A).trans ((bF B)))
   have bj:=hp 0 y
   refine a0F hS (.v (t:=39) 0 y bj .nil) y y j8 (Y0 (d.ownAt 5 y) y D4 s9 y y) (y) 1 y fun a hS=>⟨m,f,k,h,c,o,g,p50,p56,p64,S,hS,al⟩
  ·intro l hi hp hc a w ⟨m,f,k,h,c,o,g,p50,p56,p64,S,hS,d⟩
   have aD:=hp 1 y
   refine a2T y ?_
   have s:=hS.open_ (.v (t:=40) 1 y aD .nil)
   refine cR s (a6K be d.dom (d.envAt 5 y)) (j3 call48 y) y ?_
   rintro bB aw w a aJ ⟨p50,c,f,rfl,aK,bf⟩ s
   have d:=(d.callN aJ aK).addE (e:=j6 f i.Channels) bf
   have z:=Y5 hc 11 hi y
   have A:=Y5 hc 12 z y
   have I:=Y5 hc 9 hi y
   have B:=Y5 hc 10 I y
   have d:=((d.fixR 6 (r':=.box q (C65 h1 p2 k3 p4 k5) 65) y ((bF A).trans ((bF B)))).fixR 6 (r':=(bif l 12 then .box q [sl p50 c i.Channels,sl p64 g x] 65 else (bif l 10 then .box q [sl p50 c i.Channels,sl p4 k5 h1.Changes] 65 else .box q (C65 h1 p2 k3 p4 k5) 65))) y ((bF A).trans ((bF B))).symm).opt 0 y true
   exact nl ⟨m,f,k,h,c,o,g,p50,p56,p64,aw,hS.close (.v (t:=40) 1 y aD .nil) s y (.same (.same (.here (.same (.same (.same (.same (.same (.same (.same (.same .nil))))))))))) 2 y,d.gt [1,2,3,4,5,6,0,8,9] [2,3,4,5,6,7,0,9,10,11] y y⟩
  ·intro l hi hp hc a w ⟨m,f,k,h,c,o,g,p50,p56,p64,S,hS,d⟩
   refine a0F hS (.b (t:=2) y .nil) y y j8 (l7 (o':=1) E7 y L2 y y y) (y) 3 y fun a hS=>⟨m,f,k,h,c,o,g,p50,p56,p64,S,hS,d⟩
  ·intro l hi hp hc a w ⟨m,f,k,h,c,o,g,p50,p56,p64,S,hS,d⟩
   have al:=d
   have z:=Y5 hc 11 hi y
   have A:=Y5 hc 12 z y
   have I:=Y5 hc 9 hi y
   have B:=Y5 hc 10 I y
   have d:=d.fixR 5 (r':=.box q (C65 h1 p2 k3 p4 k5) 65) y ((bF A).trans ((bF B)))
   have bk:=hp 3 y
   refine a0F hS (.v (t:=42) 3 y bk .nil) y y j8 (P6 (d.ownAt 5 y) y P1 y) (y) 4 y fun a hS=>⟨m,f,k,h,c,o,g,p50,p56,p64,S,hS,al⟩
  ·intro l hi hp hc a w ⟨m,f,k,h,c,o,g,p50,p56,p64,S,hS,d⟩
   have aF:=hp 4 y
   refine a2T y ?_
   have s:=hS.open_ (.v (t:=43) 4 y aF .nil)
   refine cR s (a3d bg d.dom (d.envAt 4 y)) (j3 call80 y) y ?_
   rintro bC ax w a aL ⟨p56,o,k,rfl,aM,bh⟩ s
   have d:=(d.callN aL aM).addE (e:=j6 k G) bh
   have ab:=Y5 hc 8 hi y
   have d:=(d.fixR 0 (r':=(bif l 8 then .row p64 x.length g h 43 14 else .row p56 G.length o k 43 14)) y ((bF ab)).symm).opt 0 y true
   exact nl ⟨m,f,k,h,c,o,g,p50,p56,p64,ax,hS.close (.v (t:=43) 4 y aF .nil) s y (.same (.same (.same (.same (.same (.here (.same (.same (.same (.same (.same .nil))))))))))) 5 y,d.gt [1,2,3,4,5,6,7,0,9] [2,3,4,5,6,7,8,0,10,11] y y⟩
  ·intro l hi hp hc a w ⟨m,f,k,h,c,o,g,p50,p56,p64,S,hS,d⟩
   refine a0F hS (.b (t:=3) y .nil) y y j8 (Y0 (d.ownAt 4 y) y F1 A0 y y) (y) 6 y fun a hS=>⟨m,f,k,h,c,o,g,p50,p56,p64,S,hS,d⟩
  ·intro l hi hp hc a w ⟨m,f,k,h,c,o,g,p50,p56,p64,S,hS,d⟩
   have aG:=hp 6 y
   refine a2T y ?_
   have s:=hS.open_ (.v (t:=45) 6 y aG .nil)
   refine q8 (α:=Change) (vs:=[V43 c8 p9 C]) (cs:=(C43 c8 p9 C)) (xs:=([c8]:List Change)) s d a5R y y y y y y ⟨⟨_,_,_,_,_,_,_,_,_,_,_,_,_,_,y,y,y,y,y,y,y,y,y,y,y,y,y,y,⟨_,_,_,y,d.envAt 3 y⟩⟩,y⟩ y j8 y fun m a w s d=>?_
   have d:=d.opt 0 y true
   exact nl ⟨m,f,k,h,c,o,g,p50,p56,p64,S,hS.close (.v (t:=45) 6 y aG .nil) s y (.same (.same (.same (.same (.same (.same (.same (.here (.same (.same (.same .nil))))))))))) 7 y,d.gt [1,2,3,4,5,6,7,8,0] [2,3,4,5,6,7,8,9,0,11] y y⟩
  ·intro l hi hp hc a w ⟨m,f,k,h,c,o,g,p50,p56,p64,S,hS,d⟩
   have aa:=hp 5 y
   have d:=d.fixR 7 (r':=.row p56 G.length o k 43 14) y ((bF hi).trans ((bT aa)))
   have W:=hp 7 y
   have d:=((d.fixR 8 (r':=.row (ad m) ([c8]:List Change).length ([c8]:List Change).length (C43 c8 p9 C) 43 14) y ((bT W))).yes 7 y aa).yes 9 y W
   refine a2T y ?_
   have s:=hS.open_ (.v (t:=44) 5 y aa (.v (t:=46) 7 y W .nil))
   refine F6 (α:=Change) s d a5R 7 y y y 1 y 8 y 0 y bi y j8 ?_
   intro p64 g h a w s d
   have z:=Y5 hc 11 hi y
   have A:=Y5 hc 12 z y
   have B:=Y5 hc 10 hi y
   have d:=((d.fixR 5 (r':=.box q (C65 h1 p2 k3 p4 k5) 65) y ((bF A).trans ((bF B)))).fixR 5 (r':=(bif l 12 then .box q [sl p50 c i.Channels,sl p64 g x] 65 else (bif l 10 then .box q [sl p50 c i.Channels,sl p4 k5 h1.Changes] 65 else .box q (C65 h1 p2 k3 p4 k5) 65))) y ((bF A).trans ((bF B))).symm).fixR 8 (r':=(bif l 7 then .row (ad m) ([c8]:List Change).length ([c8]:List Change).length (C43 c8 p9 C) 43 14 else emp)) y ((bT W)).symm
   have d:=d.opt 0 y true
   exact nl ⟨m,f,k,h,c,o,g,p50,p56,p64,S,hS.close (.v (t:=44) 5 y aa (.v (t:=46) 7 y W .nil)) s y (.same (.same (.same (.same (.same (.same (.same (.same (.here (.same (.same .nil))))))))))) 8 y,d.gt [0,1,2,3,4,5,6,7,8] [4,5,6,7,8,9,10,11,12,0] y y⟩
  ·intro l hi hp hc a w ⟨m,f,k,h,c,o,g,p50,p56,p64,S,hS,d⟩
   refine a0F hS (.b (t:=2) y .nil) y y j8 (l7 (o':=0) E7 y s9 y y y) (y) 9 y fun a hS=>⟨m,f,k,h,c,o,g,p50,p56,p64,S,hS,d⟩
  ·intro l hi hp hc a w ⟨m,f,k,h,c,o,g,p50,p56,p64,S,hS,d⟩
   have z:=Y5 hc 11 hi y
   have A:=Y5 hc 12 z y
   have d:=d.fixR 5 (r':=.box q (C65 h1 p2 k3 p4 k5) 65) y ((bF A).trans ((bF hi)))
   have I:=hp 9 y
   have aE:=hp 2 y
   refine a2T y ?_
   have s:=hS.open_ (.v (t:=41) 2 y aE (.v (t:=48) 9 y I .nil))
   refine ws [sl p50 c i.Channels,sl p4 k5 h1.Changes] s d 5 y y y s9 fun a w s d=>?_
   have d:=d.fixR 5 (r':=(bif l 12 then .box q [sl p50 c i.Channels,sl p64 g x] 65 else .box q [sl p50 c i.Channels,sl p4 k5 h1.Changes] 65)) y ((bF A)).symm
   exact nl ⟨m,f,k,h,c,o,g,p50,p56,p64,S,hS.close0 (.v (t:=41) 2 y aE (.v (t:=48) 9 y I .nil)) s y,d.gt [0,1,2,3,4,5,6,7,8] [0,1,2,3,4,5,6,7,8,9] y y⟩
  ·intro l hi hp hc a w ⟨m,f,k,h,c,o,g,p50,p56,p64,S,hS,d⟩
   refine a0F hS (.b (t:=2) y .nil) y y j8 (l7 (o':=1) E7 y L2 y y y) (y) 10 y fun a hS=>⟨m,f,k,h,c,o,g,p50,p56,p64,S,hS,d⟩
  ·intro l hi hp hc a w ⟨m,f,k,h,c,o,g,p50,p56,p64,S,hS,d⟩
   have B:=hp 10 y
   have d:=d.fixR 5 (r':=.box q [sl p50 c i.Channels,sl p4 k5 h1.Changes] 65) y ((bF hi).trans ((bT B)))
   have z:=hp 11 y
   have ab:=hp 8 y
   refine a2T y ?_
   have s:=hS.open_ (.v (t:=47) 8 y ab (.v (t:=49) 10 y z .nil))
   refine ws [sl p50 c i.Channels,sl p64 g x] s d 5 y y y L2 fun a w s d=>nl ⟨m,f,k,h,c,o,g,p50,p56,p64,S,hS.close0 (.v (t:=47) 8 y ab (.v (t:=49) 10 y z .nil)) s y,d.gt [0,1,2,3,4,5,6,7,8] [0,1,2,3,4,5,6,7,8,9] y y⟩
  intro l a w hl ⟨m,f,k,h,c,o,g,p50,p56,p64,S,hS,d⟩
  have d:=((d.yes 6 y (hl 2 (by decide))).yes 10 y (hl 8 (by decide))).fixR 5 (r':=.box q [sl p50 c i.Channels,sl p64 g x] 65) y (bT (hl 12 (by decide)))
  have d:=(d.fixR 6 (r':=.row p50 i.Channels.length c f 73 5) y (bT (hl 2 (by decide)))).fixR 7 (r':=.row p64 x.length g h 43 14) y (bT (hl 8 (by decide)))
  have s:=hS.on (.b (t:=2) y (.b (t:=4) y .nil))
  have d:=(d.addE (e:=SlA (α:=Channel) none 0 0 []) K9).addE (e:=SlA (α:=Change) none 0 0 []) K9
  exact ⟨S,f,h,c,g,p50,p64,wj s d [5,3,6,7] [1,0,3,2]⟩
 rintro a w ⟨X,f,h,c,g,p50,p64,s,d⟩
 refine tn (l3 (sz 4 [0] s d y y fun a s=>?_))
 obtain ⟨U,aj,u⟩:=bt u
 refine A7 (fun a w=>∃ T L J Z,Sl 66 [(2,pt q),(4,pt F)] a∧Wd ⟨w0,S0,[]⟩ Z [.box q [sl p50 c i.Channels,sl L J U] 65,.box F Z21 65,.row p50 i.Channels.length c f 73 5,.row L U.length J T 43 14] [Sq none 0 ([]:List Channel),Sq none 0 ([]:List Change),j6 f i.Channels,j6 T U] w) ?_ ?_
 ·refine m6 (u7 (fun E a w=>∃ R K D O,Sl 66 [(2,pt q),(4,pt F),(51,sl K D E.1),(52,iv (x.length:Int)),(53,iv E.2)] a∧Wd ⟨w0,S0,[]⟩ O [.box q [sl p50 c i.Channels,sl K D E.1] 65,.box F Z21 65,.row p50 i.Channels.length c f 73 5,.row K E.1.length D R 43 14] [Sq none 0 ([]:List Channel),Sq none 0 ([]:List Change),j6 f i.Channels,j6 R E.1] w) (x,0) aj ⟨h,p64,g,X,wj s d [0,1,2,3] [0,1,2,3]⟩ ?_)
  clear aj
  repeat clear u
  rintro E a w bm ⟨R,K,D,O,s,d⟩ u az
  refine sz0 1 s y fun a s=>l3 (cd s u y (fun u=>?_) fun u=>?_)
  ·refine sk (l3 (m6 (sn0 1 s y fun a s=>?_)))
   obtain ⟨au,aN,u⟩:=bt u
   obtain ⟨Q,bz,bq,aR,ae,aP,aQ,aO⟩:=d.elemRV (α:=Change) 3 y 3 y aN
   have ak:=s
   have am:=d
   subst aR
   have s:=ak
   have d:=am
   obtain ⟨_,_,_,_,_,_,_,_,_,_,_,_,_,_,rfl,rfl,rfl,rfl,rfl,rfl,rfl,rfl,rfl,rfl,rfl,rfl,rfl,rfl,⟨ar,bv,ap,rfl,af⟩⟩:=aO
   obtain rfl:=af.1
   have d:=d.addE (e:=SlA ar _ ap au.Epoch.Response.Stages) af
   refine sv s (o7 C6 A0 y y ae.1 ae.2 aP) y fun a s=>sv s (I4 (j:=0) (d.ownAt 3 y) y F1 A0 aQ y y) y fun a s=>wa Z18 s d zeroValue43 fun bp a w s d=>av s y y fun a s=>ws (C43 au ar ap) s d 0 y y y A0 fun a w s d=>nl ?_
   obtain ⟨aA,aS,u⟩:=bt u
   obtain ⟨a2,aU,u⟩:=bt u
   obtain ⟨bA,br,aW,ag,bs,aV⟩:=d.elemRK (α:=Change) 4 y 4 y aU
   obtain ⟨_,_,_,_,_,_,_,_,_,_,_,_,_,_,rfl,rfl,rfl,rfl,rfl,rfl,rfl,rfl,rfl,rfl,rfl,rfl,rfl,rfl,⟨a1,bw,a0,rfl,ah⟩⟩:=aV
   obtain rfl:=ah.1
   have d:=d.addE (e:=SlA a1 _ a0 a2.Epoch.Response.Stages) ah
   obtain ⟨V,ai,u⟩:=bt u
   refine C7 (fun a w=>∃ P H,Sl 66 [(2,pt q),(4,pt F),(51,sl (ad Q) D V),(52,iv (x.length:Int)),(53,iv E.2)] a∧Wd ⟨w0,S0,[]⟩ P [.box q [sl p50 c i.Channels,sl (ad Q) D V] 65,.box F Z21 65,.row p50 i.Channels.length c f 73 5,.row (ad Q) V.length D H 43 14] [Sq none 0 ([]:List Channel),Sq none 0 ([]:List Change),j6 f i.Channels,j6 H V] w) ?_ ?_
   ·refine h_c [0,1,2,3] [] d y y (by kernel_rfl) y fun hC d=>gn 4 [0,1,2,3] [1,0] s hC y y y fun a s=>ho 4 y ?_
    refine cR s (a9X aS d.dom (d.envAt 1 y)) (j3 call81 y) y ?_
    rintro bD bl w a aX ⟨bx,bu,aI,rfl,aY,aT⟩ s
    have d:=(d.callN aX aY).addE (e:=j6 aI aA.Epoch.Response.Stages) aT
    refine h_n [1,2,3,4] [] d y y fun hC=>gx s 5 y j8 y hC C6 A0 y y aW ag fun a s=>ho 6 y ?_
    obtain ⟨ay,d⟩:=C8 (α:=Stage) d 0 y 0 y
    refine a5d (α:=Change) s d 4 y 7 y ag y y A0 y ai ⟨_,_,_,_,_,_,_,_,_,_,_,_,_,_,y,y,y,y,y,y,y,y,y,y,y,y,y,y,⟨_,_,_,y,d.envAt 0 y⟩⟩ j8 ?_
    intro H a w s d
    have Y:=Y8 ai
    try have s:=s.fl 51 rfl Y
    try have s:=s.fl 59 rfl Y
    refine h_n [0,1,2,3] [] d y y fun hC=>q9 (by kernel_rfl) ?_
    have d:=d.fixB 1 1 y y Y
    exact ⟨ay,H,wj s d [1,2,3,4] [5,6,7,0]⟩
   rintro a w ⟨P,H,s,d⟩
   refine l9 (tn (j9 (rz0 2 s y fun a s=>?_)))
   exact ⟨_,io u,H,(ad Q),D,P,wj s d [0,1,2,3] [0,1,2,3]⟩
  refine u0 (j5 (j5 (o9 ?_)))
  obtain rfl:=oi u
  have aZ:=az _ y
  subst aZ
  exact tn ⟨R,K,D,O,wj s d [0,1,2,3] [0,1,2,3]⟩
 rintro a w ⟨T,L,J,Z,s,d⟩
 refine tn (sn 1 [0] s d y y fun a s=>?_)
 refine ws [sl p50 c i.Channels,sl L J U] s d 1 y y y C1 fun a w s d=>rz0 1 s y fun a s=>?_
 obtain rfl:=oi u
 exact t7 (Y7 s y (D8 d 1 y y H4 C1 y) (F3 y) (d.ret ⟨p50,c,f,L,J,T,y,(d.outs [2,3] (by decide) y),(d.envAt 2 y),(d.envAt 3 y)⟩))
end Go.Proofs.YteanekphncdhiaaGreat.Wk

/- The walks of RevisionExact, part 2: each Go function computes what its plain program computes. Printed by a program of ours. -/
import Derived.Test.YteanekphncdhiaaGreatProg
import Derived.Test.YteanekphncdhiaaGreatDat
import Derived.Test.YteanekphncdhiaaGreatSh
import Derived.Test.YteanekphncdhiaaGreatLa1
import Derived.Test.YteanekphncdhiaaGreatLa2
import Derived.Test.YteanekphncdhiaaGreatLibCh
import Derived.KernelRfl
import Derived.Test.YteanekphncdhiaaGreatLb1
import Derived.Shelf.SlLaysF0
import Derived.Test.YteanekphncdhiaaGreatWRevisionExact1
namespace Go.Proofs.YteanekphncdhiaaGreat.Wk
open Go Go.RowKit Go.Proofs Go.Proofs.YteanekphncdhiaaGreat.Sh Go.Proofs.Tryz
set_option linter.unusedVariables false
set_option linter.unusedSimpArgs false
set_option maxHeartbeats 4000000
set_option maxRecDepth 100000
theorem a2P {w0 S0 p2 k3 c4 g7 f8 i s1} {del6:Span→Option Bool} {r} (u:O6 s1 del6=some r) (hS:Dm S0 w0) (hin:Ins S0 w0 [.row p2 s1.length k3 c4 52 2]) (h5:(j6 c4 s1).p S0 w0) (am:(a6o Tryz.prog g7 f8 i del6).p S0 w0):Ck Tryz.prog 171 #[sl p2 k3 s1,.func (.func g7) f8.toArray i.toArray] w0 S0 (J3 [.row p2 s1.length k3 c4 52 2]) A9 r:=by
 refine enI 42 func171 y hS hin y y y fun a s d=>?_
 have d:=((d.addE h5).addE (e:=a2S s1.length s1) a6M).addE am
 refine sz0 1 s y fun a s=>sn0 2 s y fun a s=>?_
 obtain ⟨ak,an,u⟩:=bt u
 refine cV s d (a3f an d.bdom (d.bRow 0 y 2 y) (d.bE 0 y)) (j3 call191 y) y fun a w s d=>rz0 1 s y fun a s=>l3 (sz0 2 s y fun a s=>?_)
 refine cd s u y (fun u=>?_) fun u=>?_
 ·refine sz0 2 s y fun a s=>?_
  obtain rfl:=oi u
  exact t7 (j4 (rt s y (d.ret ⟨p2,k3,c4,y,(d.outs [0] (by decide) y),(d.envAt 2 y)⟩)))
 refine sk (l3 (sn0 2 s y fun a s=>?_))
 obtain ⟨ap,ao,u⟩:=bt u
 refine sv s (w9 y ao) y fun a s=>nl ?_
 obtain ⟨h,G,u⟩:=bt u
 refine A7 (fun a w=>∃ o z,Sl 42 [(0,sl p2 k3 h.1),(5,iv h.2)] a∧Wd ⟨w0,S0,J3 [.row p2 s1.length k3 c4 52 2]⟩ z [.row p2 h.1.length k3 o 52 2] [j6 o h.1,a2S s1.length h.1] w) ?_ ?_
 ·refine m6 (u7 (fun b a w=>∃ g f,Sl 42 [(0,sl p2 k3 b.1),(1,.func (.func g7) f8.toArray i.toArray),(5,iv b.2.1),(6,iv b.2.2)] a∧Wd ⟨w0,S0,J3 [.row p2 s1.length k3 c4 52 2]⟩ f [.row p2 b.1.length k3 g 52 2] [a6o Tryz.prog g7 f8 i del6,j6 g b.1,a2S s1.length b.1] w) (s1,ak,ap) G ⟨c4,S0,wj s d [0] [0,2,1]⟩ ?_)
  clear G
  repeat clear u
  rintro b a w L ⟨g,f,s,d⟩ u K
  refine l3 (sz0 4 s y fun a s=>?_)
  refine cd s u y (fun u=>?_) fun u=>?_
  ·refine sk (l3 (m6 (sn0 2 s y fun a s=>?_)))
   obtain ⟨al,O,u⟩:=bt u
   obtain ⟨n,aB,av,T,A,Q,R,P⟩:=d.elemRV (α:=Span) 0 y 1 y O
   have H:=s
   have I:=d
   subst T
   have s:=H
   have d:=I
   obtain ⟨_,_,rfl,rfl,rfl⟩:=P
   refine sv s (o7 o0 u5 y y A.1 A.2 Q) y fun a s=>sv s (I4 (j:=0) (d.ownAt 0 y) y H3 u5 R y y) y fun a s=>wa [iv 0,iv 0] s d zeroValue52 fun au a w s d=>ws (C52 al) s d 0 y y y u5 fun a w s d=>nl (sn 2 [0] s d y y fun a s=>?_)
   obtain ⟨ar,U,u⟩:=bt u
   refine x9 s ((d.bE 0 y).2 a2O.rfl' d.bdom ⟨_,_,y,y,y⟩ U) (a4A (d.bE 0 y).1 y y) j8 y y ?_
   rintro aD aq w a V rfl s
   have d:=d.callB V
   refine rz0 1 s y fun a s=>A7 (fun a w=>∃ (c:(List Span)) (x:Int) (l k:_),M4 b c x=some L∧Sl 42 [(0,sl (ad n) k3 c),(1,.func (.func g7) f8.toArray i.toArray),(5,iv x),(6,iv b.2.2)] a∧Wd ⟨w0,S0,J3 [.row (ad n) s1.length k3 c4 52 2]⟩ k [.row (ad n) c.length k3 l 52 2] [a6o Tryz.prog g7 f8 i del6,j6 l c,a2S s1.length c] w) ?_ ?_
   ·refine cd s u y (fun u=>?_) fun u=>?_
    ·refine sn 3 [0] s d y y fun a s=>?_
     obtain ⟨aE,X,u⟩:=bt u
     obtain ⟨aC,aw,B,C,ax,Y⟩:=d.elemRK (α:=Span) 1 y 1 y X
     obtain ⟨_,_,rfl,rfl,rfl⟩:=Y
     refine sv s (o7 o0 u5 y y B.1 B.2 C) y fun a s=>?_
     obtain ⟨J,t,u⟩:=bt u
     have Z:=d.envAt 2 y
     refine a5d (α:=Span) s d 1 y 1 y C y y u5 y t ⟨_,_,y,y,y⟩ j8 ?_
     intro M a w s d
     have d:=d.addE (e:=a2S s1.length J) (b6e (w:=w) (S:=S0) Z t)
     have D:=Y8 t
     try have s:=s.fl 0 rfl D
     try have s:=s.fl 30 rfl D
     refine nl (j9 (rn0 2 s y fun a s=>?_))
     obtain ⟨ag,aa,u⟩:=bt u
     refine sv s (w9 y aa) y fun a s=>nl ⟨J,ag,M,f,u,wj s d [1] [2,1,0]⟩
    exact sk ⟨b.1,b.2.1,g,f,u,wj s d [1] [0,1,2]⟩
   rintro a w ⟨c,x,l,k,u,s,d⟩
   refine l9 (tn (j9 (rn0 2 s y fun a s=>?_)))
   obtain ⟨ay,W,u⟩:=bt u
   refine sv s (w9 y W) y fun a s=>nl ⟨_,io u,l,k,wj s d [0] [0,1,2]⟩
  refine u0 (j5 (j5 (o9 ?_)))
  obtain rfl:=oi u
  have ab:=K _ y
  subst ab
  exact tn ⟨g,f,wj s d [0] [1,2]⟩
 rintro a w ⟨o,z,s,d⟩
 refine tn (sn0 2 s y fun a s=>?_)
 obtain ⟨ah,m,u⟩:=bt u
 obtain ⟨aA,az,E⟩:=X9 (α:=Span) d 0 y m
 refine sv s (U4 o0 u5 y ⟨_,y⟩ (by exact y) E) y fun a s=>?_
 obtain ⟨ai,v,u⟩:=bt u
 have ac:=d.envAt 1 y
 refine b0N (α:=Span) (z0:=((⟨0,0⟩:Span):Span)) s d 0 y 0 y a3z ⟨_,_,y,y,y⟩ m E y j8 ?_
 intro N a w s d
 rw [Option.some.inj v] at d
 have d:=d.addE (e:=a2S s1.length ai) (by have q:=b4I (w:=w) (S:=S0) (S':=S0) (w':=w) (ys:=List.replicate ah.length ((⟨0,0⟩:Span):Span)) ac m;rw [Option.some.inj v] at q;exact q)
 have F:=(a5k m v)
 try have s:=s.fl 0 rfl F
 try have s:=s.fl 36 rfl F
 refine nl (sn0 2 s y fun a s=>?_)
 obtain ⟨aj,ae,u⟩:=bt u
 obtain ⟨d,af⟩:=b2J d 0 y 1 y ae
 refine sv s (U4 o0 u5 y (by exact y) ⟨_,y⟩ af) y fun a s=>rz0 1 s y fun a s=>?_
 obtain rfl:=oi u
 exact q1 s y (d.ret ⟨p2,k3,(N.take (aj.length * 2)),y,(d.outs [0] (by decide) y),(d.envAt 0 y)⟩)
theorem b0L {w0 S0 s1 r} (u:a9g s1=some r) (hS:Dm S0 w0):Ck Tryz.prog 140 #[V52 s1] w0 S0 [] o5 r:=by
 refine en 8 func140 y hS y y y fun a s d=>sr (wb (C52 s1) s d y fun b2 a w s d=>?_)
 refine rz0 1 s y fun a s=>sz 6 [0,0] s d y y fun a s=>?_
 obtain rfl:=oi u
 exact q1 s y (d.ret y)
theorem b0c {w0 S0 s1 r} (u:a4f s1=some r) (hS:Dm S0 w0):Ck Tryz.prog 173 #[V52 s1] w0 S0 [] o5 r:=by
 refine en 6 func173 y hS y y y fun a s d=>sr (wb (C52 s1) s d y fun b2 a w s d=>?_)
 refine rz0 1 s y fun a s=>sn 1 [0] s d y y fun a s=>?_
 obtain ⟨b,h3,u⟩:=bt u
 refine cV s d (b0L h3 d.bdom) (j3 call140 y) y fun a w s d=>rz0 2 s y fun a s=>?_
 obtain rfl:=oi u
 exact q1 s y (d.ret y)
theorem b0b (S0:Nat→Prop) (w0:World):(a6o Tryz.prog 173 [] [] a4f).p S0 w0:=by
  refine ⟨call173,?_⟩
  rintro S1 w1 hk hS c0 x0 r1 ⟨_,_,rfl,rfl,rfl⟩ hf
  exact b0c hf hS
end Go.Proofs.YteanekphncdhiaaGreat.Wk
namespace Go.Proofs
open Go Go.Shelf Go.RowKit Go.Lib Go.Sort
def Tryz.sort174_ren:Go.Shelf.Ren:=⟨fun | 6=>174 | 15=>132 | 14=>192 | 28=>157 | 29=>158 | 20=>198 | 21=>199 | 22=>200 | 23=>201 | 24=>202 | 25=>203 | 26=>204 | 27=>205 | 46=>207 | 47=>184 | 48=>185 | 49=>208 | 50=>209 | 57=>210 | n=>n,fun | 22=>50 | 24=>52 | 25=>201 | 3=>3 | 39=>165 | 0=>0 | 53=>188 | 55=>190 | 4=>4 | 46=>182 | 45=>181 | 50=>101 | 5=>5 | 9=>9 | 66=>204 | 70=>208 | 76=>216 | 77=>127 | n=>n,fun | n=>n⟩
theorem Tryz.sort174:Go.Proofs.SlLaysF0.n6 Tryz.prog Tryz.sort174_ren where
  mixed:=by kernel_rfl
  f6:=⟨Tryz.f174.name,by decide,Tryz.func174.trans (congrArg some (by kernel_rfl))⟩
  f14:=⟨Tryz.f192.name,by decide,Tryz.func192.trans (congrArg some (by kernel_rfl))⟩
  f15:=Tryz.func132.trans (congrArg some (by kernel_rfl))
  f20:=⟨Tryz.f198.name,by decide,Tryz.func198.trans (congrArg some (by kernel_rfl))⟩
  f21:=⟨Tryz.f199.name,by decide,Tryz.func199.trans (congrArg some (by kernel_rfl))⟩
  f22:=⟨Tryz.f200.name,by decide,Tryz.func200.trans (congrArg some (by kernel_rfl))⟩
  f23:=⟨Tryz.f201.name,by decide,Tryz.func201.trans (congrArg some (by kernel_rfl))⟩
  f24:=⟨Tryz.f202.name,by decide,Tryz.func202.trans (congrArg some (by kernel_rfl))⟩
  f25:=⟨Tryz.f203.name,by decide,Tryz.func203.trans (congrArg some (by kernel_rfl))⟩
  f26:=⟨Tryz.f204.name,by decide,Tryz.func204.trans (congrArg some (by kernel_rfl))⟩
  f27:=⟨Tryz.f205.name,by decide,Tryz.func205.trans (congrArg some (by kernel_rfl))⟩
  f28:=Tryz.func157.trans (congrArg some (by kernel_rfl))
  f29:=Tryz.func158.trans (congrArg some (by kernel_rfl))
  f46:=⟨Tryz.f207.name,by decide,Tryz.func207.trans (congrArg some (by kernel_rfl))⟩
  f47:=Tryz.func184.trans (congrArg some (by kernel_rfl))
  f48:=Tryz.func185.trans (congrArg some (by kernel_rfl))
  f49:=⟨Tryz.f208.name,by decide,Tryz.func208.trans (congrArg some (by kernel_rfl))⟩
  f50:=⟨Tryz.f209.name,by decide,Tryz.func209.trans (congrArg some (by kernel_rfl))⟩
  f57:=⟨Tryz.f210.name,by decide,Tryz.func210.trans (congrArg some (by kernel_rfl))⟩
  t0:=Tryz.underlying0
  a0:=Tryz.isAgg0
  z0:=Tryz.sizeOf0
  v0:=Tryz.zeroValue0
  t3:=Tryz.underlying3
  a3:=Tryz.isAgg3
  z3:=Tryz.sizeOf3
  v3:=Tryz.zeroValue3
  t4:=Tryz.underlying4
  a4:=Tryz.isAgg4
  z4:=Tryz.sizeOf4
  v4:=Tryz.zeroValue4
  t5:=Tryz.underlying5
  a5:=Tryz.isAgg5
  z5:=Tryz.sizeOf5
  v5:=Tryz.zeroValue5
  t9:=Tryz.underlying9
  a9:=Tryz.isAgg9
  z9:=Tryz.sizeOf9
  v9:=Tryz.zeroValue9
  t22:=Tryz.underlying50
  a22:=Tryz.isAgg50
  z22:=Tryz.sizeOf50
  v22:=Tryz.zeroValue50
  t25:=Tryz.underlying201
  a25:=Tryz.isAgg201
  z25:=Tryz.sizeOf201
  v25:=Tryz.zeroValue201
  t39:=Tryz.underlying165
  a39:=Tryz.isAgg165
  z39:=Tryz.sizeOf165
  v39:=Tryz.zeroValue165
  t45:=Tryz.underlying181
  a45:=Tryz.isAgg181
  z45:=Tryz.sizeOf181
  v45:=Tryz.zeroValue181
  t46:=Tryz.underlying182
  a46:=Tryz.isAgg182
  z46:=Tryz.sizeOf182
  v46:=Tryz.zeroValue182
  t50:=Tryz.underlying101
  a50:=Tryz.isAgg101
  z50:=Tryz.sizeOf101
  v50:=Tryz.zeroValue101
  t53:=Tryz.underlying188
  a53:=Tryz.isAgg188
  z53:=Tryz.sizeOf188
  v53:=Tryz.zeroValue188
  t55:=Tryz.underlying190
  a55:=Tryz.isAgg190
  z55:=Tryz.sizeOf190
  v55:=Tryz.zeroValue190
  t66:=Tryz.underlying204
  a66:=Tryz.isAgg204
  z66:=Tryz.sizeOf204
  v66:=Tryz.zeroValue204
  t70:=Tryz.underlying208
  a70:=Tryz.isAgg208
  z70:=Tryz.sizeOf208
  v70:=Tryz.zeroValue208
  t76:=Tryz.underlying216
  a76:=Tryz.isAgg216
  z76:=Tryz.sizeOf216
  v76:=Tryz.zeroValue216
  t77:=Tryz.underlying127
  a77:=Tryz.isAgg127
  z77:=Tryz.sizeOf127
  v77:=Tryz.zeroValue127
end Go.Proofs
namespace Go.Proofs.YteanekphncdhiaaGreat.Wk
open Go Go.RowKit Go.Proofs Go.Proofs.YteanekphncdhiaaGreat.Sh Go.Proofs.Tryz
set_option linter.unusedVariables false
set_option linter.unusedSimpArgs false
abbrev a3y (w0:World) (X:List Nat) (p2:Option Addr) (k3:Nat) (x1:(List Span)) (r:(List Span)):(Nat→Prop)→World→Value→Prop:=fun S w v=>∃ a,v=.tuple #[]∧Outs X w0 S w [.row p2 r.length k3 a 52 2]∧(j6 a r).p S w∧(a2S x1.length r).p S w
theorem a3x {w0 S0 p2 k3 c4 g7 a x1} {cmp6:Span→Span→Option Int} {r} (u:U8 x1 cmp6=some r) (hS:Dm S0 w0) (hin:Ins S0 w0 [.row p2 x1.length k3 c4 52 2]) (h5:(j6 c4 x1).p S0 w0) (b:(a8j Tryz.prog g7 [] a cmp6).p S0 w0):Calls Tryz.prog 174 #[sl p2 k3 x1,.func (.func g7) #[] a.toArray] w0 (Ret (J3 [.row p2 x1.length k3 c4 52 2]) w0 S0 (a3y w0 (J3 [.row p2 x1.length k3 c4 52 2]) p2 k3 x1 r)):=by
 exact b3w (α:=Span) (T:=52) Tryz.sort174 H3 u5 (fun _=>rfl) (by decide) (fun d=>(C52 d)) (by rintro S w cs d ⟨_,_,rfl,rfl,rfl⟩;rfl) u hS hin h5 b
theorem a7l {w0 S0 x1 r} (u:cmp_isNaN_int x1=some r) (hS:Dm S0 w0):Ck Tryz.prog 193 #[iv x1] w0 S0 [] o5 r:=by
 refine en 6 func193 y hS y y y fun a s d=>sz0 1 s y fun a s=>sz0 4 s y fun a s=>?_
 obtain rfl:=oi u
 exact q1 s y (d.ret y)
theorem a9F {w0 S0 x1 y2 r} (u:cmp_Compare_int x1 y2=some r) (hS:Dm S0 w0):Ck Tryz.prog 176 #[iv x1,iv y2] w0 S0 [] K7 r:=by
 refine en 20 func176 y hS y y y fun a s d=>sz0 1 s y fun a s=>sn0 1 s y fun a s=>?_
 obtain ⟨e,h3,u⟩:=bt u
 refine cV s d (a7l h3 d.bdom) (j3 call193 y) y fun a w s d=>rz0 1 s y fun a s=>sn0 1 s y fun a s=>?_
 obtain ⟨c,b,u⟩:=bt u
 refine cV s d (a7l b d.bdom) (j3 call193 y) y fun a w s d=>rz0 1 s y fun a s=>l3 (sz0 1 s y fun a s=>?_)
 refine cd s u y (fun u=>?_) fun u=>?_
 ·refine l3 (sz0 1 s y fun a s=>?_)
  refine cd s u y (fun u=>?_) fun u=>?_
  ·refine sz0 1 s y fun a s=>?_
   obtain rfl:=oi u
   exact t7 (j4 (j4 (rt s y (d.ret y))))
  refine sk (sz0 1 s y fun a s=>?_)
  obtain rfl:=oi u
  exact t7 (j4 (rt s y (d.ret y)))
 refine sk (l3 (sz0 1 s y fun a s=>?_))
 refine cd s u y (fun u=>?_) fun u=>?_
 ·refine sz0 1 s y fun a s=>?_
  obtain rfl:=oi u
  exact t7 (j4 (rt s y (d.ret y)))
 refine sk (l3 (sz0 3 s y fun a s=>?_))
 refine cd s u y (fun u=>?_) fun u=>?_
 ·refine sz0 1 s y fun a s=>?_
  obtain rfl:=oi u
  exact t7 (j4 (rt s y (d.ret y)))
 refine sk (l3 (sz0 3 s y fun a s=>?_))
 refine cd s u y (fun u=>?_) fun u=>?_
 ·refine sz0 1 s y fun a s=>?_
  obtain rfl:=oi u
  exact t7 (j4 (rt s y (d.ret y)))
 refine sk (sz0 1 s y fun a s=>?_)
 obtain rfl:=oi u
 exact q1 s y (d.ret y)
theorem b0e {w0 S0 a1 b2 r} (u:a2u a1 b2=some r) (hS:Dm S0 w0):Ck Tryz.prog 175 #[V52 a1,V52 b2] w0 S0 [] K7 r:=by
 refine en 10 func175 y hS y y y fun a s d=>sr (wb (C52 a1) s d y fun b3 a w s d=>?_)
 refine wb (C52 b2) s d y fun b4 a w s d=>rz0 1 s y fun a s=>sn 4 [1,0] s d y y fun a s=>?_
 obtain ⟨b,h5,u⟩:=bt u
 refine cV s d (a9F h5 d.bdom) (j3 call176 y) y fun a w s d=>rz0 1 s y fun a s=>?_
 obtain rfl:=oi u
 exact q1 s y (d.ret y)
theorem b0d (S0:Nat→Prop) (w0:World):(a8j Tryz.prog 175 [] [] a2u).p S0 w0:=by
  refine ⟨call175,?_⟩
  rintro S1 w1 hk hS c0 c1 x0 x1 r1 ⟨_,_,rfl,rfl,rfl⟩ h1 hf
  obtain ⟨_,_,rfl,rfl,rfl⟩:=h1
  exact b0e hf hS
theorem a5c {w0 S0 p2 k3 l1 r} (u:a3h l1=some r) (hS:Dm S0 w0) (h4:(Sq p2 k3 l1).p S0 w0):Ck Tryz.prog 137 #[sl p2 k3 l1] w0 S0 [] A9 r:=by
 refine en 54 func137 y hS y y y fun a s d=>?_
 have d:=d.addE h4
 refine sz0 1 s y fun a s=>sn0 1 s y fun a s=>?_
 obtain ⟨a4,h5,u⟩:=bt u
 refine cR s (a4k h5 d.dom (d.envAt 0 y)) (j3 call172 y) y ?_
 rintro bi a5 w a aS ⟨p7,k8,aQ,rfl,aT,h9⟩ s
 have d:=(d.callN aS aT).addE (e:=j6 aQ a4) h9
 obtain ⟨aP,aU,u⟩:=bt u
 refine cR s (a2P aU d.dom (d.ins [0] (by decide) y) (d.envAt 0 y) (b0b _ _)) (j3 call171 y) y ?_
 rintro bj a6 w a aW ⟨af,t,aR,rfl,aX,aV⟩ s
 have d:=(d.callO [0] [] (by decide) y aW aX).addE (e:=j6 aR aP) aV
 refine rz0 1 s y fun a s=>sn0 1 s y fun a s=>?_
 obtain ⟨b,aY,u⟩:=bt u
 refine cR s (a3x aY d.dom (d.ins [0] (by decide) y) (d.envAt 0 y) (b0d _ _)) (j3 call174 y) y ?_
 rintro bk ag w a a1 ⟨k,rfl,a2,aZ,a0⟩ s
 have d:=(d.callO [0] [] (by decide) y a1 a2).addE (e:=j6 k b) aZ
 have a3:=a0
 have ae:=Eq.symm a3
 try have s:=s.fl 3 rfl ae
 try have s:=s.fl 11 rfl ae
 refine nl (sz0 1 s y fun a s=>?_)
 refine l3 (sz0 3 s y fun a s=>?_)
 obtain ⟨K,T,u⟩:=bt u
 refine A7 (fun a w=>∃ C H E N,Sl 54 [(4,sl H E K)] a∧Wd ⟨w0,S0,[]⟩ N [.row H K.length E C 52 2] [j6 C K] w) ?_ ?_
 ·refine m6 ?_
  have d:=d.nilRow Span 52
  refine u7 (fun c a w=>∃ n q g i,Sl 54 [(4,sl q g c.1),(13,sl af t b),(14,iv (b.length:Int)),(15,iv c.2)] a∧Wd ⟨w0,S0,[]⟩ i [.row q c.1.length g n 52 2,.row af b.length t k 52 2] [j6 n c.1,j6 k b] w) (([]:List Span),0) T ⟨[],none,0,ag,wj s d [0,1] [0,1]⟩ ?_
  clear T
  repeat clear u
  rintro c a w ac ⟨n,q,g,i,s,d⟩ u ab
  refine sz0 1 s y fun a s=>l3 (cd s u y (fun u=>?_) fun u=>?_)
  ·refine sk (l3 (m6 (sr ?_)))
   obtain ⟨z,aj,u⟩:=bt u
   obtain ⟨l,bd,a9,an,Q,al,am,ak⟩:=d.elemRV (α:=Span) 1 y 1 y aj
   have U:=s
   have X:=d
   subst an
   have s:=U
   have d:=X
   obtain ⟨_,_,rfl,rfl,rfl⟩:=ak
   refine sv s (o7 o0 u5 y y Q.1 Q.2 al) y fun a s=>sv s (I4 (j:=0) (d.ownAt 1 y) y H3 u5 am y y) y fun a s=>wa [iv 0,iv 0] s d zeroValue52 fun P a w s d=>ws (C52 z) s d 0 y y y u5 fun a w s d=>nl (sn0 2 s y fun a s=>?_)
   obtain ⟨aa,ao,u⟩:=bt u
   refine sv s (w9 y ao) y fun a s=>nl (l3 ?_)
   obtain ⟨ah,O,u⟩:=bt u
   refine C7 (fun a w=>∃ v,Sl 54 [(4,sl q g c.1),(6,pt P),(7,iv aa),(13,sl (ad l) t b),(14,iv (b.length:Int)),(15,iv c.2),(33,.bool ah)] a∧Wd ⟨w0,S0,[]⟩ v [.box P (C52 z) 52,.row q c.1.length g n 52 2,.row (ad l) b.length t k 52 2] [j6 n c.1,j6 k b] w) ?_ ?_
   ·rcases j0 (decide (0<aa)) with x | x
    ·have L:=D7 O x
     obtain ⟨bf,ap,L⟩:=K3 L
     obtain ⟨a7,aN,ba,aw,ar,au,av,aq⟩:=d.elemRV (α:=Span) 1 y 0 y ap
     have V:=s
     have Y:=d
     subst aw
     have s:=V
     have d:=Y
     obtain ⟨_,_,rfl,rfl,rfl⟩:=aq
     refine h_c [0,1,2] [] d y y (by kernel_rfl) y fun hC d=>gn 3 [0,1,2] [] s hC y y y fun a s=>?_
     have s:=s.bT 23 y x
     refine gn 5 [3,4,5,6,7] [0] s hC y y y fun a s=>gx s 8 y ⟨_,y,y⟩ y hC o0 u5 y y ar au fun a s=>gt s 9 y ⟨_,y,y⟩ y hC (fun w hC=>l7 (o':=aN+1) t8 y m8 y y y) fun a s=>gt s 10 y ⟨_,y,y⟩ y hC (fun w hC=>H5 (j:=1) (hC.ownAt 1 y) y s8 av y) fun a s=>gt s 11 y ⟨_,y,y⟩ y hC (fun w hC=>b2N y y) fun a s=>gT s 12 y y hC y y L fun a s=>q9 (by kernel_rfl) ?_
     exact ⟨i,wj s d [0,1,2] [0,1]⟩
    have ax:=E8 O x
    refine h_c [0,1,2] [] d y y (by kernel_rfl) y fun hC d=>gn 3 [0,1,2] [] s hC y y y fun a s=>?_
    have s:=s.bF 23 y x
    refine gn 9 [3,4,5,6,7,8,9,10,11] [] s hC y y y fun a s=>gF s 12 y y hC y y ax fun a s=>q9 (by kernel_rfl) ?_
    exact ⟨i,wj s d [0,1,2] [0,1]⟩
   rintro a w ⟨v,s,d⟩
   refine tn (A7 (fun a w=>∃ (h:(List Span)) (D I F A:_),a5b c h=some ac∧Sl 54 [(4,sl I F h),(13,sl (ad l) t b),(14,iv (b.length:Int)),(15,iv c.2)] a∧Wd ⟨w0,S0,[]⟩ A [.row I h.length F D 52 2,.row (ad l) b.length t k 52 2] [j6 D h,j6 k b] w) ?_ ?_)
   ·refine cd s u y (fun u=>?_) fun u=>?_
    ·obtain ⟨bg,ay,u⟩:=bt u
     obtain ⟨J,be,bb,aD,aA,aB,aC,az⟩:=d.elemRV (α:=Span) 1 y 0 y ay
     have W:=s
     have Z:=d
     subst aD
     have s:=W
     have d:=Z
     obtain ⟨_,_,rfl,rfl,rfl⟩:=az
     obtain ⟨bh,aE,u⟩:=bt u
     obtain ⟨aO,bc,aG,R,aH,aF⟩:=d.elemRK (α:=Span) 1 y 0 y aE
     obtain ⟨_,_,rfl,rfl,rfl⟩:=aF
     obtain ⟨G,S,u⟩:=bt u
     refine C7 (fun a w=>∃ B o,Sl 54 [(4,sl (ad J) g G),(13,sl (ad l) t b),(14,iv (b.length:Int)),(15,iv c.2)] a∧Wd ⟨w0,S0,[]⟩ B [.row (ad J) G.length g o 52 2,.row (ad l) b.length t k 52 2] [j6 o G,j6 k b] w) ?_ ?_
     ·refine h_c [0,2] [] d y y (by kernel_rfl) y fun hC d=>gn 6 [0,1,2,3,4,5] [] s hC y y y fun a s=>gx s 6 y j8 y hC o0 u5 y y aA aB fun a s=>gn 3 [7,9,10] [0] s hC y y y fun a s=>ho 8 y ?_
      refine sv s (H5 (j:=1) (d.ownAt 1 y) y s8 aC y) y fun a s=>h_n [0,2] [] d y y fun hC=>gv s 11 y y hC (fun w hC=>y_max y y) fun a s=>gx s 12 y j8 y hC o0 u5 y y aG R fun a s=>gv s 13 y y hC (fun w hC=>l7 (o':=aO+1) t8 y m8 y y y) fun a s=>ho 14 y ?_
      refine a6G (α:=Span) (f:=1) (m:=1) s d 1 rfl 0 rfl R rfl rfl m8 rfl rfl rfl S (fun es he=>by rw [aH] at he;subst he;exact ⟨_,_,rfl,rfl,rfl⟩) j8 ?_
      intro o a w s d
      have M:=Y8 S
      try have s:=s.fl 4 rfl M
      try have s:=s.fl 34 rfl M
      try have s:=s.fl 37 rfl M
      refine h_n [0,2] [] d y y fun hC=>q9 (by kernel_rfl) ?_
      exact ⟨v,o,wj s d [1,2] [0,2]⟩
     rintro a w ⟨B,o,s,d⟩
     exact tn ⟨G,o,(ad J),g,B,u,wj s d [0,1] [0,1]⟩
    refine j9 (rn 2 [0] s d y y fun a s=>?_)
    refine q8 (α:=Span) (vs:=[V52 z]) (cs:=(C52 z)) (xs:=([z]:List Span)) s d a3z y y y y y y ⟨⟨_,_,y,y,y⟩,y⟩ y j8 y fun a8 a w s d=>?_
    obtain ⟨aL,aI,u⟩:=bt u
    refine F6 (α:=Span) s d a3z 2 y y y 1 y 0 y 0 y aI y j8 ?_
    intro aM aK ai a w s d
    refine rz0 1 s y fun a s=>⟨aL,ai,aM,aK,v,u,wj s d [2,3] [0,3]⟩
   rintro a w ⟨h,D,I,F,A,u,s,d⟩
   refine l9 (tn (j9 (rz0 2 s y fun a s=>?_)))
   exact ⟨_,io u,D,I,F,A,wj s d [0,1] [0,1]⟩
  refine u0 (j5 (j5 (o9 ?_)))
  obtain rfl:=oi u
  have aJ:=ab _ y
  subst aJ
  exact tn ⟨n,q,g,i,wj s d [0] [0]⟩
 rintro a w ⟨C,H,E,N,s,d⟩
 refine tn (sz0 2 s y fun a s=>?_)
 obtain rfl:=oi u
 exact q1 s y (d.ret ⟨H,E,C,y,(d.outs [0] (by decide) y),(d.envAt 0 y)⟩)
theorem b3e {w0 S0 p2 k3 p6 k7 a1 b5 r} (u:a7X a1 b5=some r) (hS:Dm S0 w0) (h4:(Sq p2 k3 a1).p S0 w0) (h8:(Sq p6 k7 b5).p S0 w0):Ck Tryz.prog 109 #[sl p2 k3 a1,sl p6 k7 b5] w0 S0 [] A9 r:=by
 refine en 68 func109 y hS y y y fun a s d=>?_
 have d:=(d.addE h4).addE h8
 refine sz0 1 s y fun a s=>sn0 1 s y fun a s=>?_
 obtain ⟨b,h9,u⟩:=bt u
 refine cR s (a5c h9 d.dom (d.envAt 0 y)) (j3 call137 y) y ?_
 rintro bb a4 w a aX ⟨t,h,l,rfl,aY,aW⟩ s
 have d:=(d.callN aX aY).addE (e:=j6 l b) aW
 refine rz0 1 s y fun a s=>sz0 1 s y fun a s=>l3 (sn0 1 s y fun a s=>?_)
 obtain ⟨c,aZ,u⟩:=bt u
 refine cR s (a5c aZ d.dom (d.envAt 2 y)) (j3 call137 y) y ?_
 rintro bc ay w a a2 ⟨ax,q,m,rfl,a3,a0⟩ s
 have d:=(d.callN a2 a3).addE (e:=j6 m c) a0
 refine rz0 2 s y fun a s=>?_
 obtain ⟨af,an,u⟩:=bt u
 refine A7 (fun a w=>∃ O Y T ag,Sl 68 [(5,sl Y T af)] a∧Wd ⟨w0,S0,[]⟩ ag [.row Y af.length T O 52 2] [j6 O af] w) ?_ ?_
 ·refine m6 ?_
  have d:=d.nilRow Span 52
  refine u7 (fun g a w=>∃ I K J F,Sl 68 [(1,sl t h b),(5,sl K J g.1),(14,sl ax q c),(15,iv (c.length:Int)),(16,iv g.2)] a∧Wd ⟨w0,S0,[]⟩ F [.row t b.length h l 52 2,.row K g.1.length J I 52 2,.row ax c.length q m 52 2] [j6 l b,j6 I g.1,j6 m c] w) (([]:List Span),0) an ⟨[],none,0,ay,wj s d [2,0,1] [2,0,1]⟩ ?_
  clear an
  repeat clear u
  rintro g a w aw ⟨I,K,J,F,s,d⟩ u au
  refine sz0 1 s y fun a s=>l3 (cd s u y (fun u=>?_) fun u=>?_)
  ·refine sk (l3 (m6 (sr ?_)))
   obtain ⟨k,aB,u⟩:=bt u
   obtain ⟨i,a9,a7,aF,ak,aD,aE,aC⟩:=d.elemRV (α:=Span) 2 y 2 y aB
   have ao:=s
   have aq:=d
   subst aF
   have s:=ao
   have d:=aq
   obtain ⟨_,_,rfl,rfl,rfl⟩:=aC
   refine sv s (o7 o0 u5 y y ak.1 ak.2 aD) y fun a s=>sv s (I4 (j:=0) (d.ownAt 2 y) y H3 u5 aE y y) y fun a s=>wa [iv 0,iv 0] s d zeroValue52 fun v a w s d=>ws (C52 k) s d 0 y y y u5 fun a w s d=>nl (sz 3 [0] s d y y fun a s=>?_)
   refine l3 (sz0 3 s y fun a s=>?_)
   obtain ⟨o,am,u⟩:=bt u
   refine A7 (fun a w=>∃ P Z U G,Sl 68 [(1,sl t h b),(5,sl Z U o.1),(7,pt v),(8,iv o.2),(14,sl (ad i) q c),(15,iv (c.length:Int)),(16,iv g.2)] a∧Wd ⟨w0,S0,[]⟩ G [.box v (C52 k) 52,.row t b.length h l 52 2,.row Z o.1.length U P 52 2,.row (ad i) c.length q m 52 2] [j6 l b,j6 P o.1,j6 m c] w) ?_ ?_
   ·refine m6 (u7 (fun f a w=>∃ C E D A,Sl 68 [(1,sl t h b),(5,sl E D f.1),(7,pt v),(8,iv f.2.1),(14,sl (ad i) q c),(15,iv (c.length:Int)),(16,iv g.2),(22,sl t h b),(23,iv (b.length:Int)),(24,iv f.2.2)] a∧Wd ⟨w0,S0,[]⟩ A [.box v (C52 k) 52,.row t b.length h l 52 2,.row E f.1.length D C 52 2,.row (ad i) c.length q m 52 2] [j6 l b,j6 C f.1,j6 m c] w) (g.1,k.From,0) am ⟨I,K,J,F,wj s d [0,1,2,3] [0,1,2]⟩ ?_)
    clear am
    repeat clear u
    rintro f a w ah ⟨C,E,D,A,s,d⟩ u av
    refine sz0 1 s y fun a s=>l3 (cd s u y (fun u=>?_) fun u=>?_)
    ·refine sk (l3 (A7 (fun a w=>∃ (x:(List Span)) (H:Int) (Q aa V L:_),a3P f x H=some ah∧Sl 68 [(1,sl t h b),(5,sl aa V x),(7,pt v),(8,iv H),(14,sl (ad i) q c),(15,iv (c.length:Int)),(16,iv g.2),(22,sl t h b),(23,iv (b.length:Int)),(24,iv f.2.2)] a∧Wd ⟨w0,S0,[]⟩ L [.box v (C52 k) 52,.row t b.length h l 52 2,.row aa x.length V Q 52 2,.row (ad i) c.length q m 52 2] [j6 l b,j6 Q x,j6 m c] w) ?_ ?_))
     ·refine m6 (sr ?_)
      obtain ⟨B,aG,u⟩:=bt u
      obtain ⟨ae,ba,a8,aK,al,aI,aJ,aH⟩:=d.elemRV (α:=Span) 1 y 0 y aG
      have ap:=s
      have ar:=d
      subst aK
      have s:=ap
      have d:=ar
      obtain ⟨_,_,rfl,rfl,rfl⟩:=aH
      refine sv s (o7 o0 u5 y y al.1 al.2 aI) y fun a s=>sv s (I4 (j:=0) (d.ownAt 1 y) y H3 u5 aJ y y) y fun a s=>wa [iv 0,iv 0] s d zeroValue52 fun aj a w s d=>ws (C52 B) s d 0 y y y u5 fun a w s d=>nl (l3 (sn 5 [0] s d y y fun a s=>?_))
      refine rO 6 32 [0,1] s d y y y y y fun a s=>nl (cd s u y (fun u=>?_) fun u=>?_)
      ·exact u0 (j5 (o9 (tn ⟨f.1,f.2.1,C,E,D,A,u,wj s d [1,2,3,4] [0,1,2]⟩)))
      refine sk (l3 (sz 4 [0] s d y y fun a s=>?_))
      refine A7 (fun a w=>∃ (n:(List Span)) (R ab W M:_),a3Q f B n=some ah∧Sl 68 [(1,sl (ad ae) h b),(5,sl ab W n),(7,pt v),(8,iv f.2.1),(10,pt aj),(14,sl (ad i) q c),(15,iv (c.length:Int)),(16,iv g.2),(22,sl (ad ae) h b),(23,iv (b.length:Int)),(24,iv f.2.2)] a∧Wd ⟨w0,S0,[]⟩ M [.box v (C52 k) 52,.box aj (C52 B) 52,.row (ad ae) b.length h l 52 2,.row ab n.length W R 52 2,.row (ad i) c.length q m 52 2] [j6 l b,j6 R n,j6 m c] w) ?_ ?_
      ·refine cd s u y (fun u=>?_) fun u=>?_
       ·refine j9 (rn 4 [0] s d y y fun a s=>?_)
        refine sv s (A8 (vs:=[(0,iv f.2.1),(1,iv B.From)]) a7i y y) y fun a s=>q8 (α:=Span) (vs:=[.agg #[iv f.2.1,iv B.From]]) (cs:=[iv f.2.1,iv B.From]) (xs:=([(⟨f.2.1,B.From⟩:Span)]:List Span)) s d a3z y y y y y y ⟨⟨_,_,y,y,y⟩,y⟩ y j8 y fun a5 a w s d=>?_
        obtain ⟨aS,aM,u⟩:=bt u
        refine F6 (α:=Span) s d a3z 4 y y y 2 y 0 y 0 y aM y j8 ?_
        intro aU aQ az a w s d
        refine rz0 1 s y fun a s=>⟨aS,az,aU,aQ,A,u,wj s d [2,1,3,4,5] [2,0,4]⟩
       exact sk ⟨f.1,C,E,D,A,u,wj s d [1,0,2,3,4] [0,1,2]⟩
      rintro a w ⟨n,R,ab,W,M,u,s,d⟩
      refine tn (j9 (rn 4 [1] s d y y fun a s=>?_))
      obtain ⟨ai,aL,u⟩:=bt u
      refine sv s (w9 y aL) y fun a s=>l4 ?_
      exact l9 (tn ⟨n,ai,R,ab,W,M,u,wj s d [0,2,3,4] [0,1,2]⟩)
     rintro a w ⟨x,H,Q,aa,V,L,u,s,d⟩
     refine tn (j9 (rz0 2 s y fun a s=>?_))
     exact ⟨_,io u,Q,aa,V,L,wj s d [0,1,2,3] [0,1,2]⟩
    refine u0 (j5 (j5 (o9 ?_)))
    obtain rfl:=oi u
    have aN:=av _ y
    subst aN
    exact tn ⟨C,E,D,A,wj s d [0,1,2,3] [0,1,2]⟩
   rintro a w ⟨P,Z,U,G,s,d⟩
   refine tn (sz 4 [0] s d y y fun a s=>?_)
   refine A7 (fun a w=>∃ (z:(List Span)) (S ac X N:_),a3R g z=some aw∧Sl 68 [(1,sl t h b),(5,sl ac X z),(14,sl (ad i) q c),(15,iv (c.length:Int)),(16,iv g.2)] a∧Wd ⟨w0,S0,[]⟩ N [.row t b.length h l 52 2,.row ac z.length X S 52 2,.row (ad i) c.length q m 52 2] [j6 l b,j6 S z,j6 m c] w) ?_ ?_
   ·refine cd s u y (fun u=>?_) fun u=>?_
    ·refine j9 (rn 4 [0] s d y y fun a s=>?_)
     refine sv s (A8 (vs:=[(0,iv o.2),(1,iv k.To)]) a7i y y) y fun a s=>q8 (α:=Span) (vs:=[.agg #[iv o.2,iv k.To]]) (cs:=[iv o.2,iv k.To]) (xs:=([(⟨o.2,k.To⟩:Span)]:List Span)) s d a3z y y y y y y ⟨⟨_,_,y,y,y⟩,y⟩ y j8 y fun a6 a w s d=>?_
     obtain ⟨aT,aO,u⟩:=bt u
     refine F6 (α:=Span) s d a3z 3 y y y 2 y 0 y 0 y aO y j8 ?_
     intro aV aR aA a w s d
     refine rz0 1 s y fun a s=>⟨aT,aA,aV,aR,G,u,wj s d [2,3,4] [2,0,4]⟩
    exact sk ⟨o.1,P,Z,U,G,u,wj s d [1,2,3] [0,1,2]⟩
   rintro a w ⟨z,S,ac,X,N,u,s,d⟩
   refine l9 (tn (j9 (rz0 2 s y fun a s=>?_)))
   exact ⟨_,io u,S,ac,X,N,wj s d [0,1,2] [0,1,2]⟩
  refine u0 (j5 (j5 (o9 ?_)))
  obtain rfl:=oi u
  have aP:=au _ y
  subst aP
  exact tn ⟨I,K,J,F,wj s d [1] [1]⟩
 rintro a w ⟨O,Y,T,ag,s,d⟩
 refine tn (sz0 2 s y fun a s=>?_)
 obtain rfl:=oi u
 exact q1 s y (d.ret ⟨Y,T,O,y,(d.outs [0] (by decide) y),(d.envAt 0 y)⟩)
theorem a9Z {w0 S0 p2 k3 p6 k7 a1 b5 r} (u:a0s a1 b5=some r) (hS:Dm S0 w0) (h4:(Sq p2 k3 a1).p S0 w0) (h8:(Sq p6 k7 b5).p S0 w0):Ck Tryz.prog 59 #[sl p2 k3 a1,sl p6 k7 b5] w0 S0 [] A9 r:=by
 refine en 65 func59 y hS y y y fun a s d=>?_
 have d:=(d.addE h4).addE h8
 refine sz0 1 s y fun a s=>sz0 2 s y fun a s=>l3 (sn0 2 s y fun a s=>?_)
 refine q8 (α:=(List Epoch)) (vs:=[sl p2 k3 a1,sl p6 k7 b5]) (cs:=[sl p2 k3 a1,sl p6 k7 b5]) (xs:=([a1,b5]:List (List Epoch))) s d El171 y y y y y y ⟨⟨_,y,⟨_,_,_,y,d.envAt 1 y⟩⟩,⟨⟨_,y,⟨_,_,_,y,d.envAt 0 y⟩⟩,y⟩⟩ y j8 y fun bM a w s d=>?_
 obtain ⟨K,bm,u⟩:=bt u
 obtain ⟨bB,d⟩:=C8 (α:=(List Epoch)) d 0 y 0 y
 refine cR s (a3u bm d.dom (d.envAt 0 y)) (j3 call107 y) y ?_
 rintro bN a3 w a bo ⟨a2,a0,ao,rfl,bp,bn⟩ s
 have d:=(d.callN bo bp).addE (e:=j6 ao K) bn
 refine rz0 2 s y fun a s=>?_
 obtain ⟨b,ah,u⟩:=bt u
 refine A7 (fun a w=>∃ f h g M,Sl 65 [(0,sl p2 k3 a1),(1,sl p6 k7 b5),(5,sl h g b),(6,.slice none ([]:List Span).length 0)] a∧Wd ⟨w0,S0,[]⟩ M [.row h b.length g f 52 2] [Sq p2 k3 a1,Sq p6 k7 b5,Sq none 0 ([]:List Span),j6 f b] w) ?_ ?_
 ·refine m6 ?_
  have d:=(d.nilRow Span 52).addE (e:=SlA (α:=Span) none 0 0 []) K9
  refine u7 (fun L a w=>∃ ac al aj N,Sl 65 [(0,sl p2 k3 a1),(1,sl p6 k7 b5),(5,sl al aj L.1),(6,.slice none ([]:List Span).length 0),(16,sl a2 a0 K),(17,iv (K.length:Int)),(18,iv L.2)] a∧Wd ⟨w0,S0,[]⟩ N [.row al L.1.length aj ac 52 2,.row a2 K.length a0 ao 41 8] [Sq p2 k3 a1,Sq p6 k7 b5,Sq none 0 ([]:List Span),j6 ac L.1,j6 ao K] w) (([]:List Span),0) ah ⟨[],none,0,a3,wj s d [0,1] [6,5,0,1,2]⟩ ?_
  clear ah
  repeat clear u
  rintro L a w bx ⟨ac,al,aj,N,s,d⟩ u aR
  refine sz0 1 s y fun a s=>l3 (cd s u y (fun u=>?_) fun u=>?_)
  ·refine sk (l3 (m6 (sr ?_)))
   obtain ⟨n,a5,u⟩:=bt u
   obtain ⟨bC,bK,bG,a9,ap,a7,a8,a6⟩:=d.elemRV (α:=Epoch) 1 y 4 y a5
   have aw:=s
   have ay:=d
   subst a9
   have s:=aw
   have d:=ay
   obtain ⟨_,_,_,_,_,_,_,_,rfl,rfl,rfl,rfl,rfl,rfl,rfl,rfl,⟨aB,n160,aA,rfl,aq⟩⟩:=a6
   obtain rfl:=aq.1
   have d:=d.addE (e:=SlA aB _ aA n.Response.Stages) aq
   refine sv s (o7 o4 t6 y y ap.1 ap.2 a7) y fun a s=>sv s (I4 (j:=0) (d.ownAt 1 y) y E3 t6 a8 y y) y fun a s=>wa Z1 s d zeroValue41 fun bD a w s d=>ws (C41 n aB aA) s d 0 y y y t6 fun a w s d=>nl (j9 (rn 5 [0,0] s d y y fun a s=>?_))
   refine sv s (A8 (vs:=[(0,iv n.From),(1,iv n.To)]) a7i y y) y fun a s=>q8 (α:=Span) (vs:=[V52 ⟨n.From,n.To⟩]) (cs:=(C52 ⟨n.From,n.To⟩)) (xs:=([(⟨n.From,n.To⟩:Span)]:List Span)) s d a3z y y y y y y ⟨⟨_,_,y,y,y⟩,y⟩ y j8 y fun bF a w s d=>?_
   obtain ⟨bI,ba,u⟩:=bt u
   refine F6 (α:=Span) s d a3z 2 y y y 5 y 0 y 0 y ba y j8 ?_
   intro bi bh a4 a w s d
   refine av s y y fun a s=>l4 ?_
   refine l9 (tn (j9 (rz0 2 s y fun a s=>?_)))
   exact ⟨_,io u,a4,bi,bh,N,wj s d [2,3] [3,4,5,0,7]⟩
  refine u0 (j5 (j5 (o9 ?_)))
  obtain rfl:=oi u
  have bb:=aR _ y
  subst bb
  exact tn ⟨ac,al,aj,N,wj s d [0] [0,1,2,3]⟩
 rintro a w ⟨f,h,g,M,s,d⟩
 refine tn (l3 (sz0 3 s y fun a s=>?_))
 obtain ⟨W,ag,u⟩:=bt u
 refine A7 (fun a w=>∃ V Z Y aa,Sl 65 [(5,sl h g b),(6,sl Z Y W)] a∧Wd ⟨w0,S0,[]⟩ aa [.row h b.length g f 52 2,.row Z W.length Y V 52 2] [j6 f b,j6 V W] w) ?_ ?_
 ·refine m6 ?_
  have d:=d.nilRow Span 52
  refine u7 (fun k a w=>∃ E I G z,Sl 65 [(1,sl p6 k7 b5),(5,sl h g b),(6,sl I G k.1),(31,sl p2 k3 a1),(32,iv (a1.length:Int)),(33,iv k.2)] a∧Wd ⟨w0,S0,[]⟩ z [.row h b.length g f 52 2,.row I k.1.length G E 52 2] [Sq p6 k7 b5,Sq p2 k3 a1,j6 f b,j6 E k.1] w) (([]:List Span),0) ag ⟨[],none,0,M,wj s d [1,0] [2,1,4,0]⟩ ?_
  clear ag
  repeat clear u
  rintro k a w bz ⟨E,I,G,z,s,d⟩ u aS
  refine sz0 1 s y fun a s=>l3 (cd s u y (fun u=>?_) fun u=>?_)
  ·refine sk (l3 (m6 (sr ?_)))
   obtain ⟨c,bc,u⟩:=bt u
   obtain ⟨q,v,bL,bH,bg,ar,be,bf,bd⟩:=d.elemV 1 y bc
   have ax:=s
   have az:=d
   subst bg
   have s:=ax
   have d:=az
   obtain ⟨_,_,_,_,_,_,_,_,rfl,rfl,rfl,rfl,rfl,rfl,rfl,rfl,⟨x,bJ,t,rfl,au⟩⟩:=bd
   obtain rfl:=au.1
   have d:=(d.addE (e:=SlA x _ t c.Response.Stages) au).addE bf
   refine sv s (o7 o4 t6 y y ar.1 ar.2 be) y fun a s=>sv s (D5 (j:=0) (d.ceAt 0 y) y E3 t6 y y) y fun a s=>wa Z1 s d zeroValue41 fun Q a w s d=>ws (C41 c x t) s d 0 y y y t6 fun a w s d=>nl (sz0 3 s y fun a s=>?_)
   obtain ⟨X,af,u⟩:=bt u
   refine A7 (fun a w=>∃ R U S O,Sl 65 [(1,sl p6 k7 b5),(5,sl h g b),(6,sl U S X),(31,sl (some ⟨q,v,none⟩) k3 a1),(32,iv (a1.length:Int)),(33,iv k.2)] a∧Wd ⟨w0,S0,[]⟩ O [.row h b.length g f 52 2,.row U X.length S R 52 2] [Sq p6 k7 b5,Sq (some ⟨q,v,none⟩) k3 a1,j6 f b,j6 R X] w) ?_ ?_
   ·refine m6 (u7 (fun m a w=>∃ F J H o,Sl 65 [(1,sl p6 k7 b5),(5,sl h g b),(6,sl J H m.1),(10,pt Q),(31,sl (some ⟨q,v,none⟩) k3 a1),(32,iv (a1.length:Int)),(33,iv k.2),(37,sl p6 k7 b5),(38,iv (b5.length:Int)),(39,iv m.2)] a∧Wd ⟨w0,S0,[]⟩ o [.box Q (C41 c x t) 41,.row h b.length g f 52 2,.row J m.1.length H F 52 2] [Sq p6 k7 b5,Sq (some ⟨q,v,none⟩) k3 a1,Sq x t c.Response.Stages,j6 f b,j6 F m.1] w) (k.1,0) af ⟨E,I,G,z,wj s d [0,1,2] [2,3,1,4,5]⟩ ?_)
    clear af
    repeat clear u
    rintro m a w aZ ⟨F,J,H,o,s,d⟩ u aT
    refine sz0 1 s y fun a s=>l3 (cd s u y (fun u=>?_) fun u=>?_)
    ·refine sk (l3 (m6 (sr ?_)))
     obtain ⟨i,aE,u⟩:=bt u
     obtain ⟨P,T,bw,bu,aI,ad,aG,aH,aF⟩:=d.elemV 0 y aE
     have am:=s
     have an:=d
     subst aI
     have s:=am
     have d:=an
     obtain ⟨_,_,_,_,_,_,_,_,rfl,rfl,rfl,rfl,rfl,rfl,rfl,rfl,⟨ak,bv,ai,rfl,ae⟩⟩:=aF
     obtain rfl:=ae.1
     have d:=(d.addE (e:=SlA ak _ ai i.Response.Stages) ae).addE aH
     refine sv s (o7 o4 t6 y y ad.1 ad.2 aG) y fun a s=>sv s (D5 (j:=0) (d.ceAt 0 y) y E3 t6 y y) y fun a s=>wa Z1 s d zeroValue41 fun br a w s d=>ws (C41 i ak ai) s d 0 y y y t6 fun a w s d=>nl (sn 2 [1,0] s d y y fun a s=>?_)
     obtain ⟨bq,aJ,u⟩:=bt u
     refine cV s d (b0D aJ d.bdom (d.bE 4 y) (d.bE 1 y)) (j3 call108 y) y fun a w s d=>nl (A7 (fun a w=>∃ (l:(List Span)) (A C B D:_),a2c m l=some aZ∧Sl 65 [(1,sl (some ⟨P,T,none⟩) k7 b5),(5,sl h g b),(6,sl C B l),(10,pt Q),(31,sl (some ⟨q,v,none⟩) k3 a1),(32,iv (a1.length:Int)),(33,iv k.2),(37,sl (some ⟨P,T,none⟩) k7 b5),(38,iv (b5.length:Int)),(39,iv m.2)] a∧Wd ⟨w0,S0,[]⟩ D [.box Q (C41 c x t) 41,.row h b.length g f 52 2,.row C l.length B A 52 2] [Sq (some ⟨P,T,none⟩) k7 b5,Sq (some ⟨q,v,none⟩) k3 a1,Sq x t c.Response.Stages,j6 f b,j6 A l] w) ?_ ?_)
     ·refine cd s u y (fun u=>?_) fun u=>?_
      ·refine j9 (rn 11 [1,0,1,0] s d y y fun a s=>?_)
       refine sv s (A8 (vs:=[(0,iv (max c.From i.From)),(1,iv (min c.To i.To))]) a7i y y) y fun a s=>q8 (α:=Span) (vs:=[.agg #[iv (max c.From i.From),iv (min c.To i.To)]]) (cs:=[iv (max c.From i.From),iv (min c.To i.To)]) (xs:=([(⟨(max c.From i.From),(min c.To i.To)⟩:Span)]:List Span)) s d a3z y y y y y y ⟨⟨_,_,y,y,y⟩,y⟩ y j8 y fun bs a w s d=>?_
       obtain ⟨aW,aK,u⟩:=bt u
       refine F6 (α:=Span) s d a3z 4 y y y 7 y 0 y 0 y aK y j8 ?_
       intro aX aU aD a w s d
       refine rz0 1 s y fun a s=>⟨aW,aD,aX,aU,o,u,wj s d [2,3,4] [4,5,6,7,0]⟩
      exact sk ⟨m.1,F,J,H,o,u,wj s d [1,2,3] [2,3,4,5,6]⟩
     rintro a w ⟨l,A,C,B,D,u,s,d⟩
     refine l9 (tn (j9 (rz0 2 s y fun a s=>?_)))
     exact ⟨_,io u,A,C,B,D,wj s d [0,1,2] [0,1,2,3,4]⟩
    refine u0 (j5 (j5 (o9 ?_)))
    obtain rfl:=oi u
    have aL:=aT _ y
    subst aL
    exact tn ⟨F,J,H,o,wj s d [1,2] [0,1,3,4]⟩
   rintro a w ⟨R,U,S,O,s,d⟩
   refine l9 (tn (j9 (rz0 2 s y fun a s=>?_)))
   exact ⟨_,io u,R,U,S,O,wj s d [0,1] [0,1,2,3]⟩
  refine u0 (j5 (j5 (o9 ?_)))
  obtain rfl:=oi u
  have aM:=aS _ y
  subst aM
  exact tn ⟨E,I,G,z,wj s d [0,1] [2,3]⟩
 rintro a w ⟨V,Z,Y,aa,s,d⟩
 refine tn (sn0 2 s y fun a s=>?_)
 obtain ⟨aC,aN,u⟩:=bt u
 obtain ⟨bj,d⟩:=C8 (α:=Span) d 0 y 0 y
 obtain ⟨bk,d⟩:=C8 (α:=Span) d 0 y 2 y
 refine cR s (b3e aN d.dom (d.envAt 1 y) (d.envAt 0 y)) (j3 call109 y) y ?_
 rintro bA bl w a aP ⟨aY,aV,ab,rfl,aQ,aO⟩ s
 have d:=(d.callN aP aQ).addE (e:=j6 ab aC) aO
 refine rz0 1 s y fun a s=>?_
 obtain rfl:=oi u
 exact q1 s y (d.ret ⟨aY,aV,ab,y,(d.outs [0] (by decide) y),(d.envAt 0 y)⟩)
abbrev a5Y (w0:World) (X:List Nat) (r:(List Affected)):Rd:=fun S w v=>∃ c b a,v=sl c b r∧Outs X w0 S w [.row c r.length b a 56 5]∧(j6 a r).p S w
theorem a1d {w0 S0 p2 k3 p6 k7 a1 b5 r} (u:X8 a1 b5=some r) (hS:Dm S0 w0) (h4:(Sq p2 k3 a1.Channels).p S0 w0) (h8:(Sq p6 k7 b5.Channels).p S0 w0):Ck Tryz.prog 15 #[.agg #[sl p2 k3 a1.Channels],.agg #[sl p6 k7 b5.Channels]] w0 S0 [] a5Y r:=by
 refine en 76 func15 y hS y y y fun a s d=>?_
 have d:=(d.addE h4).addE h8
 refine sr (wb [sl p2 k3 a1.Channels] s d y fun b9 a w s d=>?_)
 refine wb [sl p6 k7 b5.Channels] s d y fun h a w s d=>rz0 1 s y fun a s=>l3 (sn 1 [1] s d y y fun a s=>?_)
 obtain ⟨bh,bj,u⟩:=bt u
 refine cV s d (a1U bj d.bdom (d.bE 1 y)) (j3 call55 y) y fun a w s d=>rn0 2 s y fun a s=>?_
 obtain ⟨bi,af,u⟩:=bt u
 refine y7 4 (fun a w=>∃ W,Sl 76 [(2,pt b9),(3,pt h),(23,.bool bi)] a∧Wd ⟨w0,S0,[]⟩ W [.box b9 [sl p2 k3 a1.Channels] 29,.box h [sl p6 k7 b5.Channels] 29] [Sq p2 k3 a1.Channels,Sq p6 k7 b5.Channels] w) ?_ ?_
 ·rcases j0 (!bh) with K | K
  ·have s:=s.bT 19 y K
   have u:=D7 af K
   refine rn0 4 s y fun a s=>l4 ?_
   obtain rfl:=oi u
   exact tn ⟨S0,wj s d [1,0] [1,0]⟩
  have s:=s.bF 19 y K
  have u:=E8 af K
  refine D6 s (Y0 (d.ownAt 0 y) y D4 s9 y y) ⟨_,y,y⟩ y y fun a s=>?_
  obtain ⟨bO,bk,u⟩:=bt u
  refine x9 s (a1U bk d.bdom (d.bE 0 y)) (j3 call55 y) ⟨_,y,y⟩ y y ?_
  rintro bV bx w a bl rfl s
  have d:=d.callB bl
  refine rn0 2 s y fun a s=>l4 ?_
  obtain rfl:=oi u
  exact tn ⟨S0,wj s d [1,0] [1,0]⟩
 rintro a w ⟨W,s,d⟩
 refine nl (cd s u y (fun u=>?_) fun u=>?_)
 ·refine sz0 1 s y fun a s=>?_
  obtain rfl:=oi u
  have d:=d.nilRow Affected 56
  exact t7 (j4 (rt s y (d.ret ⟨none,0,[],y,(d.outs [0] (by decide) y),(d.envAt 0 y)⟩)))
 refine sk (sz0 1 s y fun a s=>?_)
 refine l3 (sn 4 [0,1] s d y y fun a s=>?_)
 refine q8 (α:=(List Channel)) (vs:=[sl p2 k3 a1.Channels,sl p6 k7 b5.Channels]) (cs:=[sl p2 k3 a1.Channels,sl p6 k7 b5.Channels]) (xs:=([a1.Channels,b5.Channels]:List (List Channel))) s d El151 y y y y y y ⟨⟨_,y,⟨_,_,_,y,d.envAt 0 y⟩⟩,⟨⟨_,y,⟨_,_,_,y,d.envAt 1 y⟩⟩,y⟩⟩ y j8 y fun bU a w s d=>?_
 obtain ⟨q,bm,u⟩:=bt u
 obtain ⟨bz,d⟩:=C8 (α:=(List Channel)) d 0 y 0 y
 refine cR s (a2p bm d.dom (d.envAt 0 y)) (j3 call56 y) y ?_
 rintro bW ax w a bo ⟨p44,aw,Y,rfl,bp,bn⟩ s
 have d:=(d.callN bo bp).addE (e:=j6 Y q) bn
 refine rz0 2 s y fun a s=>?_
 obtain ⟨M,ae,u⟩:=bt u
 refine A7 (fun a w=>∃ L Q O S,Sl 76 [(2,pt b9),(3,pt h),(5,sl Q O M)] a∧Wd ⟨w0,S0,[]⟩ S [.box b9 [sl p2 k3 a1.Channels] 29,.box h [sl p6 k7 b5.Channels] 29,.row Q M.length O L 32 4] [Sq p2 k3 a1.Channels,Sq p6 k7 b5.Channels,j6 L M] w) ?_ ?_
 ·refine m6 ?_
  have d:=d.nilRow SourceID 32
  refine u7 (fun t a w=>∃ A H D k,Sl 76 [(2,pt b9),(3,pt h),(5,sl H D t.1),(29,sl p44 aw q),(30,iv (q.length:Int)),(31,iv t.2)] a∧Wd ⟨w0,S0,[]⟩ k [.box b9 [sl p2 k3 a1.Channels] 29,.box h [sl p6 k7 b5.Channels] 29,.row H t.1.length D A 32 4,.row p44 q.length aw Y 73 5] [Sq p2 k3 a1.Channels,Sq p6 k7 b5.Channels,j6 A t.1,j6 Y q] w) (([]:List SourceID),0) ae ⟨[],none,0,ax,wj s d [2,3,0,1] [4,5,0,1]⟩ ?_
  clear ae
  repeat clear u
  rintro t a w bw ⟨A,H,D,k,s,d⟩ u aq
  refine sz0 1 s y fun a s=>l3 (cd s u y (fun u=>?_) fun u=>?_)
  ·refine sk (l3 (m6 (sr ?_)))
   obtain ⟨v,aD,u⟩:=bt u
   obtain ⟨bA,bM,bJ,aH,Z,aF,aG,aE⟩:=d.elemRV (α:=Channel) 3 y 3 y aD
   have ag:=s
   have ai:=d
   subst aH
   have s:=ag
   have d:=ai
   obtain ⟨_,_,_,_,_,rfl,rfl,rfl,rfl,rfl,⟨al,n191,ak,rfl,aa⟩⟩:=aE
   obtain rfl:=aa.1
   have d:=d.addE (e:=SlA al _ ak v.Epochs) aa
   refine sv s (o7 m5 o3 y y Z.1 Z.2 aF) y fun a s=>sv s (I4 (j:=0) (d.ownAt 3 y) y F2 o3 aG y y) y fun a s=>wa Z2 s d zeroValue73 fun bB a w s d=>ws (C73 v al ak) s d 0 y y y o3 fun a w s d=>nl (j9 (rn 3 [0] s d y y fun a s=>?_))
   refine q8 (α:=SourceID) (vs:=[V32 v.Source]) (cs:=(C32 v.Source)) (xs:=([v.Source]:List SourceID)) s d b1X y y y y y y ⟨⟨_,_,_,_,y,y,y,y,y⟩,y⟩ y j8 y fun bC a w s d=>?_
   obtain ⟨bL,aI,u⟩:=bt u
   refine F6 (α:=SourceID) s d b1X 4 y y y 4 y 0 y 0 y aI y j8 ?_
   intro bd a8 ay a w s d
   refine av s y y fun a s=>l4 ?_
   refine l9 (tn (j9 (rz0 2 s y fun a s=>?_)))
   exact ⟨_,io u,ay,bd,a8,k,wj s d [2,3,4,5] [3,4,0,6]⟩
  refine u0 (j5 (j5 (o9 ?_)))
  obtain rfl:=oi u
  have aJ:=aq _ y
  subst aJ
  exact tn ⟨A,H,D,k,wj s d [0,1,2] [0,1,2]⟩
 rintro a w ⟨L,Q,O,S,s,d⟩
 refine tn (sz0 1 s y fun a s=>?_)
 refine l3 (sn0 1 s y fun a s=>?_)
 obtain ⟨b,aK,u⟩:=bt u
 obtain ⟨bq,d⟩:=C8 (α:=SourceID) d 2 y 2 y
 refine cR s (b2B aK d.dom (d.envAt 0 y)) (j3 call57 y) y ?_
 rintro bP an w a aM ⟨am,E,l,rfl,aN,aL⟩ s
 have d:=(d.callN aM aN).addE (e:=j6 l b) aL
 refine rz0 2 s y fun a s=>?_
 obtain ⟨N,ac,u⟩:=bt u
 refine A7 (fun a w=>∃ B I F T,Sl 76 [(8,sl I F N)] a∧Wd ⟨w0,S0,[]⟩ T [.row I N.length F B 56 5] [j6 B N] w) ?_ ?_
 ·refine m6 ?_
  have d:=d.nilRow Affected 56
  refine u7 (fun f a w=>∃ m o n x,Sl 76 [(2,pt b9),(3,pt h),(8,sl o n f.1),(42,sl am E b),(43,iv (b.length:Int)),(44,iv f.2)] a∧Wd ⟨w0,S0,[]⟩ x [.box b9 [sl p2 k3 a1.Channels] 29,.box h [sl p6 k7 b5.Channels] 29,.row o f.1.length n m 56 5,.row am b.length E l 32 4] [Sq p2 k3 a1.Channels,Sq p6 k7 b5.Channels,j6 m f.1,j6 l b] w) (([]:List Affected),0) ac ⟨[],none,0,an,wj s d [2,3,0,1] [3,4,0,1]⟩ ?_
  clear ac
  repeat clear u
  rintro f a w au ⟨m,o,n,x,s,d⟩ u ar
  refine sz0 1 s y fun a s=>l3 (cd s u y (fun u=>?_) fun u=>?_)
  ·refine sk (l3 (m6 (sr ?_)))
   obtain ⟨c,aO,u⟩:=bt u
   obtain ⟨X,bN,bK,aS,ab,aQ,aR,aP⟩:=d.elemRV (α:=SourceID) 3 y 3 y aO
   have ah:=s
   have aj:=d
   subst aS
   have s:=ah
   have d:=aj
   obtain ⟨_,_,_,_,rfl,rfl,rfl,rfl,rfl⟩:=aP
   refine sv s (o7 v8 s6 y y ab.1 ab.2 aQ) y fun a s=>sv s (I4 (j:=0) (d.ownAt 3 y) y B9 s6 aR y y) y fun a s=>wa Z3 s d zeroValue32 fun bD a w s d=>ws (C32 c) s d 0 y y y s6 fun a w s d=>nl (sn 2 [1,0] s d y y fun a s=>?_)
   obtain ⟨U,aT,u⟩:=bt u
   refine cR s (a4F aT d.dom (d.envAt 0 y)) (j3 call58 y) y ?_
   rintro bQ br w a aV ⟨be,a9,az,rfl,aW,aU⟩ s
   have d:=(d.callN aV aW).addE (e:=j6 az U.1.Epochs) aU
   refine rn0 3 s y fun a s=>wa Z2 s d zeroValue73 fun bG a w s d=>ws (C73 U.1 be a9) s d 0 y y y o3 fun a w s d=>rz0 1 s y fun a s=>sn 2 [4,2] s d y y fun a s=>?_
   obtain ⟨V,aX,u⟩:=bt u
   refine cR s (a4F aX d.dom (d.envAt 2 y)) (j3 call58 y) y ?_
   rintro bR bs w a aZ ⟨bf,ba,aA,rfl,a0,aY⟩ s
   have d:=(d.callN aZ a0).addE (e:=j6 aA V.1.Epochs) aY
   refine rn0 3 s y fun a s=>wa Z2 s d zeroValue73 fun bH a w s d=>ws (C73 V.1 bf ba) s d 0 y y y o3 fun a w s d=>rz0 1 s y fun a s=>sn 4 [2,0] s d y y fun a s=>?_
   obtain ⟨i,a2,u⟩:=bt u
   obtain ⟨bu,d⟩:=C8 (α:=Epoch) d 3 y 1 y
   obtain ⟨bv,d⟩:=C8 (α:=Epoch) d 1 y 1 y
   refine cR s (a9Z a2 d.dom (d.envAt 1 y) (d.envAt 0 y)) (j3 call59 y) y ?_
   rintro bS ao w a a4 ⟨R,P,aB,rfl,a5,a3⟩ s
   have d:=(d.callN a4 a5).addE (e:=j6 aB i) a3
   refine rz0 1 s y fun a s=>sz0 3 s y fun a s=>A7 (fun a w=>∃ (g:(List Affected)) (C J G z:_),a1a f g=some au∧Sl 76 [(2,pt b9),(3,pt h),(8,sl J G g),(42,sl (ad X) E b),(43,iv (b.length:Int)),(44,iv f.2)] a∧Wd ⟨w0,S0,[]⟩ z [.box b9 [sl p2 k3 a1.Channels] 29,.box h [sl p6 k7 b5.Channels] 29,.row J g.length G C 56 5,.row (ad X) b.length E l 32 4] [Sq p2 k3 a1.Channels,Sq p6 k7 b5.Channels,j6 C g,j6 l b] w) ?_ ?_
   ·refine cd s u y (fun u=>?_) fun u=>?_
    ·refine j9 (rn 3 [3] s d y y fun a s=>?_)
     refine sv s (A8 (vs:=[(0,V32 c),(1,sl R P i)]) Bld56 y y) y fun a s=>?_
     obtain ⟨ap,d⟩:=C8 (α:=Span) d 0 y 0 y
     refine q8 (α:=Affected) (vs:=[.agg #[.string c.Network,.string c.Station,.string c.Location,.string c.Channel,sl R P i]]) (cs:=[.string c.Network,.string c.Station,.string c.Location,.string c.Channel,sl R P i]) (xs:=([(⟨c,i⟩:Affected)]:List Affected)) s d El48 y y y y y y ⟨⟨_,_,_,_,_,y,y,y,y,y,⟨_,_,_,y,d.envAt 0 y⟩⟩,y⟩ y j8 y fun bI a w s d=>?_
     obtain ⟨bc,a6,u⟩:=bt u
     refine F6 (α:=Affected) s d El48 6 y y y 9 y 0 y 0 y a6 y j8 ?_
     intro bg bb aC a w s d
     refine rz0 1 s y fun a s=>⟨bc,aC,bg,bb,ap,u,wj s d [4,5,6,7] [8,9,0,11]⟩
    exact sk ⟨f.1,m,o,n,ao,u,wj s d [4,5,6,7] [5,6,7,8]⟩
   rintro a w ⟨g,C,J,G,z,u,s,d⟩
   refine l9 (tn (j9 (rz0 2 s y fun a s=>?_)))
   exact ⟨_,io u,C,J,G,z,wj s d [0,1,2,3] [0,1,2,3]⟩
  refine u0 (j5 (j5 (o9 ?_)))
  obtain rfl:=oi u
  have a7:=ar _ y
  subst a7
  exact tn ⟨m,o,n,x,wj s d [2] [2]⟩
 rintro a w ⟨B,I,F,T,s,d⟩
 refine tn (sz0 2 s y fun a s=>?_)
 obtain rfl:=oi u
 exact q1 s y (d.ret ⟨I,F,B,y,(d.outs [0] (by decide) y),(d.envAt 0 y)⟩)
theorem a9B {w0 S0 p2 k3 p6 k7 a1 b5 r} (u:a5n a1 b5=some r) (hS:Dm S0 w0) (h4:(Sq p2 k3 a1).p S0 w0) (h8:(Sq p6 k7 b5).p S0 w0):Ck Tryz.prog 42 #[sl p2 k3 a1,sl p6 k7 b5] w0 S0 [] o5 r:=by
 refine en 26 func42 y hS y y y fun a s d=>?_
 have d:=(d.addE h4).addE h8
 refine sz0 1 s y fun a s=>l3 (sz0 5 s y fun a s=>?_)
 refine cd s u y (fun u=>?_) fun u=>?_
 ·refine sz0 1 s y fun a s=>?_
  obtain rfl:=oi u
  exact t7 (j4 (rt s y (d.ret y)))
 refine sk (l3 (sz0 1 s y fun a s=>?_))
 refine m6 (u7 (fun e a w=>∃ b,Sl 26 [(0,sl p2 k3 a1),(1,sl p6 k7 b5),(5,iv e)] a∧Wd ⟨w0,S0,[]⟩ b [] [Sq p2 k3 a1,Sq p6 k7 b5] w) 0 u ⟨S0,wj s d [] [1,0]⟩ ?_)
 repeat clear u
 rintro e a w N ⟨b,s,d⟩ u g
 refine l3 (sz0 4 s y fun a s=>?_)
 refine cd s u y (fun u=>?_) fun u=>?_
 ·refine sk (l3 (m6 (l3 ?_)))
  obtain ⟨t,x,u⟩:=bt u
  obtain ⟨h,o,R,O,D,A,B,C,z⟩:=d.elemV 0 y x
  have k:=s
  have m:=d
  subst D
  have s:=k
  have d:=m
  obtain ⟨_,_,rfl,rfl,rfl⟩:=z
  have d:=d.addE C
  obtain ⟨v,E,u⟩:=bt u
  obtain ⟨i,q,S,P,J,G,H,I,F⟩:=d.elemV 2 y E
  have l:=s
  have n:=d
  subst J
  have s:=l
  have d:=n
  obtain ⟨_,_,rfl,rfl,rfl⟩:=F
  have d:=d.addE I
  refine C7 (fun a w=>∃ c,Sl 26 [(0,sl (some ⟨h,o,none⟩) k3 a1),(1,sl (some ⟨i,q,none⟩) k7 b5),(5,iv e),(25,.bool (!((t.From == v.From) && ((t.To == v.To) && true))))] a∧Wd ⟨w0,S0,[]⟩ c [] [Sq (some ⟨h,o,none⟩) k3 a1,Sq (some ⟨i,q,none⟩) k7 b5] w) ?_ ?_
  ·refine h_c [] [0,1] d y y (by kernel_rfl) y fun hC d=>gn 2 [0,1] [] s hC y y y fun a s=>gx s 2 y j8 y hC o0 u5 y y A B fun a s=>gv s 3 y y hC (fun w hC=>D5 (j:=0) (hC.ceAt 1 y) y H3 u5 y y) fun a s=>gn 2 [4,5] [] s hC y y y fun a s=>gx s 6 y j8 y hC o0 u5 y y G H fun a s=>gv s 7 y y hC (fun w hC=>D5 (j:=0) (hC.ceAt 0 y) y H3 u5 y y) fun a s=>gv s 8 y y hC (fun w hC=>a8T (by kernel_rfl) y y (M5 t8 (by kernel_rfl) (EqF.cons1 y s8 y y (G9 q6) (EqF.cons1 y s8 y y (G9 q6) EqF.nil)))) fun a s=>q9 (by kernel_rfl) ?_
   exact ⟨b,wj s d [] [2,3]⟩
  rintro a w ⟨c,s,d⟩
  refine tn (cd s u y (fun u=>?_) fun u=>?_)
  ·refine sz0 1 s y fun a s=>?_
   obtain rfl:=oi u
   have K:=g _ y
   subst K
   exact t7 (o8 (j4 (j4 (o8 (j4 (rt s y (d.ret y)))))))
  refine D1 (l9 (tn (j9 (rn0 2 s y fun a s=>?_))))
  obtain ⟨Q,L,u⟩:=bt u
  refine sv s (w9 y L) y fun a s=>nl ⟨_,io u,c,wj s d [] [0,1]⟩
 obtain ⟨M,u,f⟩:=X5 u
 have f:=(g _ f.symm).symm
 subst f
 refine u0 (j5 (j5 (o9 (tn (sz0 1 s y fun a s=>?_)))))
 obtain rfl:=oi u
 exact q1 s y (d.ret y)
theorem a9A {w0 S0 r} (u:a6s=some r) (hS:Dm S0 w0):Ck Tryz.prog 10 #[] w0 S0 [] o5 r:=by
 refine en 59 func10 y hS y y y fun a s d=>sz0 1 s y fun a s=>sr (sv s (A8 (vs:=[(0,.string (⟨#[65]⟩:ByteArray)),(1,.string (⟨#[66]⟩:ByteArray)),(3,.string (⟨#[72,72,90]⟩:ByteArray))]) Bld32 y y) y fun a s=>?_)
 refine wa Z3 s d zeroValue32 fun b1 a w s d=>ws Z4 s d 0 y y y s6 fun a w s d=>nl (sr (sv s (A8 (vs:=[(0,iv 100),(1,iv 1)]) Bld34 y y) y fun a s=>?_))
 refine sv s (A8 (vs:=[(0,iv 10),(1,iv 20),(2,.agg #[iv 100,iv 1])]) Bld41 y y) y fun a s=>wa Z1 s d zeroValue41 fun b2 a w s d=>ws Z5 s d 0 y y y t6 fun a w s d=>nl (sr (sv s (A8 (vs:=[]) a5Q y y) y fun a s=>?_))
 refine rn 2 [1,0] s d y y fun a s=>sv s (A8 (vs:=[(1,.agg Z4.toArray),(2,iv 10),(3,.agg Z5.toArray)]) a8r y y) y fun a s=>?_
 obtain ⟨v,h3,u⟩:=bt u
 have d:=(d.addE (e:=SlA (α:=Channel) none 0 0 []) K9).addE (e:=SlA (α:=Stage) none 0 0 []) K9
 refine cR s (a0p h3 d.dom (d.envAt 1 y) (d.envAt 0 y)) (j3 call14 y) y ?_
 rintro aD ax w a W ⟨p5,k6,c8,rfl,X,h7⟩ s
 have d:=(d.callN W X).addE (e:=j6 c8 v.1.Channels) h7
 refine rn0 3 s y fun a s=>wa [.slice none ([]:List Channel).length 0] s d zeroValue29 fun ay a w s d=>ws [sl p5 k6 v.1.Channels] s d 0 y y y s9 fun a w s d=>rz0 1 s y fun a s=>sn0 1 s y fun a s=>ws Z6 s d 2 y y y m8 fun a w s d=>nl (sn 3 [0,3,2] s d y y fun a s=>?_)
 refine sv s (A8 (vs:=[(0,iv 2),(1,.agg Z4.toArray),(2,iv 10),(3,.agg Z6.toArray)]) a8r y y) y fun a s=>?_
 obtain ⟨i,Y,u⟩:=bt u
 obtain ⟨ap,d⟩:=C8 (α:=Channel) d 1 y 0 y
 refine cR s (a0p Y d.dom (d.envAt 0 y) (d.envAt 2 y)) (j3 call14 y) y ?_
 rintro aE aq w a aa ⟨ak,aj,T,rfl,ab,Z⟩ s
 have d:=(d.callN aa ab).addE (e:=j6 T i.1.Channels) Z
 refine rn0 3 s y fun a s=>wa [.slice none ([]:List Channel).length 0] s d zeroValue29 fun az a w s d=>ws [sl ak aj i.1.Channels] s d 0 y y y s9 fun a w s d=>rz0 1 s y fun a s=>sn 2 [2,0] s d y y fun a s=>?_
 obtain ⟨t,ac,u⟩:=bt u
 obtain ⟨ar,d⟩:=C8 (α:=Channel) d 1 y 0 y
 refine cR s (a1d ac d.dom (d.envAt 2 y) (d.envAt 0 y)) (j3 call15 y) y ?_
 rintro aF g w a ae ⟨p32,aC,U,rfl,af,ad⟩ s
 have d:=(d.callN ae af).addE (e:=j6 U t) ad
 refine rz0 1 s y fun a s=>l3 ?_
 obtain ⟨A,q,u⟩:=bt u
 obtain ⟨V,h,u⟩:=bt u
 refine C7 (fun a w=>∃ l,Sl 59 [(0,.bool V)] a∧Wd ⟨w0,S0,[]⟩ l [] [] w) ?_ ?_
 ·rcases j0 (((v.2 == 0) && (i.2 == 0)) && ((t.length:Int) == 1)) with f | f
  ·have k:=D7 q f
   obtain ⟨am,ag,k⟩:=K3 k
   obtain ⟨aA,E,aB,ai,B,C,D,ah⟩:=d.elemRV (α:=Affected) 0 y 0 y ag
   have x:=s
   have z:=d
   subst ai
   have s:=x
   have d:=z
   obtain ⟨_,_,_,_,_,rfl,rfl,rfl,rfl,rfl,⟨al,n100,O,rfl,m⟩⟩:=ah
   obtain rfl:=m.1
   have d:=d.addE (e:=SlA al _ O am.Spans) m
   rcases j0 A with b | b
   ·have c:=D7 h b
    obtain ⟨S,F,c⟩:=K3 c
    obtain ⟨R,av,H,I,J,G⟩:=d.elemRK (α:=Affected) 0 y 1 y F
    obtain ⟨_,_,_,_,_,rfl,rfl,rfl,rfl,rfl,⟨Q,n115,P,rfl,n⟩⟩:=G
    obtain rfl:=n.1
    have d:=d.addE (e:=SlA Q _ P S.Spans) n
    obtain ⟨ao,K,c⟩:=K3 c
    refine h_c [0,1,2,3,4] [] d y y (by kernel_rfl) y fun hC d=>gn 3 [0,1,2] [] s hC y y y fun a s=>gA 3 33 [3,4,5] [] s hC y y y y y y fun a s=>gm s 6 y y y hC fun a s=>gA 4 37 [7,8,9,10] [] s hC y y y y y y fun a s=>gm s 11 y y y hC fun a s=>?_
    have s:=s.bT 42 y f
    refine gt s 12 y ⟨_,y,y⟩ y hC (fun w hC=>a0u y) fun a s=>gx s 13 y ⟨_,y,y⟩ y hC C3 G2 y y B C fun a s=>gt s 14 y ⟨_,y,y⟩ y hC (fun w hC=>l7 (o':=E+0) C2 y s6 y y y) fun a s=>gt s 15 y ⟨_,y,y⟩ y hC (fun w hC=>I4 (j:=0) (hC.ownAt 0 y) y B9 s6 D y y) fun a s=>gt s 16 y ⟨_,y,y⟩ y hC (fun w hC=>Y0 (hC.ownAt 4 y) y B9 s6 y y) fun a s=>gt s 17 y ⟨_,y,y⟩ y hC (fun w hC=>a0E (by kernel_rfl) y y (M5 B8 (by kernel_rfl) (EqF.cons1 y B0 y y (D9 m7) (EqF.cons1 y B0 y y (D9 m7) (EqF.cons1 y B0 y y (D9 m7) (EqF.cons1 y B0 y y (D9 m7) EqF.nil)))))) fun a s=>gT s 18 y y hC y y k fun a s=>gm s 19 y y y hC fun a s=>?_
    have s:=s.bT 50 y b
    refine gt s 20 y ⟨_,y,y⟩ y hC (fun w hC=>a0u y) fun a s=>gx s 21 y ⟨_,y,y⟩ y hC C3 G2 y y H I fun a s=>gt s 22 y ⟨_,y,y⟩ y hC (fun w hC=>l7 (o':=R+4) C2 y K2 y y y) fun a s=>gt s 23 y ⟨_,y,y⟩ y hC (fun w hC=>H5 (j:=4) (hC.ownAt 0 y) y M1 J y) fun a s=>gt s 24 y ⟨_,y,y⟩ y hC (fun w hC=>A8 (vs:=[(0,iv 20),(1,iv 25)]) a7i y y) fun a s=>ho 25 y ?_
    refine q8 (α:=Span) (vs:=[.agg #[iv 20,iv 25]]) (cs:=[iv 20,iv 25]) (xs:=([(⟨20,25⟩:Span)]:List Span)) s d a3z y y y y y y ⟨⟨_,_,y,y,y⟩,y⟩ y ⟨_,y,y⟩ y fun au a w s d=>h_n [1,2,3,4,5] [] d y y fun hC=>h_d [1,2,3,4,5,0] [] [0,1,2,3,4] [] d y y y y fun hC=>ho 26 y ?_
    refine x9 s (a9B K d.bdom (d.bE 1 y) (d.bRow 0 y 0 y)) (j3 call42 y) ⟨_,y,y⟩ y y ?_
    rintro aw an w a L rfl s
    have d:=d.callB L
    refine h_n [1,2,3,4,5,0] [] d y y fun hC=>gT s 27 y y hC y y c fun a s=>gv s 28 y y hC (fun w hC=>J6 y) fun a s=>q9 (by kernel_rfl) ?_
    exact ⟨g,wj s d [] []⟩
   have M:=E8 h b
   refine h_c [0,1,2,3,4] [] d y y (by kernel_rfl) y fun hC d=>gn 3 [0,1,2] [] s hC y y y fun a s=>gA 3 33 [3,4,5] [] s hC y y y y y y fun a s=>gm s 6 y y y hC fun a s=>gA 4 37 [7,8,9,10] [] s hC y y y y y y fun a s=>gm s 11 y y y hC fun a s=>?_
   have s:=s.bT 42 y f
   refine gt s 12 y ⟨_,y,y⟩ y hC (fun w hC=>a0u y) fun a s=>gx s 13 y ⟨_,y,y⟩ y hC C3 G2 y y B C fun a s=>gt s 14 y ⟨_,y,y⟩ y hC (fun w hC=>l7 (o':=E+0) C2 y s6 y y y) fun a s=>gt s 15 y ⟨_,y,y⟩ y hC (fun w hC=>I4 (j:=0) (hC.ownAt 0 y) y B9 s6 D y y) fun a s=>gt s 16 y ⟨_,y,y⟩ y hC (fun w hC=>Y0 (hC.ownAt 4 y) y B9 s6 y y) fun a s=>gt s 17 y ⟨_,y,y⟩ y hC (fun w hC=>a0E (by kernel_rfl) y y (M5 B8 (by kernel_rfl) (EqF.cons1 y B0 y y (D9 m7) (EqF.cons1 y B0 y y (D9 m7) (EqF.cons1 y B0 y y (D9 m7) (EqF.cons1 y B0 y y (D9 m7) EqF.nil)))))) fun a s=>gT s 18 y y hC y y k fun a s=>gm s 19 y y y hC fun a s=>?_
   have s:=s.bF 50 y b
   refine gn 7 [20,21,22,23,24,25,26] [] s hC y y y fun a s=>gF s 27 y y hC y y M fun a s=>gv s 28 y y hC (fun w hC=>J6 y) fun a s=>q9 (by kernel_rfl) ?_
   exact ⟨g,wj s d [] []⟩
  have o:=E8 q f
  have p:A=false:=(Option.some.inj o).symm
  have N:=E8 h p
  refine h_c [0,1,2,3,4] [] d y y (by kernel_rfl) y fun hC d=>gn 3 [0,1,2] [] s hC y y y fun a s=>gA 3 33 [3,4,5] [] s hC y y y y y y fun a s=>gm s 6 y y y hC fun a s=>gA 4 37 [7,8,9,10] [] s hC y y y y y y fun a s=>gm s 11 y y y hC fun a s=>?_
  have s:=s.bF 42 y f
  refine gn 6 [12,13,14,15,16,17] [] s hC y y y fun a s=>gF s 18 y y hC y y o fun a s=>gm s 19 y y y hC fun a s=>?_
  have s:=s.bF 50 y p
  refine gn 7 [20,21,22,23,24,25,26] [] s hC y y y fun a s=>gF s 27 y y hC y y N fun a s=>gv s 28 y y hC (fun w hC=>J6 y) fun a s=>q9 (by kernel_rfl) ?_
  exact ⟨g,wj s d [] []⟩
 rintro a w ⟨l,s,d⟩
 refine tn ?_
 obtain rfl:=oi u
 exact q1 s y (d.ret y)
abbrev b3O (w0:World) (X:List Nat) (r:Dice):Rd:=fun S w v=>∃ c b a,v=pt c∧Outs X w0 S w [.box c (C94 r b a) 94]∧(Sq b a r.L).p S w
theorem b3N {w0 S0 p2 k3 l1 r} (u:b1d l1=some r) (hS:Dm S0 w0) (h4:(Sq p2 k3 l1).p S0 w0):Ck Tryz.prog 11 #[sl p2 k3 l1] w0 S0 [] b3O r:=by
 refine en 6 func11 y hS y y y fun a s d=>?_
 have d:=d.addE h4
 refine sz0 1 s y fun a s=>sn0 1 s y fun a s=>sv s (A8 (vs:=[(0,sl p2 k3 l1)]) Bld94 y y) y fun a s=>wb [sl p2 k3 l1,iv 0] s d y fun b5 a w s d=>rz0 1 s y fun a s=>?_
 obtain rfl:=oi u
 exact q1 s y (d.ret ⟨b5,p2,k3,y,(d.outs [0] (by decide) y),(d.envAt 0 y)⟩)
abbrev b0r (w0:World) (X:List Nat) (b2:Nat) (r:(Int × Dice)):(Nat→Prop)→World→Value→Prop:=fun S w v=>∃ b a,v=iv r.1∧Outs X w0 S w [.box b2 (C94 r.2 b a) 94]∧(Sq b a r.2.L).p S w
theorem u6 {w0 S0 b2 p3 k4 d1 n6 r} (u:y9 d1 n6=some r) (hS:Dm S0 w0) (hin:Ins S0 w0 [.box b2 (C94 d1 p3 k4) 94]) (h5:(Sq p3 k4 d1.L).p S0 w0):Calls Tryz.prog 23 #[pt b2,iv n6] w0 (Ret (J3 [.box b2 (C94 d1 p3 k4) 94]) w0 S0 (b0r w0 (J3 [.box b2 (C94 d1 p3 k4) 94]) b2 r)):=by
 refine enI 45 func23 y hS hin y y y fun a s d=>?_
 have d:=d.addE h5
 refine sz0 1 s y fun a s=>l3 (l3 (C7 (fun a w=>∃ h,Sl 45 [(0,pt b2),(1,iv n6),(19,.bool ((decide ((d1.L.length:Int)≤d1.At)) || (decide (n6<1))))] a∧Wd ⟨w0,S0,J3 [.box b2 (C94 d1 p3 k4) 94]⟩ h [.box b2 (C94 d1 p3 k4) 94] [Sq p3 k4 d1.L] w) ?_ ?_))
 ·refine h_c [0] [] d y y (by kernel_rfl) y fun hC d=>gn 11 [0,1,2,3,4,5,6,7,8,9,10] [0,0] s hC y y y fun a s=>gO 3 16 [11,12,13] [] s hC y y y y y y fun a s=>q9 (by kernel_rfl) ?_
  exact ⟨S0,wj s d [0] [0]⟩
 rintro a w ⟨h,s,d⟩
 refine tn (cd s u y (fun u=>?_) fun u=>?_)
 ·refine sz0 1 s y fun a s=>?_
  obtain rfl:=oi u
  exact t7 (j4 (rt s y (d.ret ⟨p3,k4,y,(d.outs [0] (by decide) y),(d.envAt 0 y)⟩)))
 refine sk (l3 ?_)
 obtain ⟨D,m,u⟩:=bt u
 obtain ⟨b,c,C,B,v,o,q,t,n⟩:=d.elemV 0 y m
 have k:=s
 have l:=d
 subst v
 have s:=k
 have d:=l
 obtain ⟨_,rfl,rfl⟩:=n
 have d:=d.addE t
 obtain ⟨f,x,u⟩:=bt u
 refine C7 (fun a w=>∃ e,Sl 45 [(0,pt b2),(1,iv n6),(5,iv f)] a∧Wd ⟨w0,S0,J3 [.box b2 (C94 d1 (some ⟨b,c,none⟩) k4) 94]⟩ e [.box b2 (C94 d1 (some ⟨b,c,none⟩) k4) 94] [Sq (some ⟨b,c,none⟩) k4 d1.L] w) ?_ ?_
 ·refine h_c [0] [0] d y y (by kernel_rfl) y fun hC d=>gn 8 [0,1,2,3,4,5,6,7] [0,0] s hC y y y fun a s=>gx s 8 y j8 y hC C5 m8 y y o q fun a s=>gv s 9 y y hC (fun w hC=>F5 (j:=0) (hC.ceAt 0 y) y s8 y) fun a s=>gm s 10 y y y hC fun a s=>gv s 11 y y hC (fun w hC=>b5R y y x) fun a s=>gv s 12 y y hC (fun w hC=>J6 y) fun a s=>q9 (by kernel_rfl) ?_
  exact ⟨h,wj s d [0] [1]⟩
 rintro a w ⟨e,s,d⟩
 refine tn (sn 7 [0] s d y y fun a s=>?_)
 refine ws [sl (some ⟨b,c,none⟩) k4 d1.L,iv (w64 (d1.At+1))] s d 0 y y y m8 fun a w s d=>nl (l3 (sz0 2 s y fun a s=>?_))
 refine A7 (fun a w=>∃ (i:Int) (g:_),a2H d1 i=some r∧Sl 45 [(5,iv i)] a∧Wd ⟨w0,S0,J3 [.box b2 (C94 d1 (some ⟨b,c,none⟩) k4) 94]⟩ g [.box b2 [sl (some ⟨b,c,none⟩) k4 d1.L,iv (w64 (d1.At+1))] 94] [Sq (some ⟨b,c,none⟩) k4 d1.L] w) ?_ ?_
 ·refine cd s u y (fun u=>?_) fun u=>?_
  ·refine j9 (rn0 3 s y fun a s=>?_)
   obtain ⟨A,z,u⟩:=bt u
   refine sv s (w9 y z) y fun a s=>nl ⟨A,e,u,wj s d [0] [0]⟩
  exact sk ⟨f,e,u,wj s d [0] [0]⟩
 rintro a w ⟨i,g,u,s,d⟩
 refine tn (sz0 2 s y fun a s=>?_)
 obtain rfl:=oi u
 exact q1 s y (d.ret ⟨(some ⟨b,c,none⟩),k4,y,(d.outs [0] (by decide) y),(d.envAt 0 y)⟩)
abbrev b0s (w0:World) (X:List Nat) (b2:Nat) (r:(Int × Dice)):(Nat→Prop)→World→Value→Prop:=fun S w v=>∃ b a,v=iv r.1∧Outs X w0 S w [.box b2 (C94 r.2 b a) 94]∧(Sq b a r.2.L).p S w
theorem M7 {w0 S0 b2 p3 k4 p7 k8 d1 l6 r} (u:O8 d1 l6=some r) (hS:Dm S0 w0) (hin:Ins S0 w0 [.box b2 (C94 d1 p3 k4) 94]) (h5:(Sq p3 k4 d1.L).p S0 w0) (h9:(Sq p7 k8 l6).p S0 w0):Calls Tryz.prog 43 #[pt b2,sl p7 k8 l6] w0 (Ret (J3 [.box b2 (C94 d1 p3 k4) 94]) w0 S0 (b0s w0 (J3 [.box b2 (C94 d1 p3 k4) 94]) b2 r)):=by
 refine enI 12 func43 y hS hin y y y fun a s d=>?_
 have d:=(d.addE h5).addE h9
 refine sz0 1 s y fun a s=>sn0 4 s y fun a s=>?_
 obtain ⟨i,k,u⟩:=bt u
 refine cR s (u6 k d.dom (d.ins [0] (by decide) y) (d.envAt 1 y)) (j3 call23 y) y ?_
 rintro E z w a m ⟨h,g,rfl,n,l⟩ s
 have d:=(d.callO [0] [] (by decide) y m n).addE (e:=Sq h g i.2.L) l
 obtain ⟨F,o,u⟩:=bt u
 obtain ⟨A,C,D,B,x,f,t,v,q⟩:=d.elemV 1 y o
 have b:=s
 have c:=d
 subst x
 have s:=b
 have d:=c
 obtain ⟨_,rfl,rfl⟩:=q
 have d:=d.addE v
 refine sv s (o7 C5 m8 y y f.1 f.2 t) y fun a s=>sv s (F5 (j:=0) (d.ceAt 0 y) y s8 y) y fun a s=>rz0 1 s y fun a s=>?_
 obtain rfl:=oi u
 exact q1 s y (d.ret ⟨h,g,y,(d.outs [0] (by decide) y),(d.envAt 1 y)⟩)
abbrev a9n (w0:World) (X:List Nat) (b2:Nat) (r:(SourceID × Dice)):(Nat→Prop)→World→Value→Prop:=fun S w v=>∃ b a,v=V32 r.1∧Outs X w0 S w [.box b2 (C94 r.2 b a) 94]∧(Sq b a r.2.L).p S w
abbrev D25t1 (b2:Nat) (b6:Nat):F7:=[(0,pt b2),(2,pt b6)]
abbrev D25t2 (b2:Nat) (e:Nat) (f:Nat) (g:Nat) (b8:Nat) (a:(Int × Dice)) (b:(Int × Dice)) (c:(Int × Dice)) (d:(Int × Dice)) (h:ByteArray) (i:ByteArray) (j:ByteArray) (k:ByteArray):Vs:=[(0,3,sl (ad b8) ([(⟨#[71,82]⟩:ByteArray),(⟨#[88]⟩:ByteArray),(⟨#[55,65]⟩:ByteArray)]:List ByteArray).length ([(⟨#[71,82]⟩:ByteArray),(⟨#[88]⟩:ByteArray),(⟨#[55,65]⟩:ByteArray)]:List ByteArray)),(1,4,pt b2),(2,5,iv a.1),(3,6,.pointer (some ⟨b8,(0+(a.1).toNat * 1),none⟩)),(4,7,.string h),(5,8,sl (ad e) ([(⟨#[70,85,82]⟩:ByteArray),(⟨#[65]⟩:ByteArray),(⟨#[65,66,67,68,69]⟩:ByteArray),(⟨#[70,85]⟩:ByteArray)]:List ByteArray).length ([(⟨#[70,85,82]⟩:ByteArray),(⟨#[65]⟩:ByteArray),(⟨#[65,66,67,68,69]⟩:ByteArray),(⟨#[70,85]⟩:ByteArray)]:List ByteArray)),(6,9,pt b2),(7,10,iv b.1),(8,11,.pointer (some ⟨e,(0+(b.1).toNat * 1),none⟩)),(9,12,.string i),(10,13,sl (ad f) ([(⟨#[]⟩:ByteArray),(⟨#[48,48]⟩:ByteArray),(⟨#[49,48]⟩:ByteArray)]:List ByteArray).length ([(⟨#[]⟩:ByteArray),(⟨#[48,48]⟩:ByteArray),(⟨#[49,48]⟩:ByteArray)]:List ByteArray)),(11,14,pt b2),(12,15,iv c.1),(13,16,.pointer (some ⟨f,(0+(c.1).toNat * 1),none⟩)),(14,17,.string j),(15,18,sl (ad g) ([(⟨#[72,72,90]⟩:ByteArray),(⟨#[72,72,78]⟩:ByteArray),(⟨#[66,72,90]⟩:ByteArray)]:List ByteArray).length ([(⟨#[72,72,90]⟩:ByteArray),(⟨#[72,72,78]⟩:ByteArray),(⟨#[66,72,90]⟩:ByteArray)]:List ByteArray)),(16,19,pt b2),(17,20,iv d.1),(18,21,.pointer (some ⟨g,(0+(d.1).toNat * 1),none⟩)),(19,22,.string k),(20,23,.agg #[.string h,.string i,.string j,.string k])]
abbrev D25t3:List Value:=Z7
abbrev D25t4:List ByteArray:=([(⟨#[71,82]⟩:ByteArray),(⟨#[88]⟩:ByteArray),(⟨#[55,65]⟩:ByteArray)]:List ByteArray)
abbrev D25t5:List Value:=Z8
abbrev D25t6:List ByteArray:=([(⟨#[70,85,82]⟩:ByteArray),(⟨#[65]⟩:ByteArray),(⟨#[65,66,67,68,69]⟩:ByteArray),(⟨#[70,85]⟩:ByteArray)]:List ByteArray)
abbrev D25t7:List Value:=Z9
abbrev D25t8:List ByteArray:=([(⟨#[]⟩:ByteArray),(⟨#[48,48]⟩:ByteArray),(⟨#[49,48]⟩:ByteArray)]:List ByteArray)
abbrev D25t9:List Value:=Z10
abbrev D25t10:List ByteArray:=([(⟨#[72,72,90]⟩:ByteArray),(⟨#[72,72,78]⟩:ByteArray),(⟨#[66,72,90]⟩:ByteArray)]:List ByteArray)
abbrev b1B:List ByteArray:=([(⟨#[]⟩:ByteArray),(⟨#[48,48]⟩:ByteArray),(⟨#[49,48]⟩:ByteArray)]:List ByteArray)
abbrev b1A:List ByteArray:=([(⟨#[71,82]⟩:ByteArray),(⟨#[88]⟩:ByteArray),(⟨#[55,65]⟩:ByteArray)]:List ByteArray)
abbrev b1z:List ByteArray:=([(⟨#[72,72,90]⟩:ByteArray),(⟨#[72,72,78]⟩:ByteArray),(⟨#[66,72,90]⟩:ByteArray)]:List ByteArray)
abbrev b1y:List ByteArray:=([(⟨#[70,85,82]⟩:ByteArray),(⟨#[65]⟩:ByteArray),(⟨#[65,66,67,68,69]⟩:ByteArray),(⟨#[70,85]⟩:ByteArray)]:List ByteArray)
theorem a6g {w0 S0 b2 p3 k4 d1 r} (u:a0H d1=some r) (hS:Dm S0 w0) (hin:Ins S0 w0 [.box b2 (C94 d1 p3 k4) 94]) (h5:(Sq p3 k4 d1.L).p S0 w0):Calls Tryz.prog 25 #[pt b2] w0 (Ret (J3 [.box b2 (C94 d1 p3 k4) 94]) w0 S0 (a9n w0 (J3 [.box b2 (C94 d1 p3 k4) 94]) b2 r)):=by
 refine enI 24 func25 y hS hin y y y fun a s d=>?_
 have d:=d.addE h5
 refine sr (wa Z3 s d zeroValue32 fun b6 a w s d=>?_)
 refine nl (l3 ?_)
 obtain ⟨D,h9,u⟩:=bt u
 obtain ⟨J,al,u⟩:=bt u
 obtain ⟨C,aM,u⟩:=bt u
 obtain ⟨K,an,u⟩:=bt u
 obtain ⟨B,aO,u⟩:=bt u
 obtain ⟨M,ap,u⟩:=bt u
 obtain ⟨z,aQ,u⟩:=bt u
 obtain ⟨N,ar,u⟩:=bt u
 refine C7 (fun a w=>∃ U c p59,Sl 24 [(2,pt b6)] a∧Wd ⟨w0,S0,J3 [.box b2 (C94 d1 p3 k4) 94]⟩ U [.box b2 (C94 z.2 p59 c) 94,.box b6 [.string J,.string K,.string M,.string N] 32] [Sq p59 c z.2.L] w) ?_ ?_
 ·refine a7h (n:=22) (Φ:=fun l a w=>∃ k m o b8 h g f c i p27 p43 p59 S,SlF 24 (D25t1 b2 b6) (D25t2 b2 k m o b8 D C B z J K M N) l a∧Wd ⟨w0,S0,J3 [.box b2 (C94 d1 p3 k4) 94]⟩ S [((bif l 21 then .box b6 [.string J,.string K,.string M,.string N] 32 else .box b6 Z3 32):Res),((bif l 17 then .box b2 (C94 z.2 p59 c) 94 else (bif l 12 then .box b2 (C94 B.2 p43 f) 94 else (bif l 7 then .box b2 (C94 C.2 p27 g) 94 else (bif l 2 then .box b2 (C94 D.2 i h) 94 else .box b2 (C94 d1 p3 k4) 94)))):Res),((bif l 0 then .row (ad b8) b1A.length b1A.length Z7 9 1 else emp):Res),((bif l 5 then .row (ad k) b1y.length b1y.length Z8 9 1 else emp):Res),((bif l 10 then .row (ad m) b1B.length b1B.length Z9 9 1 else emp):Res),((bif l 15 then .row (ad o) b1z.length b1z.length Z10 9 1 else emp):Res)] [Sq p3 k4 d1.L,a6b (l 0) (j6 Z7 b1A),a6b (l 2) (Sq i h D.2.L),a6b (l 5) (j6 Z8 b1y),a6b (l 7) (Sq p27 g C.2.L),a6b (l 10) (j6 Z9 b1B),a6b (l 12) (Sq p43 f B.2.L),a6b (l 15) (j6 Z10 b1z),a6b (l 17) (Sq p59 c z.2.L)] w) [1,1,2,3,4,1,1,3,4,5,1,1,4,5,6,1,1,5,6,7,8,9] (by kernel_rfl) y (by kernel_rfl) ?_ (U5.succ (U5.succ (U5.succ (U5.succ (U5.succ (U5.succ (U5.succ (U5.succ (U5.succ (U5.succ (U5.succ (U5.succ (U5.succ (U5.succ (U5.succ (U5.succ (U5.succ (U5.succ (U5.succ (U5.succ (U5.succ (U5.succ U5.zero ?_) ?_) ?_) ?_) ?_) ?_) ?_) ?_) ?_) ?_) ?_) ?_) ?_) ?_) ?_) ?_) ?_) ?_) ?_) ?_) ?_) ?_) ?_
  ·obtain ⟨k,m,o,b8,h,g,f,c,i,p27,p43,p59,_⟩:∃ (k:Nat) (m:Nat) (o:Nat) (b8:Nat) (h:Nat) (g:Nat) (f:Nat) (c:Nat) (i:Option Addr) (p27:Option Addr) (p43:Option Addr) (p59:Option Addr),True:=⟨0,0,0,0,0,0,0,0,none,none,none,none,j8⟩
   have d:=((d.drew).emp).emp
   have d:=((d.emp).emp).noE (Sq p59 c z.2.L)
   have d:=((d.noE (j6 Z10 b1z)).noE (Sq p43 f B.2.L)).noE (j6 Z9 b1B)
   have d:=((d.noE (Sq p27 g C.2.L)).noE (j6 Z8 b1y)).noE (Sq i h D.2.L)
   have d:=d.noE (j6 Z7 b1A)
   exact ⟨k,m,o,b8,h,g,f,c,i,p27,p43,p59,S0,SlF.init (s.wk y) (by kernel_rfl),d.gt [4,5,0,1,2,3] [8,0,1,2,3,4,5,6,7] y y⟩
  ·intro l hi hp hc a w ⟨k,m,o,b8,h,g,f,c,i,p27,p43,p59,S,hS,d⟩
   refine a2T y ?_
   have s:=hS.open_ .nil
   refine q8 (α:=ByteArray) (vs:=D25t3) (cs:=D25t3) (xs:=D25t4) s d El124 y y y y y y ⟨⟨_,y,y⟩,⟨⟨_,y,y⟩,⟨⟨_,y,y⟩,y⟩⟩⟩ y j8 y fun b8 a w s d=>?_
   have R:=Y5 hc 3 hi y
   have d:=d.opt 0 y true
   exact nl ⟨k,m,o,b8,h,g,f,c,i,p27,p43,p59,S,hS.close .nil s y (.here (.same (.same (.neg R y (.same (.same (.same (.same (.same (.same (.same (.same (.same (.same (.same (.same (.same (.same (.same (.same (.same .nil))))))))))))))))))))) 0 y,d.gt [1,2,0,4,5,6] [2,0,4,5,6,7,8,9,10] y y⟩
  ·intro l hi hp hc a w ⟨k,m,o,b8,h,g,f,c,i,p27,p43,p59,S,hS,d⟩
   refine a0F hS (.b (t:=0) y .nil) y y j8 (a0u y) (y) 1 y fun a hS=>⟨k,m,o,b8,h,g,f,c,i,p27,p43,p59,S,hS,d⟩
  ·intro l hi hp hc a w ⟨k,m,o,b8,h,g,f,c,i,p27,p43,p59,S,hS,d⟩
   have G:=Y5 hc 7 hi y
   have q:=Y5 hc 12 G y
   have A:=Y5 hc 17 q y
   have d:=d.fixR 1 (r':=.box b2 (C94 d1 p3 k4) 94) y ((bF A).trans ((bF q).trans ((bF G).trans ((bF hi)))))
   have av:=hp 1 y
   refine a2T y ?_
   have s:=hS.open_ (.v (t:=4) 1 y av .nil)
   refine cR s (u6 h9 d.dom (d.ins [1] (by decide) y) (d.envAt 0 y)) (j3 call23 y) y ?_
   rintro aU ah w a ax ⟨i,h,rfl,ay,aL⟩ s
   have d:=((d.callO [1] [0,2,3,4,5] (by decide) y ax ay).addE (e:=Sq i h D.2.L) aL).fixR 0 (r':=(bif l 17 then .box b2 (C94 z.2 p59 c) 94 else (bif l 12 then .box b2 (C94 B.2 p43 f) 94 else (bif l 7 then .box b2 (C94 C.2 p27 g) 94 else .box b2 (C94 D.2 i h) 94)))) y ((bF A).trans ((bF q).trans ((bF G)))).symm
   have d:=d.opt 0 y true
   exact nl ⟨k,m,o,b8,h,g,f,c,i,p27,p43,p59,ah,hS.close (.v (t:=4) 1 y av .nil) s y (.same (.same (.here (.same (.same (.same (.same (.same (.same (.same (.same (.same (.same (.same (.same (.same (.same (.same (.same (.same (.same .nil))))))))))))))))))))) 2 y,d.gt [1,0,2,3,4,5] [2,3,0,5,6,7,8,9,10] y y⟩
  ·intro l hi hp hc a w ⟨k,m,o,b8,h,g,f,c,i,p27,p43,p59,S,hS,d⟩
   have x:=d
   have H:=hp 0 y
   have d:=(d.fixR 2 (r':=.row (ad b8) b1A.length b1A.length Z7 9 1) y ((bT H))).yes 1 y H
   have Q:=hp 2 y
   obtain ⟨aH,W,am,V⟩:=d.elemRX (α:=ByteArray) 2 y 0 y al
   obtain ⟨_,rfl,rfl⟩:=V
   refine a0F hS (.v (t:=3) 0 y H (.v (t:=5) 2 y Q .nil)) y y j8 (o7 I0 H2 y y W.1 W.2 y) (y) 3 y fun a hS=>⟨k,m,o,b8,h,g,f,c,i,p27,p43,p59,S,hS,x⟩
  ·intro l hi hp hc a w ⟨k,m,o,b8,h,g,f,c,i,p27,p43,p59,S,hS,d⟩
   have x:=d
   have R:=hp 3 y
   have H:=hc 3 0 y R
   have d:=(d.fixR 2 (r':=.row (ad b8) b1A.length b1A.length Z7 9 1) y ((bT H))).yes 1 y H
   obtain ⟨aH,W,am,V⟩:=d.elemRX (α:=ByteArray) 2 y 0 y al
   obtain ⟨_,rfl,rfl⟩:=V
   refine a0F hS (.v (t:=6) 3 y R .nil) y y j8 (H5 (j:=0) (d.ownAt 2 y) y B0 am y) (y) 4 y fun a hS=>⟨k,m,o,b8,h,g,f,c,i,p27,p43,p59,S,hS,x⟩
  ·intro l hi hp hc a w ⟨k,m,o,b8,h,g,f,c,i,p27,p43,p59,S,hS,d⟩
   refine a2T y ?_
   have s:=hS.open_ .nil
   refine q8 (α:=ByteArray) (vs:=D25t5) (cs:=D25t5) (xs:=D25t6) s d El124 y y y y y y ⟨⟨_,y,y⟩,⟨⟨_,y,y⟩,⟨⟨_,y,y⟩,⟨⟨_,y,y⟩,y⟩⟩⟩⟩ y j8 y fun k a w s d=>?_
   have T:=Y5 hc 8 hi y
   have d:=d.opt 0 y true
   exact nl ⟨k,m,o,b8,h,g,f,c,i,p27,p43,p59,S,hS.close .nil s y (.same (.same (.same (.same (.same (.here (.same (.same (.neg T y (.same (.same (.same (.same (.same (.same (.same (.same (.same (.same (.same (.same .nil))))))))))))))))))))) 5 y,d.gt [1,2,3,0,5,6] [2,3,4,0,6,7,8,9,10] y y⟩
  ·intro l hi hp hc a w ⟨k,m,o,b8,h,g,f,c,i,p27,p43,p59,S,hS,d⟩
   refine a0F hS (.b (t:=0) y .nil) y y j8 (a0u y) (y) 6 y fun a hS=>⟨k,m,o,b8,h,g,f,c,i,p27,p43,p59,S,hS,d⟩
  ·intro l hi hp hc a w ⟨k,m,o,b8,h,g,f,c,i,p27,p43,p59,S,hS,d⟩
   have q:=Y5 hc 12 hi y
   have A:=Y5 hc 17 q y
   have Q:=hp 2 y
   have d:=(d.fixR 1 (r':=.box b2 (C94 D.2 i h) 94) y ((bF A).trans ((bF q).trans ((bF hi).trans ((bT Q)))))).yes 2 y Q
   have aw:=hp 6 y
   refine a2T y ?_
   have s:=hS.open_ (.v (t:=9) 6 y aw .nil)
   refine cR s (u6 aM d.dom (d.ins [1] (by decide) y) (d.envAt 0 y)) (j3 call23 y) y ?_
   rintro aV ai w a az ⟨p27,g,rfl,aA,aN⟩ s
   have d:=((d.callO [1] [0,2,3,4,5] (by decide) y az aA).addE (e:=Sq p27 g C.2.L) aN).fixR 0 (r':=(bif l 17 then .box b2 (C94 z.2 p59 c) 94 else (bif l 12 then .box b2 (C94 B.2 p43 f) 94 else .box b2 (C94 C.2 p27 g) 94))) y ((bF A).trans ((bF q))).symm
   have d:=d.opt 0 y true
   exact nl ⟨k,m,o,b8,h,g,f,c,i,p27,p43,p59,ai,hS.close (.v (t:=9) 6 y aw .nil) s y (.same (.same (.same (.same (.same (.same (.same (.here (.same (.same (.same (.same (.same (.same (.same (.same (.same (.same (.same (.same (.same .nil))))))))))))))))))))) 7 y,d.gt [1,0,2,3,4,5] [3,4,5,6,0,8,9,10,11] y y⟩
  ·intro l hi hp hc a w ⟨k,m,o,b8,h,g,f,c,i,p27,p43,p59,S,hS,d⟩
   have x:=d
   have I:=hp 5 y
   have d:=(d.fixR 3 (r':=.row (ad k) b1y.length b1y.length Z8 9 1) y ((bT I))).yes 3 y I
   have G:=hp 7 y
   obtain ⟨aI,Y,ao,X⟩:=d.elemRX (α:=ByteArray) 3 y 0 y an
   obtain ⟨_,rfl,rfl⟩:=X
   refine a0F hS (.v (t:=8) 5 y I (.v (t:=10) 7 y G .nil)) y y j8 (o7 I0 H2 y y Y.1 Y.2 y) (y) 8 y fun a hS=>⟨k,m,o,b8,h,g,f,c,i,p27,p43,p59,S,hS,x⟩
  ·intro l hi hp hc a w ⟨k,m,o,b8,h,g,f,c,i,p27,p43,p59,S,hS,d⟩
   have x:=d
   have T:=hp 8 y
   have I:=hc 8 5 y T
   have d:=(d.fixR 3 (r':=.row (ad k) b1y.length b1y.length Z8 9 1) y ((bT I))).yes 3 y I
   obtain ⟨aI,Y,ao,X⟩:=d.elemRX (α:=ByteArray) 3 y 0 y an
   obtain ⟨_,rfl,rfl⟩:=X
   refine a0F hS (.v (t:=11) 8 y T .nil) y y j8 (H5 (j:=0) (d.ownAt 3 y) y B0 ao y) (y) 9 y fun a hS=>⟨k,m,o,b8,h,g,f,c,i,p27,p43,p59,S,hS,x⟩
  ·intro l hi hp hc a w ⟨k,m,o,b8,h,g,f,c,i,p27,p43,p59,S,hS,d⟩
   refine a2T y ?_
   have s:=hS.open_ .nil
   refine q8 (α:=ByteArray) (vs:=D25t7) (cs:=D25t7) (xs:=D25t8) s d El124 y y y y y y ⟨⟨_,y,y⟩,⟨⟨_,y,y⟩,⟨⟨_,y,y⟩,y⟩⟩⟩ y j8 y fun m a w s d=>?_
   have O:=Y5 hc 13 hi y
   have d:=d.opt 0 y true
   exact nl ⟨k,m,o,b8,h,g,f,c,i,p27,p43,p59,S,hS.close .nil s y (.same (.same (.same (.same (.same (.same (.same (.same (.same (.same (.here (.same (.same (.neg O y (.same (.same (.same (.same (.same (.same (.same .nil))))))))))))))))))))) 10 y,d.gt [1,2,3,4,0,6] [2,3,4,5,6,0,8,9,10] y y⟩
  ·intro l hi hp hc a w ⟨k,m,o,b8,h,g,f,c,i,p27,p43,p59,S,hS,d⟩
   refine a0F hS (.b (t:=0) y .nil) y y j8 (a0u y) (y) 11 y fun a hS=>⟨k,m,o,b8,h,g,f,c,i,p27,p43,p59,S,hS,d⟩
  ·intro l hi hp hc a w ⟨k,m,o,b8,h,g,f,c,i,p27,p43,p59,S,hS,d⟩
   have A:=Y5 hc 17 hi y
   have G:=hp 7 y
   have d:=(d.fixR 1 (r':=.box b2 (C94 C.2 p27 g) 94) y ((bF A).trans ((bF hi).trans ((bT G))))).yes 4 y G
   have ae:=hp 11 y
   refine a2T y ?_
   have s:=hS.open_ (.v (t:=14) 11 y ae .nil)
   refine cR s (u6 aO d.dom (d.ins [1] (by decide) y) (d.envAt 0 y)) (j3 call23 y) y ?_
   rintro aW aj w a aB ⟨p43,f,rfl,aC,aP⟩ s
   have d:=((d.callO [1] [0,2,3,4,5] (by decide) y aB aC).addE (e:=Sq p43 f B.2.L) aP).fixR 0 (r':=(bif l 17 then .box b2 (C94 z.2 p59 c) 94 else .box b2 (C94 B.2 p43 f) 94)) y ((bF A)).symm
   have d:=d.opt 0 y true
   exact nl ⟨k,m,o,b8,h,g,f,c,i,p27,p43,p59,aj,hS.close (.v (t:=14) 11 y ae .nil) s y (.same (.same (.same (.same (.same (.same (.same (.same (.same (.same (.same (.same (.here (.same (.same (.same (.same (.same (.same (.same (.same .nil))))))))))))))))))))) 12 y,d.gt [1,0,2,3,4,5] [3,4,5,6,7,8,0,10,11] y y⟩
  ·intro l hi hp hc a w ⟨k,m,o,b8,h,g,f,c,i,p27,p43,p59,S,hS,d⟩
   have x:=d
   have E:=hp 10 y
   have d:=(d.fixR 4 (r':=.row (ad m) b1B.length b1B.length Z9 9 1) y ((bT E))).yes 5 y E
   have q:=hp 12 y
   obtain ⟨aJ,aa,aq,Z⟩:=d.elemRX (α:=ByteArray) 4 y 0 y ap
   obtain ⟨_,rfl,rfl⟩:=Z
   refine a0F hS (.v (t:=13) 10 y E (.v (t:=15) 12 y q .nil)) y y j8 (o7 I0 H2 y y aa.1 aa.2 y) (y) 13 y fun a hS=>⟨k,m,o,b8,h,g,f,c,i,p27,p43,p59,S,hS,x⟩
  ·intro l hi hp hc a w ⟨k,m,o,b8,h,g,f,c,i,p27,p43,p59,S,hS,d⟩
   have x:=d
   have O:=hp 13 y
   have E:=hc 13 10 y O
   have d:=(d.fixR 4 (r':=.row (ad m) b1B.length b1B.length Z9 9 1) y ((bT E))).yes 5 y E
   obtain ⟨aJ,aa,aq,Z⟩:=d.elemRX (α:=ByteArray) 4 y 0 y ap
   obtain ⟨_,rfl,rfl⟩:=Z
   refine a0F hS (.v (t:=16) 13 y O .nil) y y j8 (H5 (j:=0) (d.ownAt 4 y) y B0 aq y) (y) 14 y fun a hS=>⟨k,m,o,b8,h,g,f,c,i,p27,p43,p59,S,hS,x⟩
  ·intro l hi hp hc a w ⟨k,m,o,b8,h,g,f,c,i,p27,p43,p59,S,hS,d⟩
   refine a2T y ?_
   have s:=hS.open_ .nil
   refine q8 (α:=ByteArray) (vs:=D25t9) (cs:=D25t9) (xs:=D25t10) s d El124 y y y y y y ⟨⟨_,y,y⟩,⟨⟨_,y,y⟩,⟨⟨_,y,y⟩,y⟩⟩⟩ y j8 y fun o a w s d=>?_
   have P:=Y5 hc 18 hi y
   have d:=d.opt 0 y true
   exact nl ⟨k,m,o,b8,h,g,f,c,i,p27,p43,p59,S,hS.close .nil s y (.same (.same (.same (.same (.same (.same (.same (.same (.same (.same (.same (.same (.same (.same (.same (.here (.same (.same (.neg P y (.same (.same .nil))))))))))))))))))))) 15 y,d.gt [1,2,3,4,5,0] [2,3,4,5,6,7,8,0,10] y y⟩
  ·intro l hi hp hc a w ⟨k,m,o,b8,h,g,f,c,i,p27,p43,p59,S,hS,d⟩
   refine a0F hS (.b (t:=0) y .nil) y y j8 (a0u y) (y) 16 y fun a hS=>⟨k,m,o,b8,h,g,f,c,i,p27,p43,p59,S,hS,d⟩
  ·intro l hi hp hc a w ⟨k,m,o,b8,h,g,f,c,i,p27,p43,p59,S,hS,d⟩
   have q:=hp 12 y
   have d:=(d.fixR 1 (r':=.box b2 (C94 B.2 p43 f) 94) y ((bF hi).trans ((bT q)))).yes 6 y q
   have af:=hp 16 y
   refine a2T y ?_
   have s:=hS.open_ (.v (t:=19) 16 y af .nil)
   refine cR s (u6 aQ d.dom (d.ins [1] (by decide) y) (d.envAt 0 y)) (j3 call23 y) y ?_
   rintro aX ak w a aD ⟨p59,c,rfl,aE,aR⟩ s
   have d:=((d.callO [1] [0,2,3,4,5] (by decide) y aD aE).addE (e:=Sq p59 c z.2.L) aR).opt 0 y true
   exact nl ⟨k,m,o,b8,h,g,f,c,i,p27,p43,p59,ak,hS.close (.v (t:=19) 16 y af .nil) s y (.same (.same (.same (.same (.same (.same (.same (.same (.same (.same (.same (.same (.same (.same (.same (.same (.same (.here (.same (.same (.same .nil))))))))))))))))))))) 17 y,d.gt [1,0,2,3,4,5] [3,4,5,6,7,8,9,10,0] y y⟩
  ·intro l hi hp hc a w ⟨k,m,o,b8,h,g,f,c,i,p27,p43,p59,S,hS,d⟩
   have x:=d
   have F:=hp 15 y
   have d:=(d.fixR 5 (r':=.row (ad o) b1z.length b1z.length Z10 9 1) y ((bT F))).yes 7 y F
   have A:=hp 17 y
   obtain ⟨aK,ac,au,ab⟩:=d.elemRX (α:=ByteArray) 5 y 0 y ar
   obtain ⟨_,rfl,rfl⟩:=ab
   refine a0F hS (.v (t:=18) 15 y F (.v (t:=20) 17 y A .nil)) y y j8 (o7 I0 H2 y y ac.1 ac.2 y) (y) 18 y fun a hS=>⟨k,m,o,b8,h,g,f,c,i,p27,p43,p59,S,hS,x⟩
  ·intro l hi hp hc a w ⟨k,m,o,b8,h,g,f,c,i,p27,p43,p59,S,hS,d⟩
   have x:=d
   have P:=hp 18 y
   have F:=hc 18 15 y P
   have d:=(d.fixR 5 (r':=.row (ad o) b1z.length b1z.length Z10 9 1) y ((bT F))).yes 7 y F
   obtain ⟨aK,ac,au,ab⟩:=d.elemRX (α:=ByteArray) 5 y 0 y ar
   obtain ⟨_,rfl,rfl⟩:=ab
   refine a0F hS (.v (t:=21) 18 y P .nil) y y j8 (H5 (j:=0) (d.ownAt 5 y) y B0 au y) (y) 19 y fun a hS=>⟨k,m,o,b8,h,g,f,c,i,p27,p43,p59,S,hS,x⟩
  ·intro l hi hp hc a w ⟨k,m,o,b8,h,g,f,c,i,p27,p43,p59,S,hS,d⟩
   have aG:=hp 19 y
   have aF:=hp 14 y
   have aT:=hp 9 y
   have aS:=hp 4 y
   refine a0F hS (.v (t:=7) 4 y aS (.v (t:=12) 9 y aT (.v (t:=17) 14 y aF (.v (t:=22) 19 y aG .nil)))) y y j8 (A8 (vs:=[(0,.string J),(1,.string K),(2,.string M),(3,.string N)]) Bld32 y y) (y) 20 y fun a hS=>⟨k,m,o,b8,h,g,f,c,i,p27,p43,p59,S,hS,d⟩
  ·intro l hi hp hc a w ⟨k,m,o,b8,h,g,f,c,i,p27,p43,p59,S,hS,d⟩
   have d:=d.fixR 0 (r':=.box b6 Z3 32) y ((bF hi))
   have ag:=hp 20 y
   refine a2T y ?_
   have s:=hS.open_ (.b (t:=2) y (.v (t:=23) 20 y ag .nil))
   refine ws [.string J,.string K,.string M,.string N] s d 0 y y y s6 fun a w s d=>nl ⟨k,m,o,b8,h,g,f,c,i,p27,p43,p59,S,hS.close0 (.b (t:=2) y (.v (t:=23) 20 y ag .nil)) s y,d.gt [0,1,2,3,4,5] [0,1,2,3,4,5,6,7,8] y y⟩
  intro l a w hl ⟨k,m,o,b8,h,g,f,c,i,p27,p43,p59,S,hS,d⟩
  have d:=((d.yes 8 y (hl 17 (by decide))).fixR 1 (r':=.box b2 (C94 z.2 p59 c) 94) y (bT (hl 17 (by decide)))).fixR 0 (r':=.box b6 [.string J,.string K,.string M,.string N] 32) y (bT (hl 21 (by decide)))
  have s:=hS.on (.b (t:=2) y .nil)
  exact ⟨S,c,p59,wj s d [1,0] [0]⟩
 rintro a w ⟨U,c,p59,s,d⟩
 refine tn ?_
 obtain rfl:=oi u
 exact t7 (a7p s y (D8 d 1 y y B9 s6 y) (d.ret ⟨p59,c,y,(d.outs [0] (by decide) y),(d.envAt 0 y)⟩))
theorem P9 {w0 S0 n1 c b r} (u:W9 n1 c b=some r) (hS:Dm S0 w0):Ck Tryz.prog 64 #[iv n1,iv c,iv b] w0 S0 [] o5 r:=by
 refine en 15 func64 y hS y y y fun a s d=>sz0 1 s y fun a s=>sn0 4 s y fun a s=>rA 4 10 [] s d y y y y y fun a s=>rz0 1 s y fun a s=>?_
 obtain rfl:=oi u
 exact q1 s y (d.ret y)
theorem b0A {w0 S0 a1 b2 r} (u:a7m a1 b2=some r) (hS:Dm S0 w0):Ck Tryz.prog 138 #[iv a1,iv b2] w0 S0 [] K7 r:=by
 refine en 12 func138 y hS y y y fun a s d=>sz0 1 s y fun a s=>l3 ?_
 obtain ⟨j,h,u⟩:=bt u
 refine A7 (fun a w=>∃ f,Sl 12 [(0,iv j)] a∧Wd ⟨w0,S0,[]⟩ f [] [] w) ?_ ?_
 ·refine m6 (u7 (fun e a w=>∃ b,Sl 12 [(0,iv e.1),(1,iv e.2)] a∧Wd ⟨w0,S0,[]⟩ b [] [] w) (a1,b2) h ⟨S0,wj s d [] []⟩ ?_)
  clear h
  repeat clear u
  rintro e a w m ⟨b,s,d⟩ u i
  refine l3 (sz0 2 s y fun a s=>?_)
  refine cd s u y (fun u=>?_) fun u=>?_
  ·refine sk (m6 ?_)
   obtain ⟨g,k,u⟩:=bt u
   refine C7 (fun a w=>∃ c,Sl 12 [(0,iv e.2),(1,iv g)] a∧Wd ⟨w0,S0,[]⟩ c [] [] w) ?_ ?_
   ·refine h_c [] [] d y y (by kernel_rfl) y fun hC d=>gn 3 [0,1,2] [] s hC y y y fun a s=>gv s 3 y y hC (fun w hC=>b5R y y k) fun a s=>gn 2 [4,5] [] s hC y y y fun a s=>q9 (by kernel_rfl) ?_
    exact ⟨b,wj s d [] []⟩
   rintro a w ⟨c,s,d⟩
   exact l9 (tn ⟨_,io u,c,wj s d [] []⟩)
  refine u0 (j5 (j5 (o9 ?_)))
  obtain rfl:=oi u
  have l:=i _ y
  subst l
  exact tn ⟨b,wj s d [] []⟩
 rintro a w ⟨f,s,d⟩
 refine tn (sz0 2 s y fun a s=>?_)
 obtain rfl:=oi u
 exact q1 s y (d.ret y)
abbrev b3U (w0:World) (X:List Nat) (r:(Rate × Int)):Rd:=fun S w v=>v=.tuple #[V34 r.1,iv r.2]
theorem b3T {w0 S0 h g r} (u:a9c h g=some r) (hS:Dm S0 w0):Ck Tryz.prog 120 #[iv h,iv g] w0 S0 [] b3U r:=by
 refine en 26 func120 y hS y y y fun a s d=>sr (wa [iv 0,iv 0] s d zeroValue34 fun b3 a w s d=>?_)
 refine rz0 1 s y fun a s=>l3 (sn0 1 s y fun a s=>?_)
 obtain ⟨q,h4,u⟩:=bt u
 refine cV s d (P9 h4 d.bdom) (j3 call64 y) y fun a w s d=>rn0 2 s y fun a s=>?_
 obtain ⟨k,j,u⟩:=bt u
 refine y7 4 (fun a w=>∃ f,Sl 26 [(0,iv h),(1,iv g),(4,pt b3),(14,.bool k)] a∧Wd ⟨w0,S0,[]⟩ f [.box b3 [iv 0,iv 0] 34] [] w) ?_ ?_
 ·rcases j0 (!q) with e | e
  ·have s:=s.bT 10 y e
   have u:=D7 j e
   refine rn0 4 s y fun a s=>l4 ?_
   obtain rfl:=oi u
   exact tn ⟨S0,wj s d [0] []⟩
  have s:=s.bF 10 y e
  have u:=E8 j e
  refine D6 s (a0u y) ⟨_,y,y⟩ y y fun a s=>?_
  obtain ⟨v,l,u⟩:=bt u
  refine x9 s (P9 l d.bdom) (j3 call64 y) ⟨_,y,y⟩ y y ?_
  rintro z t w a m rfl s
  have d:=d.callB m
  refine rn0 2 s y fun a s=>l4 ?_
  obtain rfl:=oi u
  exact tn ⟨S0,wj s d [0] []⟩
 rintro a w ⟨f,s,d⟩
 refine nl (cd s u y (fun u=>?_) fun u=>?_)
 ·refine sr (sv s (A8 (vs:=[]) Bld34 y y) y fun a s=>?_)
  refine ws [iv 0,iv 0] s d 0 y y y G1 fun a w s d=>rz0 1 s y fun a s=>?_
  obtain rfl:=oi u
  exact t7 (j4 (Y7 s y (D8 d 0 y y L5 G1 y) (F3 y) (d.ret y)))
 refine sk (sn0 2 s y fun a s=>?_)
 obtain ⟨x,n,u⟩:=bt u
 refine cV s d (b0A n d.bdom) (j3 call138 y) y fun a w s d=>rz0 1 s y fun a s=>l3 ?_
 obtain ⟨b,o,u⟩:=bt u
 obtain ⟨c,p,u⟩:=bt u
 refine C7 (fun a w=>∃ i,Sl 26 [(4,pt b3),(5,iv 0)] a∧Wd ⟨w0,S0,[]⟩ i [.box b3 [iv b,iv c] 34] [] w) ?_ ?_
 ·refine h_c [] [] d y y (by kernel_rfl) y fun hC d=>gn 2 [0,1] [] s hC y y y fun a s=>gv s 2 y y hC (fun w hC=>y_quoM y y o) fun a s=>gn 2 [3,4] [] s hC y y y fun a s=>gv s 5 y y hC (fun w hC=>y_quoM y y p) fun a s=>gv s 6 y y hC (fun w hC=>A8 (vs:=[(0,iv b),(1,iv c)]) Bld34 y y) fun a s=>ho 7 y ?_
  refine ws [iv b,iv c] s d 0 y y y G1 fun a w s d=>h_n [] [] d y y fun hC=>gv s 8 y y hC (fun w hC=>J6 y) fun a s=>q9 (by kernel_rfl) ?_
  exact ⟨f,wj s d [0] []⟩
 rintro a w ⟨i,s,d⟩
 refine tn ?_
 obtain rfl:=oi u
 exact t7 (Y7 s y (D8 d 0 y y L5 G1 y) (F3 y) (d.ret y))
abbrev b0u (w0:World) (X:List Nat) (b2:Nat) (r:(Rate × Dice)):(Nat→Prop)→World→Value→Prop:=fun S w v=>∃ b a,v=V34 r.1∧Outs X w0 S w [.box b2 (C94 r.2 b a) 94]∧(Sq b a r.2.L).p S w
theorem b0t {w0 S0 b2 p3 k4 d1 r} (u:a4G d1=some r) (hS:Dm S0 w0) (hin:Ins S0 w0 [.box b2 (C94 d1 p3 k4) 94]) (h5:(Sq p3 k4 d1.L).p S0 w0):Calls Tryz.prog 82 #[pt b2] w0 (Ret (J3 [.box b2 (C94 d1 p3 k4) 94]) w0 S0 (b0u w0 (J3 [.box b2 (C94 d1 p3 k4) 94]) b2 r)):=by
 refine enI 16 func82 y hS hin y y y fun a s d=>?_
 have d:=d.addE h5
 refine sr (wa [iv 0,iv 0] s d zeroValue34 fun b6 a w s d=>?_)
 refine nl (sn0 1 s y fun a s=>?_)
 refine q8 (α:=Int) (vs:=Z11) (cs:=Z11) (xs:=([1,3,20,100,40,4096,7]:List Int)) s d a6U y y y y y y ⟨⟨_,y,y⟩,⟨⟨_,y,y⟩,⟨⟨_,y,y⟩,⟨⟨_,y,y⟩,⟨⟨_,y,y⟩,⟨⟨_,y,y⟩,⟨⟨_,y,y⟩,y⟩⟩⟩⟩⟩⟩⟩ y j8 y fun b8 a w s d=>?_
 obtain ⟨f,h9,u⟩:=bt u
 obtain ⟨v,d⟩:=C8 (α:=Int) d 0 y 0 y
 refine cR s (M7 h9 d.dom (d.ins [1] (by decide) y) (d.envAt 2 y) (d.envAt 0 y)) (j3 call43 y) y ?_
 rintro D x w a i ⟨t,q,rfl,j,h⟩ s
 have d:=(d.callO [1] [0] (by decide) y i j).addE (e:=Sq t q f.2.L) h
 refine mv s y y fun a s=>q8 (α:=Int) (vs:=Z12) (cs:=Z12) (xs:=([1,1,1,3,7,4096]:List Int)) s d a6U y y y y y y ⟨⟨_,y,y⟩,⟨⟨_,y,y⟩,⟨⟨_,y,y⟩,⟨⟨_,y,y⟩,⟨⟨_,y,y⟩,⟨⟨_,y,y⟩,y⟩⟩⟩⟩⟩⟩ y j8 y fun B a w s d=>?_
 obtain ⟨g,k,u⟩:=bt u
 obtain ⟨z,d⟩:=C8 (α:=Int) d 0 y 0 y
 refine cR s (M7 k d.dom (d.ins [0] (by decide) y) (d.envAt 2 y) (d.envAt 0 y)) (j3 call43 y) y ?_
 rintro E A w a m ⟨p25,c,rfl,n,l⟩ s
 have d:=(d.callO [0] [1] (by decide) y m n).addE (e:=Sq p25 c g.2.L) l
 obtain ⟨b,o,u⟩:=bt u
 refine cV s d (b3T o d.bdom) (j3 call120 y) y fun a w s d=>rn0 3 s y fun a s=>wa [iv 0,iv 0] s d zeroValue34 fun C a w s d=>ws (C34 b.1) s d 0 y y y G1 fun a w s d=>rz0 1 s y fun a s=>sn 1 [0] s d y y fun a s=>ws (C34 b.1) s d 2 y y y G1 fun a w s d=>nl ?_
 obtain rfl:=oi u
 exact t7 (a7p s y (D8 d 2 y y L5 G1 y) (d.ret ⟨p25,c,y,(d.outs [1] (by decide) y),(d.envAt 0 y)⟩))
abbrev a9N (w0:World) (X:List Nat) (b2:Nat) (r:(Stage × Dice)):(Nat→Prop)→World→Value→Prop:=fun S w v=>∃ e d c b a,v=V138 r.1 e d∧Outs X w0 S w [.row e r.1.Taps.length d c 3 1,.box b2 (C94 r.2 b a) 94]∧(j6 c r.1.Taps).p S w∧(Sq b a r.2.L).p S w
theorem a9M {w0 S0 b2 p3 k4 d1 r} (u:a2l d1=some r) (hS:Dm S0 w0) (hin:Ins S0 w0 [.box b2 (C94 d1 p3 k4) 94]) (h5:(Sq p3 k4 d1.L).p S0 w0):Calls Tryz.prog 84 #[pt b2] w0 (Ret (J3 [.box b2 (C94 d1 p3 k4) 94]) w0 S0 (a9N w0 (J3 [.box b2 (C94 d1 p3 k4) 94]) b2 r)):=by
 refine enI 77 func84 y hS hin y y y fun a s d=>?_
 have d:=d.addE h5
 refine sr (wa Z0 s d zeroValue138 fun b6 a w s d=>?_)
 refine nl (l3 (sn0 1 s y fun a s=>?_))
 obtain ⟨bQ,h7,u⟩:=bt u
 refine cR s (u6 h7 d.dom (d.ins [1] (by decide) y) (d.envAt 0 y)) (j3 call23 y) y ?_
 rintro cA b8 w a bN ⟨p9,bP,rfl,bO,bM⟩ s
 have d:=(d.callO [1] [0] (by decide) y bN bO).addE (e:=Sq p9 bP bQ.2.L) bM
 refine nl (m6 (sz0 2 s y fun a s=>?_))
 refine cd s u y (fun u=>?_) fun u=>?_
 ·refine sn0 1 s y fun a s=>?_
  obtain ⟨l,aq,u⟩:=bt u
  refine cR s (u6 aq d.dom (d.ins [0] (by decide) y) (d.envAt 0 y)) (j3 call23 y) y ?_
  rintro cl bR w a au ⟨bD,br,rfl,av,ar⟩ s
  have d:=(d.callO [0] [1] (by decide) y au av).addE (e:=Sq bD br l.2.L) ar
  refine sv s (b2M y y) y fun a s=>sv s (A8 (vs:=[(0,iv (w64 (1+l.1)))]) a6T y y) y fun a s=>mv s y y fun a s=>?_
  obtain ⟨m,aw,u⟩:=bt u
  refine cR s (u6 aw d.dom (d.ins [0] (by decide) y) (d.envAt 0 y)) (j3 call23 y) y ?_
  rintro cm bS w a ay ⟨af,X,rfl,az,ax⟩ s
  have d:=(d.callO [0] [1] (by decide) y ay az).addE (e:=Sq af X m.2.L) ax
  refine sv s (b2M y y) y fun a s=>sv s (A8 (vs:=[(0,iv (w64 (1+m.1)))]) a6T y y) y fun a s=>sv s (A8 (vs:=[(0,iv 0),(1,.agg #[iv (w64 (1+l.1)),iv 0,iv 0]),(2,.agg #[iv (w64 (1+m.1)),iv 0,iv 0])]) b5j y y) y fun a s=>ws [iv 0,iv (w64 (1+l.1)),iv 0,iv 0,iv (w64 (1+m.1)),iv 0,iv 0,.slice none ([]:List Int).length 0,iv 0,iv 0] s d 1 y y y C0 fun a w s d=>nl ?_
  obtain rfl:=oi u
  have d:=d.nilRow Int 3
  exact t7 (o8 (j4 (a7p s y (D8 d 2 y y H1 C0 y) (d.ret ⟨none,0,[],af,X,y,(d.outs [0,1] (by decide) y),(d.envAt 0 y),(d.envAt 1 y)⟩))))
 refine sz0 2 s y fun a s=>cd s u y (fun u=>?_) fun u=>?_
 ·refine sn0 1 s y fun a s=>?_
  obtain ⟨n,aA,u⟩:=bt u
  refine cR s (u6 aA d.dom (d.ins [0] (by decide) y) (d.envAt 0 y)) (j3 call23 y) y ?_
  rintro cn bT w a aC ⟨bE,bs,rfl,aD,aB⟩ s
  have d:=(d.callO [0] [1] (by decide) y aC aD).addE (e:=Sq bE bs n.2.L) aB
  refine rn0 2 s y fun a s=>?_
  obtain ⟨o,aE,u⟩:=bt u
  refine cR s (u6 aE d.dom (d.ins [0] (by decide) y) (d.envAt 0 y)) (j3 call23 y) y ?_
  rintro co bU w a aG ⟨bF,bu,rfl,aH,aF⟩ s
  have d:=(d.callO [0] [1] (by decide) y aG aH).addE (e:=Sq bF bu o.2.L) aF
  refine rn0 2 s y fun a s=>?_
  obtain ⟨q,aI,u⟩:=bt u
  refine cR s (u6 aI d.dom (d.ins [0] (by decide) y) (d.envAt 0 y)) (j3 call23 y) y ?_
  rintro cp bV w a aK ⟨bG,bv,rfl,aL,aJ⟩ s
  have d:=(d.callO [0] [1] (by decide) y aK aL).addE (e:=Sq bG bv q.2.L) aJ
  refine sv s (A8 (vs:=[(0,iv (w64 (n.1 - 4))),(1,iv (w64 (o.1 - 4))),(2,iv q.1)]) a6T y y) y fun a s=>mv s y y fun a s=>q8 (α:=Int) (vs:=Z13) (cs:=Z13) (xs:=([1,2,(-3),1048576]:List Int)) s d a6U y y y y y y ⟨⟨_,y,y⟩,⟨⟨_,y,y⟩,⟨⟨_,y,y⟩,⟨⟨_,y,y⟩,y⟩⟩⟩⟩ y j8 y fun b9 a w s d=>?_
  obtain ⟨t,aM,u⟩:=bt u
  obtain ⟨bW,d⟩:=C8 (α:=Int) d 0 y 0 y
  refine cR s (M7 aM d.dom (d.ins [0] (by decide) y) (d.envAt 2 y) (d.envAt 0 y)) (j3 call43 y) y ?_
  rintro cq bX w a aO ⟨bH,bw,rfl,aP,aN⟩ s
  have d:=(d.callO [0] [1] (by decide) y aO aP).addE (e:=Sq bH bw t.2.L) aN
  refine mv s y y fun a s=>?_
  obtain ⟨v,aQ,u⟩:=bt u
  refine cR s (u6 aQ d.dom (d.ins [0] (by decide) y) (d.envAt 0 y)) (j3 call23 y) y ?_
  rintro cr bY w a aS ⟨bI,bx,rfl,aT,aR⟩ s
  have d:=(d.callO [0] [1] (by decide) y aS aT).addE (e:=Sq bI bx v.2.L) aR
  refine rn0 2 s y fun a s=>q8 (α:=Int) (vs:=Z14) (cs:=Z14) (xs:=([0,1,1048576]:List Int)) s d a6U y y y y y y ⟨⟨_,y,y⟩,⟨⟨_,y,y⟩,⟨⟨_,y,y⟩,y⟩⟩⟩ y j8 y fun ca a w s d=>?_
  obtain ⟨x,aU,u⟩:=bt u
  obtain ⟨bZ,d⟩:=C8 (α:=Int) d 0 y 0 y
  refine cR s (M7 aU d.dom (d.ins [0] (by decide) y) (d.envAt 2 y) (d.envAt 0 y)) (j3 call43 y) y ?_
  rintro ct b0 w a aW ⟨ag,Y,rfl,aX,aV⟩ s
  have d:=(d.callO [0] [1] (by decide) y aW aX).addE (e:=Sq ag Y x.2.L) aV
  refine sv s (A8 (vs:=[(0,iv t.1),(1,iv (w64 (v.1 - 4))),(2,iv x.1)]) a6T y y) y fun a s=>sv s (A8 (vs:=[(0,iv 1),(1,.agg #[iv (w64 (n.1 - 4)),iv (w64 (o.1 - 4)),iv q.1]),(2,.agg #[iv t.1,iv (w64 (v.1 - 4)),iv x.1])]) b5j y y) y fun a s=>ws [iv 1,iv (w64 (n.1 - 4)),iv (w64 (o.1 - 4)),iv q.1,iv t.1,iv (w64 (v.1 - 4)),iv x.1,.slice none ([]:List Int).length 0,iv 0,iv 0] s d 1 y y y C0 fun a w s d=>nl ?_
  obtain rfl:=oi u
  have d:=d.nilRow Int 3
  exact t7 (o8 (j4 (a7p s y (D8 d 2 y y H1 C0 y) (d.ret ⟨none,0,[],ag,Y,y,(d.outs [0,1] (by decide) y),(d.envAt 0 y),(d.envAt 1 y)⟩))))
 refine D1 (l9 (tn (sn0 1 s y fun a s=>?_)))
 obtain ⟨b,aY,u⟩:=bt u
 refine cR s (u6 aY d.dom (d.ins [0] (by decide) y) (d.envAt 0 y)) (j3 call23 y) y ?_
 rintro cu b1 w a a0 ⟨bJ,bz,rfl,a1,aZ⟩ s
 have d:=(d.callO [0] [1] (by decide) y a0 a1).addE (e:=Sq bJ bz b.2.L) aZ
 refine sv s (b2M y y) y fun a s=>q8 (α:=Int) (vs:=[iv (w64 (1+b.1))]) (cs:=[iv (w64 (1+b.1))]) (xs:=([(w64 (1+b.1))]:List Int)) s d a6U y y y y y y ⟨⟨_,y,y⟩,y⟩ y j8 y fun Q a w s d=>mv s y y fun a s=>q8 (α:=Int) (vs:=Z15) (cs:=Z15) (xs:=([1,1,2,5]:List Int)) s d a6U y y y y y y ⟨⟨_,y,y⟩,⟨⟨_,y,y⟩,⟨⟨_,y,y⟩,⟨⟨_,y,y⟩,y⟩⟩⟩⟩ y j8 y fun cb a w s d=>?_
 obtain ⟨c,a2,u⟩:=bt u
 obtain ⟨b3,d⟩:=C8 (α:=Int) d 0 y 0 y
 refine cR s (M7 a2 d.dom (d.ins [1] (by decide) y) (d.envAt 3 y) (d.envAt 0 y)) (j3 call43 y) y ?_
 rintro cv b4 w a a4 ⟨bK,bA,rfl,a5,a3⟩ s
 have d:=(d.callO [1] [0,2] (by decide) y a4 a5).addE (e:=Sq bK bA c.2.L) a3
 refine mv s y y fun a s=>?_
 obtain ⟨f,a6,u⟩:=bt u
 refine cR s (u6 a6 d.dom (d.ins [0] (by decide) y) (d.envAt 0 y)) (j3 call23 y) y ?_
 rintro cw b5 w a a8 ⟨bL,bB,rfl,a9,a7⟩ s
 have d:=(d.callO [0] [1,2] (by decide) y a8 a9).addE (e:=Sq bL bB f.2.L) a7
 refine sv s (A8 (vs:=[(0,iv 2),(3,sl (ad Q) ([(w64 (1+b.1))]:List Int).length ([(w64 (1+b.1))]:List Int)),(4,iv c.1),(5,iv f.1)]) b5j y y) y fun a s=>wa Z0 s d zeroValue138 fun j a w s d=>ws [iv 2,iv 0,iv 0,iv 0,iv 0,iv 0,iv 0,sl (ad Q) ([(w64 (1+b.1))]:List Int).length ([(w64 (1+b.1))]:List Int),iv c.1,iv f.1] s d 0 y y y C0 fun a w s d=>nl (l3 (sn0 1 s y fun a s=>?_))
 obtain ⟨z,ba,u⟩:=bt u
 refine cR s (u6 ba d.dom (d.ins [1] (by decide) y) (d.envAt 0 y)) (j3 call23 y) y ?_
 rintro cx al w a bc ⟨ah,Z,rfl,bd,bb⟩ s
 have d:=(d.callO [1] [0,2,3] (by decide) y bc bd).addE (e:=Sq ah Z z.2.L) bb
 refine rz0 1 s y fun a s=>?_
 obtain ⟨i,W,u⟩:=bt u
 refine A7 (fun a w=>∃ S R F O J T,Sl 77 [(0,pt b2),(2,pt b6),(3,pt j)] a∧Wd ⟨w0,S0,J3 [.box b2 (C94 d1 p3 k4) 94]⟩ T [.box b2 [sl S R i.1,iv i.2.1] 94,.box b6 Z0 138,.box j [iv 2,iv 0,iv 0,iv 0,iv 0,iv 0,iv 0,sl O J i.2.2,iv c.1,iv f.1] 138,.row O i.2.2.length J F 3 1] [Sq S R i.1,Sq none 0 ([]:List Int),j6 F i.2.2] w) ?_ ?_
 ·refine m6 ?_
  have d:=d.addE (e:=SlA (α:=Int) none 0 0 []) K9
  refine u7 (fun g a w=>∃ M H E N I D,Sl 77 [(0,pt b2),(2,pt b6),(3,pt j),(4,iv g.2.2.2)] a∧Wd ⟨w0,S0,J3 [.box b2 (C94 d1 p3 k4) 94]⟩ D [.box b2 [sl M H g.1,iv g.2.1] 94,.box b6 Z0 138,.box j [iv 2,iv 0,iv 0,iv 0,iv 0,iv 0,iv 0,sl N I g.2.2.1,iv c.1,iv f.1] 138,.row N g.2.2.1.length I E 3 1] [Sq M H g.1,Sq none 0 ([]:List Int),j6 E g.2.2.1] w) (z.2.L,z.2.At,([(w64 (1+b.1))]:List Int),z.1) W ⟨ah,Z,[iv (w64 (1+b.1))],(ad Q),([(w64 (1+b.1))]:List Int).length,al,wj s d [0,3,1,2] [1,0,6]⟩ ?_
  clear W
  repeat clear u
  rintro g a w b7 ⟨M,H,E,N,I,D,s,d⟩ u an
  refine l3 (sz0 2 s y fun a s=>?_)
  refine cd s u y (fun u=>?_) fun u=>?_
  ·refine sk (l3 (m6 (sn0 1 s y fun a s=>?_)))
   obtain ⟨h,be,u⟩:=bt u
   refine cR s (u6 be d.dom (d.ins [0] (by decide) y) (d.envAt 0 y)) (j3 call23 y) y ?_
   rintro cy am w a bg ⟨ai,aa,rfl,bh,bf⟩ s
   have d:=(d.callO [0] [1,2,3] (by decide) y bg bh).addE (e:=Sq ai aa h.2.L) bf
   refine rz0 1 s y fun a s=>j9 (mv s y y fun a s=>?_)
   refine q8 (α:=Int) (vs:=[iv h.1]) (cs:=[iv h.1]) (xs:=([h.1]:List Int)) s d a6U y y y y y y ⟨⟨_,y,y⟩,y⟩ y j8 y fun cc a w s d=>rn 2 [3] s d y y fun a s=>?_
   obtain ⟨cj,bi,u⟩:=bt u
   refine F6 (α:=Int) s d a6U 0 y y y 0 y 4 y 4 y bi y j8 ?_
   intro ck ci cg a w s d
   refine mv s y y fun a s=>q8 (α:=Int) (vs:=[iv h.1]) (cs:=[iv h.1]) (xs:=([h.1]:List Int)) s d a6U y y y y y y ⟨⟨_,y,y⟩,y⟩ y j8 y fun ce a w s d=>?_
   obtain ⟨bC,bj,u⟩:=bt u
   refine F6 (α:=Int) s d a6U 1 y y y 1 y 0 y 0 y bj y j8 ?_
   intro aj ab ao a w s d
   refine sv s (l7 (o':=7) y6 y E6 y y y) y fun a s=>ws [iv 2,iv 0,iv 0,iv 0,iv 0,iv 0,iv 0,sl aj ab bC,iv c.1,iv f.1] s d 4 y y y E6 fun a w s d=>l4 ?_
   refine l9 (tn (j9 (rn0 2 s y fun a s=>?_)))
   obtain ⟨ch,bk,u⟩:=bt u
   refine sv s (w9 y bk) y fun a s=>nl ⟨_,io u,ai,aa,ao,aj,ab,am,wj s d [2,3,4,1] [4,6,0]⟩
  refine u0 (j5 (j5 (o9 ?_)))
  obtain rfl:=oi u
  have bl:=an _ y
  subst bl
  exact tn ⟨M,H,E,N,I,D,wj s d [0,1,2,3] [0,1,2]⟩
 rintro a w ⟨S,R,F,O,J,T,s,d⟩
 refine tn (l3 (sn0 1 s y fun a s=>?_))
 obtain ⟨A,bm,u⟩:=bt u
 refine cR s (u6 bm d.dom (d.ins [0] (by decide) y) (d.envAt 0 y)) (j3 call23 y) y ?_
 rintro cz U w a bo ⟨P,K,rfl,bp,bn⟩ s
 have d:=(d.callO [0] [1,2,3] (by decide) y bo bp).addE (e:=Sq P K A.2.L) bn
 refine rz0 1 s y fun a s=>A7 (fun a w=>∃ (k:(List Int)) (G C B V:_),a4h c f A k=some r∧Sl 77 [(2,pt b6),(3,pt j)] a∧Wd ⟨w0,S0,J3 [.box b2 (C94 d1 p3 k4) 94]⟩ V [.box b2 (C94 A.2 P K) 94,.box b6 Z0 138,.box j [iv 2,iv 0,iv 0,iv 0,iv 0,iv 0,iv 0,sl C B k,iv c.1,iv f.1] 138,.row C k.length B G 3 1] [Sq P K A.2.L,Sq none 0 ([]:List Int),j6 G k] w) ?_ ?_
 ·refine cd s u y (fun u=>?_) fun u=>?_
  ·refine j9 (rn 2 [2] s d y y fun a s=>?_)
   refine q8 (α:=Int) (vs:=[iv 3]) (cs:=[iv 3]) (xs:=([3]:List Int)) s d a6U y y y y y y ⟨⟨_,y,y⟩,y⟩ y j8 y fun cf a w s d=>?_
   obtain ⟨ae,bq,u⟩:=bt u
   refine F6 (α:=Int) s d a6U 4 y y y 4 y 0 y 0 y bq y j8 ?_
   intro ak ac ap a w s d
   refine sv s (l7 (o':=7) y6 y E6 y y y) y fun a s=>ws [iv 2,iv 0,iv 0,iv 0,iv 0,iv 0,iv 0,sl ak ac ae,iv c.1,iv f.1] s d 3 y y y E6 fun a w s d=>nl ⟨ae,ap,ak,ac,U,u,wj s d [1,2,3,4] [2,4,0]⟩
  exact sk ⟨i.2.2,F,O,J,U,u,wj s d [0,1,2,3] [0,2,3]⟩
 rintro a w ⟨k,G,C,B,V,u,s,d⟩
 refine tn (sn 1 [2] s d y y fun a s=>?_)
 refine ws [iv 2,iv 0,iv 0,iv 0,iv 0,iv 0,iv 0,sl C B k,iv c.1,iv f.1] s d 1 y y y C0 fun a w s d=>nl ?_
 obtain rfl:=oi u
 exact t7 (a7p s y (D8 d 1 y y H1 C0 y) (d.ret ⟨C,B,G,P,K,y,(d.outs [3,0] (by decide) y),(d.envAt 2 y),(d.envAt 0 y)⟩))
abbrev a8k (w0:World) (X:List Nat) (b2:Nat) (r:(Response × Dice)):(Nat→Prop)→World→Value→Prop:=fun S w v=>∃ e d c b a,v=.agg #[sl e d r.1.Stages]∧Outs X w0 S w [.row e r.1.Stages.length d c 138 10,.box b2 (C94 r.2 b a) 94]∧(j6 c r.1.Stages).p S w∧(Sq b a r.2.L).p S w
abbrev b4r:List Value:=[.slice none ([]:List Stage).length 0]
theorem a5h {w0 S0 b2 p3 k4 d1 r} (u:a0b d1=some r) (hS:Dm S0 w0) (hin:Ins S0 w0 [.box b2 (C94 d1 p3 k4) 94]) (h5:(Sq p3 k4 d1.L).p S0 w0):Calls Tryz.prog 46 #[pt b2] w0 (Ret (J3 [.box b2 (C94 d1 p3 k4) 94]) w0 S0 (a8k w0 (J3 [.box b2 (C94 d1 p3 k4) 94]) b2 r)):=by
 refine enI 31 func46 y hS hin y y y fun a s d=>?_
 have d:=d.addE h5
 refine sr (wa b4r s d zeroValue39 fun b6 a w s d=>?_)
 refine nl (sr (wa b4r s d zeroValue39 fun b7 a w s d=>?_))
 refine nl (sz0 1 s y fun a s=>?_)
 refine l3 (sn0 1 s y fun a s=>?_)
 obtain ⟨G,h8,u⟩:=bt u
 refine cR s (u6 h8 d.dom (d.ins [2] (by decide) y) (d.envAt 0 y)) (j3 call23 y) y ?_
 rintro aj Q w a ae ⟨P,O,rfl,af,ad⟩ s
 have d:=(d.callO [2] [0,1] (by decide) y ae af).addE (e:=Sq P O G.2.L) ad
 refine rz0 1 s y fun a s=>?_
 obtain ⟨f,I,u⟩:=bt u
 refine A7 (fun a w=>∃ x v t l h B,Sl 31 [(2,pt b6),(3,pt b7)] a∧Wd ⟨w0,S0,J3 [.box b2 (C94 d1 p3 k4) 94]⟩ B [.box b2 [sl x v f.1,iv f.2.1] 94,.box b6 b4r 39,.box b7 [sl l h f.2.2] 39,.row l f.2.2.length h t 138 10] [Sq x v f.1,Sq none 0 ([]:List Stage),j6 t f.2.2] w) ?_ ?_
 ·refine m6 ?_
  have d:=(d.nilRow Stage 138).addE (e:=SlA (α:=Stage) none 0 0 []) K9
  refine u7 (fun c a w=>∃ F E g o k z,Sl 31 [(0,pt b2),(2,pt b6),(3,pt b7),(4,iv c.2.2.2.1),(5,iv c.2.2.2.2)] a∧Wd ⟨w0,S0,J3 [.box b2 (C94 d1 p3 k4) 94]⟩ z [.box b2 [sl F E c.1,iv c.2.1] 94,.box b6 b4r 39,.box b7 [sl o k c.2.2.1] 39,.row o c.2.2.1.length k g 138 10] [Sq F E c.1,Sq none 0 ([]:List Stage),j6 g c.2.2.1] w) (G.2.L,G.2.At,([]:List Stage),1,G.1) I ⟨P,O,[],none,0,Q,wj s d [1,3,2,0] [2,0,1]⟩ ?_
  clear I
  repeat clear u
  rintro c a w N ⟨F,E,g,o,k,z,s,d⟩ u D
  refine l3 (sz0 2 s y fun a s=>?_)
  refine cd s u y (fun u=>?_) fun u=>?_
  ·refine sk (l3 (m6 (sn0 1 s y fun a s=>?_)))
   obtain ⟨b,S,u⟩:=bt u
   refine cR s (a9M S d.dom (d.ins [0] (by decide) y) (d.envAt 0 y)) (j3 call84 y) y ?_
   rintro ai q w a V ⟨m,i,A,n,j,rfl,W,T,U⟩ s
   have d:=((d.callO [0] [1,2,3] (by decide) y V W).addE (e:=j6 A b.1.Taps) T).addE (e:=Sq n j b.2.L) U
   refine wa Z0 s d zeroValue138 fun H a w s d=>ws (a2k b.1 m i) s d 0 y y y C0 fun a w s d=>nl (l3 (sz 3 [0] s d y y fun a s=>?_))
   refine A7 (fun a w=>∃ (n194:Int) (C:_),Y6 c b n194=some N∧Sl 31 [(0,pt b2),(2,pt b6),(3,pt b7),(4,iv n194),(5,iv c.2.2.2.2),(6,pt H)] a∧Wd ⟨w0,S0,J3 [.box b2 (C94 d1 p3 k4) 94]⟩ C [.box b2 (C94 b.2 n j) 94,.box b6 b4r 39,.box b7 [sl o k c.2.2.1] 39,.box H (a2k b.1 m i) 138,.row o c.2.2.1.length k g 138 10,.row m b.1.Taps.length i A 3 1] [Sq n j b.2.L,Sq none 0 ([]:List Stage),j6 g c.2.2.1,j6 A b.1.Taps] w) ?_ ?_
   ·refine cd s u y (fun u=>?_) fun u=>?_
    ·refine sn 4 [0] s d y y fun a s=>?_
     obtain ⟨n207,Z,u⟩:=bt u
     refine sv s (w9 y Z) y fun a s=>nl (sz0 2 s y fun a s=>?_)
     refine cd s u y (fun u=>?_) fun u=>?_
     ·refine u0 (j5 (j5 (b6A y (j5 (j5 (o9 ?_))))))
      obtain rfl:=oi u
      have aa:=D _ y
      subst aa
      exact tn ⟨n,j,g,o,k,q,wj s d [2,3,4,5] [0,3,4]⟩
     exact sk ⟨n207,q,u,wj s d [2,3,4,0,5,1] [0,3,4,1]⟩
    exact sk ⟨c.2.2.2.1,q,u,wj s d [2,3,4,0,5,1] [0,3,4,1]⟩
   rintro a w ⟨n194,C,u,s,d⟩
   refine tn (j9 (rn 3 [2,3] s d y y fun a s=>?_))
   obtain ⟨M,d⟩:=C8 (α:=Int) d 5 y 3 y
   refine q8 (α:=Stage) (vs:=[V138 b.1 m i]) (cs:=(a2k b.1 m i)) (xs:=([b.1]:List Stage)) s d El37 y y y y y y ⟨⟨_,_,_,_,_,_,_,_,_,_,y,y,y,y,y,y,y,y,⟨_,_,_,y,d.envAt 0 y⟩,y,y⟩,y⟩ y j8 y fun ag a w s d=>?_
   obtain ⟨ac,X,u⟩:=bt u
   refine F6 (α:=Stage) s d El37 5 y y y 4 y 0 y 0 y X y j8 ?_
   intro K J R a w s d
   refine sv s (l7 (o':=0) J1 y L3 y y y) y fun a s=>ws [sl K J ac] s d 3 y y y L3 fun a w s d=>l4 ?_
   refine l9 (tn (j9 (rn0 2 s y fun a s=>?_)))
   obtain ⟨ah,Y,u⟩:=bt u
   refine sv s (w9 y Y) y fun a s=>nl ⟨_,io u,n,j,R,K,J,M,wj s d [1,2,3,5] [3,4,0]⟩
  refine u0 (j5 (j5 (o9 ?_)))
  obtain rfl:=oi u
  have ab:=D _ y
  subst ab
  exact tn ⟨F,E,g,o,k,z,wj s d [0,1,2,3] [0,1,2]⟩
 rintro a w ⟨x,v,t,l,h,B,s,d⟩
 refine tn (sn 1 [2] s d y y fun a s=>?_)
 refine ws [sl l h f.2.2] s d 1 y y y G0 fun a w s d=>nl ?_
 obtain rfl:=oi u
 exact t7 (a7p s y (D8 d 1 y y O2 G0 y) (d.ret ⟨l,h,t,x,v,y,(d.outs [3,0] (by decide) y),(d.envAt 2 y),(d.envAt 0 y)⟩))
abbrev a9L (w0:World) (X:List Nat) (b2:Nat) (r:(Epoch × Dice)):(Nat→Prop)→World→Value→Prop:=fun S w v=>∃ e d c b a,v=V41 r.1 e d∧Outs X w0 S w [.row e r.1.Response.Stages.length d c 138 10,.box b2 (C94 r.2 b a) 94]∧(j6 c r.1.Response.Stages).p S w∧(Sq b a r.2.L).p S w
abbrev D44t1 (b2:Nat) (b:Nat) (b6:Nat) (a:Int):F7:=[(0,pt b2),(2,pt b6),(3,iv a),(4,pt b)]
abbrev D44t2 (b2:Nat) (g:Nat) (h:Nat) (i:Nat) (a:Int) (c:(Rate × Dice)) (b:(Int × Dice)) (d:(Int × Dice)) (e:(Int × Dice)) (f:(Int × Dice)):Vs:=[(0,12,iv a),(1,13,iv a),(2,14,pt b2),(3,15,iv b.1),(4,16,iv (w64 (1+b.1))),(5,17,iv (w64 (1000 * (w64 (1+b.1))))),(6,18,iv (w64 (a+(w64 (1000 * (w64 (1+b.1))))))),(7,19,V34 c.1),(8,20,pt b2),(9,21,sl (ad g) ([0,500,(-1048576),1048576]:List Int).length ([0,500,(-1048576),1048576]:List Int)),(10,22,iv d.1),(11,23,pt b2),(12,24,iv e.1),(13,25,pt b2),(14,26,sl (ad h) ([0,(-200),(-16384)]:List Int).length ([0,(-200),(-16384)]:List Int)),(15,27,iv f.1),(16,28,.agg #[iv d.1,iv e.1,iv f.1]),(17,29,.agg #[iv a,iv (w64 (a+(w64 (1000 * (w64 (1+b.1)))))),iv c.1.Num,iv c.1.Den,iv d.1,iv e.1,iv f.1,.slice none ([]:List Stage).length 0]),(18,5,pt i)]
abbrev D44t3:List Value:=Z16
abbrev D44t4:List Int:=([0,500,(-1048576),1048576]:List Int)
abbrev D44t5:List Value:=Z17
abbrev D44t6:List Int:=([0,(-200),(-16384)]:List Int)
abbrev b4q (a:Int) (c:(Int × Dice)) (b:(Rate × Dice)) (d:(Int × Dice)) (e:(Int × Dice)) (f:(Int × Dice)):List Value:=[iv a,iv (w64 (a+(w64 (1000 * (w64 (1+c.1)))))),iv b.1.Num,iv b.1.Den,iv d.1,iv e.1,iv f.1,.slice none ([]:List Stage).length 0]
abbrev a6I:List Int:=([0,500,(-1048576),1048576]:List Int)
theorem a9K {w0 S0 b2 p3 k4 d1 r} (u:a3T d1=some r) (hS:Dm S0 w0) (hin:Ins S0 w0 [.box b2 (C94 d1 p3 k4) 94]) (h5:(Sq p3 k4 d1.L).p S0 w0):Calls Tryz.prog 44 #[pt b2] w0 (Ret (J3 [.box b2 (C94 d1 p3 k4) 94]) w0 S0 (a9L w0 (J3 [.box b2 (C94 d1 p3 k4) 94]) b2 r)):=by
 refine enI 37 func44 y hS hin y y y fun a s d=>?_
 have d:=d.addE h5
 refine sr (wa Z1 s d zeroValue41 fun b6 a w s d=>?_)
 refine nl (sn0 1 s y fun a s=>?_)
 obtain ⟨au,h7,u⟩:=bt u
 refine cR s (u6 h7 d.dom (d.ins [1] (by decide) y) (d.envAt 0 y)) (j3 call23 y) y ?_
 rintro bk be w a aP ⟨p9,ar,rfl,aQ,aO⟩ s
 have d:=(d.callO [1] [0] (by decide) y aP aQ).addE (e:=Sq p9 ar au.2.L) aO
 refine rn0 2 s y fun a s=>?_
 obtain ⟨m,aR,u⟩:=bt u
 refine sv s (w9 y aR) y fun a s=>nl (sn0 1 s y fun a s=>?_)
 obtain ⟨q,aS,u⟩:=bt u
 refine cR s (b0t aS d.dom (d.ins [0] (by decide) y) (d.envAt 0 y)) (j3 call82 y) y ?_
 rintro bl av w a aU ⟨W,V,rfl,aV,aT⟩ s
 have d:=(d.callO [0] [1] (by decide) y aU aV).addE (e:=Sq W V q.2.L) aT
 refine wa [iv 0,iv 0] s d zeroValue34 fun ao a w s d=>ws (C34 q.1) s d 0 y y y G1 fun a w s d=>nl (l3 ?_)
 obtain ⟨A,aW,u⟩:=bt u
 obtain ⟨z,aY,u⟩:=bt u
 obtain ⟨x,a0,u⟩:=bt u
 obtain ⟨o,a2,u⟩:=bt u
 refine C7 (fun a w=>∃ X c f p53,Sl 37 [(0,pt b2),(2,pt b6),(5,pt c)] a∧Wd ⟨w0,S0,J3 [.box b2 (C94 d1 p3 k4) 94]⟩ X [.box b2 (C94 o.2 p53 f) 94,.box b6 Z1 41,.box c (b4q m A q z x o) 41] [Sq p53 f o.2.L,Sq none 0 ([]:List Stage)] w) ?_ ?_
 ·refine a7h (n:=20) (Φ:=fun l a w=>∃ h i c k j g f p34 p41 p46 p53 S,SlF 37 (D44t1 b2 ao b6 m) (D44t2 b2 h i c m q A z x o) l a∧Wd ⟨w0,S0,J3 [.box b2 (C94 d1 p3 k4) 94]⟩ S [.box ao (C34 q.1) 34,((bif l 15 then .box b2 (C94 o.2 p53 f) 94 else (bif l 12 then .box b2 (C94 x.2 p46 g) 94 else (bif l 10 then .box b2 (C94 z.2 p41 j) 94 else (bif l 3 then .box b2 (C94 A.2 p34 k) 94 else .box b2 (C94 q.2 W V) 94)))):Res),.box b6 Z1 41,((bif l 10 then emp else (bif l 9 then .row (ad h) a6I.length a6I.length Z16 3 1 else emp)):Res),((bif l 15 then emp else (bif l 14 then .row (ad i) ([0,(-200),(-16384)]:List Int).length ([0,(-200),(-16384)]:List Int).length Z17 3 1 else emp)):Res),((bif l 19 then .box c (b4q m A q z x o) 41 else (bif l 18 then .box c Z1 41 else emp)):Res)] [Sq W V q.2.L,Sq p9 ar au.2.L,Sq p3 k4 d1.L,a6b (l 3) (Sq p34 k A.2.L),a6b (l 9) (j6 Z16 a6I),a6b (l 10) (Sq (ad h) a6I.length a6I),a6b (l 10) (Sq p41 j z.2.L),a6b (l 12) (Sq p46 g x.2.L),a6b (l 14) (j6 Z17 ([0,(-200),(-16384)]:List Int)),a6b (l 15) (Sq (ad i) ([0,(-200),(-16384)]:List Int).length ([0,(-200),(-16384)]:List Int)),a6b (l 15) (Sq p53 f o.2.L)] w) [1,1,1,2,3,4,5,1,1,1,3,1,4,1,1,5,6,7,1,8] (by kernel_rfl) y (by kernel_rfl) ?_ (U5.succ (U5.succ (U5.succ (U5.succ (U5.succ (U5.succ (U5.succ (U5.succ (U5.succ (U5.succ (U5.succ (U5.succ (U5.succ (U5.succ (U5.succ (U5.succ (U5.succ (U5.succ (U5.succ (U5.succ U5.zero ?_) ?_) ?_) ?_) ?_) ?_) ?_) ?_) ?_) ?_) ?_) ?_) ?_) ?_) ?_) ?_) ?_) ?_) ?_) ?_) ?_
  ·obtain ⟨h,i,c,k,j,g,f,p34,p41,p46,p53,_⟩:∃ (h:Nat) (i:Nat) (c:Nat) (k:Nat) (j:Nat) (g:Nat) (f:Nat) (p34:Option Addr) (p41:Option Addr) (p46:Option Addr) (p53:Option Addr),True:=⟨0,0,0,0,0,0,0,none,none,none,none,j8⟩
   have d:=((d.drew).emp).emp
   have d:=((d.emp).noE (Sq p53 f o.2.L)).noE (Sq (ad i) ([0,(-200),(-16384)]:List Int).length ([0,(-200),(-16384)]:List Int))
   have d:=((d.noE (j6 Z17 ([0,(-200),(-16384)]:List Int))).noE (Sq p46 g x.2.L)).noE (Sq p41 j z.2.L)
   have d:=((d.noE (Sq (ad h) a6I.length a6I)).noE (j6 Z16 a6I)).noE (Sq p34 k A.2.L)
   exact ⟨h,i,c,k,j,g,f,p34,p41,p46,p53,av,SlF.init (s.wk y) (by kernel_rfl),d.gt [3,4,5,0,1,2] [8,9,10,0,1,2,3,4,5,6,7] y y⟩
  ·intro l hi hp hc a w ⟨h,i,c,k,j,g,f,p34,p41,p46,p53,S,hS,d⟩
   refine a0F hS (.b (t:=3) y .nil) y y j8 (a0u y) (y) 0 y fun a hS=>⟨h,i,c,k,j,g,f,p34,p41,p46,p53,S,hS,d⟩
  ·intro l hi hp hc a w ⟨h,i,c,k,j,g,f,p34,p41,p46,p53,S,hS,d⟩
   refine a0F hS (.b (t:=3) y .nil) y y j8 (a0u y) (y) 1 y fun a hS=>⟨h,i,c,k,j,g,f,p34,p41,p46,p53,S,hS,d⟩
  ·intro l hi hp hc a w ⟨h,i,c,k,j,g,f,p34,p41,p46,p53,S,hS,d⟩
   refine a0F hS (.b (t:=0) y .nil) y y j8 (a0u y) (y) 2 y fun a hS=>⟨h,i,c,k,j,g,f,p34,p41,p46,p53,S,hS,d⟩
  ·intro l hi hp hc a w ⟨h,i,c,k,j,g,f,p34,p41,p46,p53,S,hS,d⟩
   have D:=Y5 hc 10 hi y
   have C:=Y5 hc 12 D y
   have B:=Y5 hc 15 C y
   have d:=d.fixR 1 (r':=.box b2 (C94 q.2 W V) 94) y ((bF B).trans ((bF C).trans ((bF D).trans ((bF hi)))))
   have ap:=hp 2 y
   refine a2T y ?_
   have s:=hS.open_ (.v (t:=14) 2 y ap .nil)
   refine cR s (u6 aW d.dom (d.ins [1] (by decide) y) (d.envAt 0 y)) (j3 call23 y) y ?_
   rintro bm aw w a a4 ⟨p34,k,rfl,a5,aX⟩ s
   have d:=((d.callO [1] [0,2,3,4,5] (by decide) y a4 a5).addE (e:=Sq p34 k A.2.L) aX).fixR 0 (r':=(bif l 15 then .box b2 (C94 o.2 p53 f) 94 else (bif l 12 then .box b2 (C94 x.2 p46 g) 94 else (bif l 10 then .box b2 (C94 z.2 p41 j) 94 else .box b2 (C94 A.2 p34 k) 94)))) y ((bF B).trans ((bF C).trans ((bF D)))).symm
   have d:=d.opt 0 y true
   exact nl ⟨h,i,c,k,j,g,f,p34,p41,p46,p53,aw,hS.close (.v (t:=14) 2 y ap .nil) s y (.same (.same (.same (.here (.same (.same (.same (.same (.same (.same (.same (.same (.same (.same (.same (.same (.same (.same (.same .nil))))))))))))))))))) 3 y,d.gt [1,0,2,3,4,5] [2,3,4,0,6,7,8,9,10,11,12] y y⟩
  ·intro l hi hp hc a w ⟨h,i,c,k,j,g,f,p34,p41,p46,p53,S,hS,d⟩
   have T:=hp 3 y
   refine a0F hS (.v (t:=15) 3 y T .nil) y y j8 (b2M y y) (y) 4 y fun a hS=>⟨h,i,c,k,j,g,f,p34,p41,p46,p53,S,hS,d⟩
  ·intro l hi hp hc a w ⟨h,i,c,k,j,g,f,p34,p41,p46,p53,S,hS,d⟩
   have a8:=hp 4 y
   refine a0F hS (.v (t:=16) 4 y a8 .nil) y y j8 (y_mul y y) (y) 5 y fun a hS=>⟨h,i,c,k,j,g,f,p34,p41,p46,p53,S,hS,d⟩
  ·intro l hi hp hc a w ⟨h,i,c,k,j,g,f,p34,p41,p46,p53,S,hS,d⟩
   have a9:=hp 5 y
   have a7:=hp 1 y
   refine a0F hS (.v (t:=13) 1 y a7 (.v (t:=17) 5 y a9 .nil)) y y j8 (b2M y y) (y) 6 y fun a hS=>⟨h,i,c,k,j,g,f,p34,p41,p46,p53,S,hS,d⟩
  ·intro l hi hp hc a w ⟨h,i,c,k,j,g,f,p34,p41,p46,p53,S,hS,d⟩
   refine a0F hS (.b (t:=4) y .nil) y y j8 (Y0 (d.ownAt 0 y) y L5 G1 y y) (y) 7 y fun a hS=>⟨h,i,c,k,j,g,f,p34,p41,p46,p53,S,hS,d⟩
  ·intro l hi hp hc a w ⟨h,i,c,k,j,g,f,p34,p41,p46,p53,S,hS,d⟩
   refine a0F hS (.b (t:=0) y .nil) y y j8 (a0u y) (y) 8 y fun a hS=>⟨h,i,c,k,j,g,f,p34,p41,p46,p53,S,hS,d⟩
  ·intro l hi hp hc a w ⟨h,i,c,k,j,g,f,p34,p41,p46,p53,S,hS,d⟩
   refine a2T y ?_
   have s:=hS.open_ .nil
   refine q8 (α:=Int) (vs:=D44t3) (cs:=D44t3) (xs:=D44t4) s d a6U y y y y y y ⟨⟨_,y,y⟩,⟨⟨_,y,y⟩,⟨⟨_,y,y⟩,⟨⟨_,y,y⟩,y⟩⟩⟩⟩ y j8 y fun h a w s d=>?_
   have D:=Y5 hc 10 hi y
   have d:=((d.fixR 0 (r':=(bif l 10 then emp else .row (ad h) a6I.length a6I.length Z16 3 1)) y ((bF D)).symm).opt 0 y true).noL D (Sq (ad h) a6I.length a6I)
   exact nl ⟨h,i,c,k,j,g,f,p34,p41,p46,p53,S,hS.close .nil s y (.same (.same (.same (.same (.same (.same (.same (.same (.same (.here (.same (.same (.same (.same (.same (.same (.same (.same (.same .nil))))))))))))))))))) 9 y,d.gt [1,2,3,0,5,6] [3,4,5,6,1,0,9,10,11,12,13] y y⟩
  ·intro l hi hp hc a w ⟨h,i,c,k,j,g,f,p34,p41,p46,p53,S,hS,d⟩
   have C:=Y5 hc 12 hi y
   have B:=Y5 hc 15 C y
   have T:=hp 3 y
   have d:=d.fixR 1 (r':=.box b2 (C94 A.2 p34 k) 94) y ((bF B).trans ((bF C).trans ((bF hi).trans ((bT T)))))
   have U:=hp 9 y
   have d:=((d.fixR 3 (r':=.row (ad h) a6I.length a6I.length Z16 3 1) y ((bF hi).trans ((bT U)))).yes 3 y T).yes 5 y U
   have aq:=hp 8 y
   refine a2T y ?_
   have s:=hS.open_ (.v (t:=20) 8 y aq (.v (t:=21) 9 y U .nil))
   obtain ⟨bc,d⟩:=C8 (α:=Int) d 3 y 0 y
   refine cR s (M7 aY d.dom (d.ins [1] (by decide) y) (d.envAt 2 y) (d.envAt 0 y)) (j3 call43 y) y ?_
   rintro bf aj w a ax ⟨p41,j,rfl,ay,aZ⟩ s
   have d:=((d.callO [1] [0,2,3,4] (by decide) y ax ay).addE (e:=Sq p41 j z.2.L) aZ).fixR 0 (r':=(bif l 15 then .box b2 (C94 o.2 p53 f) 94 else (bif l 12 then .box b2 (C94 x.2 p46 g) 94 else .box b2 (C94 z.2 p41 j) 94))) y ((bF B).trans ((bF C))).symm
   have d:=((d.emp).opt 1 y true).opt 1 y true
   exact nl ⟨h,i,c,k,j,g,f,p34,p41,p46,p53,aj,hS.close (.v (t:=20) 8 y aq (.v (t:=21) 9 y U .nil)) s y (.same (.same (.same (.same (.same (.same (.same (.same (.same (.same (.here (.same (.same (.same (.same (.same (.same (.same (.same .nil))))))))))))))))))) 10 y,d.gt [2,1,3,0,4,5] [6,7,8,9,10,1,0,13,14,15,16] y y⟩
  ·intro l hi hp hc a w ⟨h,i,c,k,j,g,f,p34,p41,p46,p53,S,hS,d⟩
   refine a0F hS (.b (t:=0) y .nil) y y j8 (a0u y) (y) 11 y fun a hS=>⟨h,i,c,k,j,g,f,p34,p41,p46,p53,S,hS,d⟩
  ·intro l hi hp hc a w ⟨h,i,c,k,j,g,f,p34,p41,p46,p53,S,hS,d⟩
   have B:=Y5 hc 15 hi y
   have D:=hp 10 y
   have d:=(d.fixR 1 (r':=.box b2 (C94 z.2 p41 j) 94) y ((bF B).trans ((bF hi).trans ((bT D))))).yes 6 y D
   have Z:=hp 11 y
   refine a2T y ?_
   have s:=hS.open_ (.v (t:=23) 11 y Z .nil)
   refine cR s (u6 a0 d.dom (d.ins [1] (by decide) y) (d.envAt 0 y)) (j3 call23 y) y ?_
   rintro bg ak w a az ⟨p46,g,rfl,aA,a1⟩ s
   have d:=((d.callO [1] [0,2,3,4,5] (by decide) y az aA).addE (e:=Sq p46 g x.2.L) a1).fixR 0 (r':=(bif l 15 then .box b2 (C94 o.2 p53 f) 94 else .box b2 (C94 x.2 p46 g) 94)) y ((bF B)).symm
   have d:=d.opt 0 y true
   exact nl ⟨h,i,c,k,j,g,f,p34,p41,p46,p53,ak,hS.close (.v (t:=23) 11 y Z .nil) s y (.same (.same (.same (.same (.same (.same (.same (.same (.same (.same (.same (.same (.here (.same (.same (.same (.same (.same (.same .nil))))))))))))))))))) 12 y,d.gt [1,0,2,3,4,5] [3,4,5,6,7,8,9,0,11,12,13] y y⟩
  ·intro l hi hp hc a w ⟨h,i,c,k,j,g,f,p34,p41,p46,p53,S,hS,d⟩
   refine a0F hS (.b (t:=0) y .nil) y y j8 (a0u y) (y) 13 y fun a hS=>⟨h,i,c,k,j,g,f,p34,p41,p46,p53,S,hS,d⟩
  ·intro l hi hp hc a w ⟨h,i,c,k,j,g,f,p34,p41,p46,p53,S,hS,d⟩
   refine a2T y ?_
   have s:=hS.open_ .nil
   refine q8 (α:=Int) (vs:=D44t5) (cs:=D44t5) (xs:=D44t6) s d a6U y y y y y y ⟨⟨_,y,y⟩,⟨⟨_,y,y⟩,⟨⟨_,y,y⟩,y⟩⟩⟩ y j8 y fun i a w s d=>?_
   have B:=Y5 hc 15 hi y
   have d:=((d.fixR 0 (r':=(bif l 15 then emp else .row (ad i) ([0,(-200),(-16384)]:List Int).length ([0,(-200),(-16384)]:List Int).length Z17 3 1)) y ((bF B)).symm).opt 0 y true).noL B (Sq (ad i) ([0,(-200),(-16384)]:List Int).length ([0,(-200),(-16384)]:List Int))
   exact nl ⟨h,i,c,k,j,g,f,p34,p41,p46,p53,S,hS.close .nil s y (.same (.same (.same (.same (.same (.same (.same (.same (.same (.same (.same (.same (.same (.same (.here (.same (.same (.same (.same .nil))))))))))))))))))) 14 y,d.gt [1,2,3,4,0,6] [3,4,5,6,7,8,9,10,1,0,13] y y⟩
  ·intro l hi hp hc a w ⟨h,i,c,k,j,g,f,p34,p41,p46,p53,S,hS,d⟩
   have C:=hp 12 y
   have d:=d.fixR 1 (r':=.box b2 (C94 x.2 p46 g) 94) y ((bF hi).trans ((bT C)))
   have J:=hp 14 y
   have d:=((d.fixR 4 (r':=.row (ad i) ([0,(-200),(-16384)]:List Int).length ([0,(-200),(-16384)]:List Int).length Z17 3 1) y ((bF hi).trans ((bT J)))).yes 7 y C).yes 9 y J
   have aa:=hp 13 y
   refine a2T y ?_
   have s:=hS.open_ (.v (t:=25) 13 y aa (.v (t:=26) 14 y J .nil))
   obtain ⟨bd,d⟩:=C8 (α:=Int) d 4 y 0 y
   refine cR s (M7 a2 d.dom (d.ins [1] (by decide) y) (d.envAt 2 y) (d.envAt 0 y)) (j3 call43 y) y ?_
   rintro bh al w a aB ⟨p53,f,rfl,aC,a3⟩ s
   have d:=((d.callO [1] [0,2,3,4] (by decide) y aB aC).addE (e:=Sq p53 f o.2.L) a3).emp
   have d:=(d.opt 1 y true).opt 1 y true
   exact nl ⟨h,i,c,k,j,g,f,p34,p41,p46,p53,al,hS.close (.v (t:=25) 13 y aa (.v (t:=26) 14 y J .nil)) s y (.same (.same (.same (.same (.same (.same (.same (.same (.same (.same (.same (.same (.same (.same (.same (.here (.same (.same (.same .nil))))))))))))))))))) 15 y,d.gt [2,1,3,4,0,5] [6,7,8,9,10,11,12,13,14,1,0] y y⟩
  ·intro l hi hp hc a w ⟨h,i,c,k,j,g,f,p34,p41,p46,p53,S,hS,d⟩
   have B:=hp 15 y
   have C:=hp 12 y
   have D:=hp 10 y
   refine a0F hS (.v (t:=22) 10 y D (.v (t:=24) 12 y C (.v (t:=27) 15 y B .nil))) y y j8 (A8 (vs:=[(0,iv z.1),(1,iv x.1),(2,iv o.1)]) Bld36 y y) (y) 16 y fun a hS=>⟨h,i,c,k,j,g,f,p34,p41,p46,p53,S,hS,d⟩
  ·intro l hi hp hc a w ⟨h,i,c,k,j,g,f,p34,p41,p46,p53,S,hS,d⟩
   have aM:=hp 16 y
   have bb:=hp 7 y
   have ba:=hp 6 y
   have a6:=hp 0 y
   refine a0F hS (.v (t:=12) 0 y a6 (.v (t:=18) 6 y ba (.v (t:=19) 7 y bb (.v (t:=28) 16 y aM .nil)))) y y j8 (A8 (vs:=[(0,iv m),(1,iv (w64 (m+(w64 (1000 * (w64 (1+A.1))))))),(2,V34 q.1),(3,.agg #[iv z.1,iv x.1,iv o.1])]) Bld41 y y) (y) 17 y fun a hS=>⟨h,i,c,k,j,g,f,p34,p41,p46,p53,S,hS,d⟩
  ·intro l hi hp hc a w ⟨h,i,c,k,j,g,f,p34,p41,p46,p53,S,hS,d⟩
   refine a2T y ?_
   have s:=hS.open_ .nil
   refine wa Z1 s d zeroValue41 fun c a w s d=>?_
   have aN:=Y5 hc 19 hi y
   have d:=d.fixR 0 (r':=(bif l 19 then .box c (b4q m A q z x o) 41 else .box c Z1 41)) y ((bF aN)).symm
   exact nl ⟨h,i,c,k,j,g,f,p34,p41,p46,p53,S,hS.close .nil s y (.same (.same (.same (.same (.same (.same (.same (.same (.same (.same (.same (.same (.same (.same (.same (.same (.same (.same (.here .nil))))))))))))))))))) 18 y,d.gt [1,2,3,4,5,0] [0,1,2,3,4,5,6,7,8,9,10] y y⟩
  ·intro l hi hp hc a w ⟨h,i,c,k,j,g,f,p34,p41,p46,p53,S,hS,d⟩
   have P:=hp 18 y
   have d:=d.fixR 5 (r':=.box c Z1 41) y ((bF hi).trans ((bT P)))
   have ab:=hp 17 y
   refine a2T y ?_
   have s:=hS.open_ (.v (t:=5) 18 y P (.v (t:=29) 17 y ab .nil))
   refine ws (b4q m A q z x o) s d 5 y y y t6 fun a w s d=>nl ⟨h,i,c,k,j,g,f,p34,p41,p46,p53,S,hS.close0 (.v (t:=5) 18 y P (.v (t:=29) 17 y ab .nil)) s y,d.gt [0,1,2,3,4,5] [0,1,2,3,4,5,6,7,8,9,10] y y⟩
  intro l a w hl ⟨h,i,c,k,j,g,f,p34,p41,p46,p53,S,hS,d⟩
  have d:=((d.yes 10 y (hl 15 (by decide))).fixR 1 (r':=.box b2 (C94 o.2 p53 f) 94) y (bT (hl 15 (by decide)))).fixR 5 (r':=.box c (b4q m A q z x o) 41) y (bT (hl 19 (by decide)))
  have s:=hS.on (.b (t:=0) y (.b (t:=2) y (.v (t:=5) 18 y (hl 18 (by decide)) .nil)))
  have d:=d.addE (e:=SlA (α:=Stage) none 0 0 []) K9
  exact ⟨S,c,f,p53,wj s d [1,2,5] [1,0]⟩
 rintro a w ⟨X,c,f,p53,s,d⟩
 refine tn (l3 (sn0 1 s y fun a s=>?_))
 obtain ⟨N,aD,u⟩:=bt u
 refine cR s (u6 aD d.dom (d.ins [0] (by decide) y) (d.envAt 0 y)) (j3 call23 y) y ?_
 rintro bi am w a aF ⟨ag,ac,rfl,aG,aE⟩ s
 have d:=(d.callO [0] [1,2] (by decide) y aF aG).addE (e:=Sq ag ac N.2.L) aE
 refine rz0 1 s y fun a s=>A7 (fun a w=>∃ (O:(List Int)) (Q:Int) (F:(List Stage)) (M K I H G R:_),a4g m q A z x o O Q F=some r∧Sl 37 [(2,pt b6),(5,pt c)] a∧Wd ⟨w0,S0,J3 [.box b2 (C94 d1 p3 k4) 94]⟩ R [.box b2 [sl M K O,iv Q] 94,.box b6 Z1 41,.box c [iv m,iv (w64 (m+(w64 (1000 * (w64 (1+A.1)))))),iv q.1.Num,iv q.1.Den,iv z.1,iv x.1,iv o.1,sl H G F] 41,.row H F.length G I 138 10] [Sq M K O,Sq none 0 ([]:List Stage),j6 I F] w) ?_ ?_
 ·refine cd s u y (fun u=>?_) fun u=>?_
  ·refine j9 (mv s y y fun a s=>?_)
   obtain ⟨E,aH,u⟩:=bt u
   refine cR s (a5h aH d.dom (d.ins [0] (by decide) y) (d.envAt 0 y)) (j3 call46 y) y ?_
   rintro bj an w a aK ⟨ah,ae,Y,ai,af,rfl,aL,aI,aJ⟩ s
   have d:=((d.callO [0] [1,2] (by decide) y aK aL).addE (e:=j6 Y E.1.Stages) aI).addE (e:=Sq ai af E.2.L) aJ
   refine sv s (l7 (o':=7) B7 y G0 y y y) y fun a s=>ws [iv m,iv (w64 (m+(w64 (1000 * (w64 (1+A.1)))))),iv q.1.Num,iv q.1.Den,iv z.1,iv x.1,iv o.1,sl ah ae E.1.Stages] s d 3 y y y G0 fun a w s d=>nl ⟨E.2.L,E.2.At,E.1.Stages,ai,af,Y,ah,ae,an,u,wj s d [1,2,3,0] [0,4,1]⟩
  refine sk ?_
  have d:=d.nilRow Stage 138
  exact ⟨N.2.L,N.2.At,([]:List Stage),ag,ac,[],none,0,am,u,wj s d [1,2,3,0] [1,3,0]⟩
 rintro a w ⟨O,Q,F,M,K,I,H,G,R,u,s,d⟩
 refine tn (sn 1 [2] s d y y fun a s=>?_)
 refine ws [iv m,iv (w64 (m+(w64 (1000 * (w64 (1+A.1)))))),iv q.1.Num,iv q.1.Den,iv z.1,iv x.1,iv o.1,sl H G F] s d 1 y y y t6 fun a w s d=>nl ?_
 obtain rfl:=oi u
 exact t7 (a7p s y (D8 d 1 y y E3 t6 y) (d.ret ⟨H,G,I,M,K,y,(d.outs [3,0] (by decide) y),(d.envAt 2 y),(d.envAt 0 y)⟩))
abbrev b2Y (w0:World) (X:List Nat) (r:Response):Rd:=fun S w v=>∃ c b a,v=.agg #[sl c b r.Stages]∧Outs X w0 S w [.row c r.Stages.length b a 138 10]∧(j6 a r.Stages).p S w
abbrev E83_0:List Value:=[.slice none ([]:List Stage).length 0]
theorem b2X {w0 S0 p2 k3 r1 r} (u:a9T r1=some r) (hS:Dm S0 w0) (h4:(Sq p2 k3 r1.Stages).p S0 w0):Ck Tryz.prog 83 #[.agg #[sl p2 k3 r1.Stages]] w0 S0 [] b2Y r:=by
 refine en 29 func83 y hS y y y fun a s d=>?_
 have d:=d.addE h4
 refine sr (wb [sl p2 k3 r1.Stages] s d y fun b5 a w s d=>?_)
 refine wa E83_0 s d zeroValue39 fun b6 a w s d=>nl (sr (wa E83_0 s d zeroValue39 fun b7 a w s d=>?_))
 refine nl (l3 (sz0 1 s y fun a s=>?_))
 obtain ⟨h,A,u⟩:=bt u
 refine A7 (fun a w=>∃ g f c o,Sl 29 [(2,pt b6),(3,pt b7)] a∧Wd ⟨w0,S0,[]⟩ o [.box b6 E83_0 39,.box b7 [sl f c h] 39,.row f h.length c g 138 10] [Sq none 0 ([]:List Stage),j6 g h] w) ?_ ?_
 ·refine m6 ?_
  have d:=(d.nilRow Stage 138).addE (e:=SlA (α:=Stage) none 0 0 []) K9
  refine u7 (fun k a w=>∃ q v t l,Sl 29 [(1,pt b5),(2,pt b6),(3,pt b7),(4,iv k.2)] a∧Wd ⟨w0,S0,[]⟩ l [.box b5 [sl p2 k3 r1.Stages] 39,.box b6 E83_0 39,.box b7 [sl v t k.1] 39,.row v k.1.length t q 138 10] [Sq p2 k3 r1.Stages,Sq none 0 ([]:List Stage),j6 q k.1] w) (([]:List Stage),0) A ⟨[],none,0,S0,wj s d [3,2,1,0] [2,0,1]⟩ ?_
  clear A
  repeat clear u
  rintro k a w U ⟨q,v,t,l,s,d⟩ u I
  refine l3 (sz 5 [0] s d y y fun a s=>?_)
  refine cd s u y (fun u=>?_) fun u=>?_
  ·refine sk (l3 (m6 (sn 3 [0] s d y y fun a s=>?_)))
   obtain ⟨b,K,u⟩:=bt u
   obtain ⟨V,ab,ac,Y,O,x,M,N,L⟩:=d.elemV 0 y K
   have B:=s
   have C:=d
   subst O
   have s:=B
   have d:=C
   obtain ⟨_,_,_,_,_,_,_,_,_,_,rfl,rfl,rfl,rfl,rfl,rfl,rfl,rfl,⟨F,n174,D,rfl,z⟩,rfl,rfl⟩:=L
   obtain rfl:=z.1
   have d:=(d.addE (e:=SlA F _ D b.Taps) z).addE N
   refine sv s (o7 C4 C0 y y x.1 x.2 M) y fun a s=>sv s (D5 (j:=0) (d.ceAt 0 y) y H1 C0 y y) y fun a s=>wa Z0 s d zeroValue138 fun W a w s d=>ws (a2k b F D) s d 0 y y y C0 fun a w s d=>nl (sn 2 [0] s d y y fun a s=>?_)
   obtain ⟨i,P,u⟩:=bt u
   have d:=d.nilRow Int 3
   refine R4 (α:=Int) s d a6U 0 y y y 0 y 2 y P y j8 ?_
   intro n m Z a w s d
   refine sv s (l7 (o':=7) y6 y E6 y y y) y fun a s=>ws (a2k ⟨b.Kind,b.Num,b.Den,i,b.Factor,b.Shift⟩ n m) s d 1 y y y E6 fun a w s d=>nl (j9 (rn 3 [4,1] s d y y fun a s=>?_))
   obtain ⟨H,d⟩:=C8 (α:=Int) d 0 y 0 y
   refine q8 (α:=Stage) (vs:=[V138 ⟨b.Kind,b.Num,b.Den,i,b.Factor,b.Shift⟩ n m]) (cs:=(a2k ⟨b.Kind,b.Num,b.Den,i,b.Factor,b.Shift⟩ n m)) (xs:=([(⟨b.Kind,b.Num,b.Den,i,b.Factor,b.Shift⟩:Stage)]:List Stage)) s d El37 y y y y y y ⟨⟨_,_,_,_,_,_,_,_,_,_,y,y,y,y,y,y,y,y,⟨_,_,_,y,d.envAt 0 y⟩,y,y⟩,y⟩ y j8 y fun X a w s d=>?_
   obtain ⟨T,Q,u⟩:=bt u
   refine F6 (α:=Stage) s d El37 5 y y y 8 y 0 y 0 y Q y j8 ?_
   intro G E J a w s d
   refine sv s (l7 (o':=0) J1 y L3 y y y) y fun a s=>ws [sl G E T] s d 4 y y y L3 fun a w s d=>l4 ?_
   refine l9 (tn (j9 (rn0 2 s y fun a s=>?_)))
   obtain ⟨aa,R,u⟩:=bt u
   refine sv s (w9 y R) y fun a s=>nl ⟨_,io u,J,G,E,H,wj s d [2,3,4,5] [7,8,0]⟩
  refine u0 (j5 (j5 (o9 ?_)))
  obtain rfl:=oi u
  have S:=I _ y
  subst S
  exact tn ⟨q,v,t,l,wj s d [1,2,3] [1,2]⟩
 rintro a w ⟨g,f,c,o,s,d⟩
 refine tn (sn 1 [1] s d y y fun a s=>?_)
 refine ws [sl f c h] s d 0 y y y G0 fun a w s d=>nl ?_
 obtain rfl:=oi u
 exact t7 (a7p s y (D8 d 0 y y O2 G0 y) (d.ret ⟨f,c,g,y,(d.outs [2] (by decide) y),(d.envAt 1 y)⟩))
theorem a0c {w0 S0 p2 k3 e1 r} (u:U2 e1=some r) (hS:Dm S0 w0) (h4:(Sq p2 k3 e1.Response.Stages).p S0 w0):Ck Tryz.prog 45 #[V41 e1 p2 k3] w0 S0 [] a4D r:=by
 refine en 8 func45 y hS y y y fun a s d=>?_
 have d:=d.addE h4
 refine sr (wb (C41 e1 p2 k3) s d y fun b5 a w s d=>?_)
 refine wa Z1 s d zeroValue41 fun b6 a w s d=>nl (sn 2 [1] s d y y fun a s=>?_)
 obtain ⟨c,h7,u⟩:=bt u
 refine cR s (b2X h7 d.dom (d.envAt 0 y)) (j3 call83 y) y ?_
 rintro k j w a h ⟨p9,b,f,rfl,i,g⟩ s
 have d:=(d.callN h i).addE (e:=j6 f c.Stages) g
 refine sv s (l7 (o':=7) B7 y G0 y y y) y fun a s=>ws (C41 ⟨e1.From,e1.To,e1.Rate,e1.Position,c⟩ p9 b) s d 2 y y y G0 fun a w s d=>nl (sn 1 [2] s d y y fun a s=>?_)
 refine ws (C41 ⟨e1.From,e1.To,e1.Rate,e1.Position,c⟩ p9 b) s d 1 y y y t6 fun a w s d=>nl ?_
 obtain rfl:=oi u
 exact t7 (a7p s y (D8 d 1 y y E3 t6 y) (d.ret ⟨p9,b,f,y,(d.outs [0] (by decide) y),(d.envAt 0 y)⟩))
abbrev a9m (w0:World) (X:List Nat) (b2:Nat) (r:(Change × Dice)):(Nat→Prop)→World→Value→Prop:=fun S w v=>∃ d b a e c,v=V43 r.1 d b∧Outs X w0 S w [.row d r.1.Epoch.Response.Stages.length b a 138 10,.box b2 (C94 r.2 e c) 94]∧(j6 a r.1.Epoch.Response.Stages).p S w∧(Sq e c r.2.L).p S w
theorem L6 {w0 S0 b2 p3 k4 p7 k8 d1 N r} (u:K4 d1 N=some r) (hS:Dm S0 w0) (hin:Ins S0 w0 [.box b2 (C94 d1 p3 k4) 94]) (h5:(Sq p3 k4 d1.L).p S0 w0) (h9:(Sq p7 k8 N.Channels).p S0 w0):Calls Tryz.prog 13 #[pt b2,.agg #[sl p7 k8 N.Channels]] w0 (Ret (J3 [.box b2 (C94 d1 p3 k4) 94]) w0 S0 (a9m w0 (J3 [.box b2 (C94 d1 p3 k4) 94]) b2 r)):=by
 refine enI 94 func13 y hS hin y y y fun a s d=>?_
 have d:=(d.addE h5).addE h9
 refine sr (wb [sl p7 k8 N.Channels] s d y fun b0 a w s d=>?_)
 refine wa Z18 s d zeroValue43 fun l a w s d=>nl (sn0 1 s y fun a s=>?_)
 refine q8 (α:=Int) (vs:=Z19) (cs:=Z19) (xs:=([0,0,1,2]:List Int)) s d a6U y y y y y y ⟨⟨_,y,y⟩,⟨⟨_,y,y⟩,⟨⟨_,y,y⟩,⟨⟨_,y,y⟩,y⟩⟩⟩⟩ y j8 y fun eg a w s d=>?_
 obtain ⟨g,dz,u⟩:=bt u
 obtain ⟨dS,d⟩:=C8 (α:=Int) d 0 y 0 y
 refine cR s (M7 dz d.dom (d.ins [2] (by decide) y) (d.envAt 3 y) (d.envAt 0 y)) (j3 call43 y) y ?_
 rintro eh dT w a dB ⟨dN,dM,rfl,dC,dA⟩ s
 have d:=(d.callO [2] [0,1] (by decide) y dB dC).addE (e:=Sq dN dM g.2.L) dA
 refine mv s y y fun a s=>?_
 obtain ⟨f,dD,u⟩:=bt u
 refine cR s (a6g dD d.dom (d.ins [0] (by decide) y) (d.envAt 0 y)) (j3 call25 y) y ?_
 rintro ei cL w a dF ⟨p28,cI,rfl,dG,dE⟩ s
 have d:=(d.callO [0] [1,2] (by decide) y dF dG).addE (e:=Sq p28 cI f.2.L) dE
 refine sv s (A8 (vs:=[(0,iv g.1),(1,V32 f.1)]) a8r y y) y fun a s=>wa Z18 s d zeroValue43 fun m a w s d=>ws [iv g.1,.string f.1.Network,.string f.1.Station,.string f.1.Location,.string f.1.Channel,iv 0,iv 0,iv 0,iv 0,iv 0,iv 0,iv 0,iv 0,.slice none ([]:List Stage).length 0] s d 0 y y y A0 fun a w s d=>nl (l3 (sz 3 [0] s d y y fun a s=>?_))
 refine A7 (fun a w=>∃ (b6:(List Int)) (cw:Int) (W:Int) (x:Int) (z:Int) (A:Int) (B:Int) (C:Int) (D:Int) (E:Int) (h:(List Stage)) (p54 b3 o p57 n bN:_),a0w N g f b6 cw W x z A B C D E h=some r∧Sl 94 [(0,pt b2),(3,pt b0),(4,pt l),(5,pt m)] a∧Wd ⟨w0,S0,J3 [.box b2 (C94 d1 p3 k4) 94]⟩ bN [.box b2 [sl p54 b3 b6,iv cw] 94,.box b0 [sl p7 k8 N.Channels] 29,.box l Z18 43,.box m [iv g.1,.string f.1.Network,.string f.1.Station,.string f.1.Location,.string f.1.Channel,iv W,iv x,iv z,iv A,iv B,iv C,iv D,iv E,sl p57 n h] 43,.row p57 h.length n o 138 10] [Sq p54 b3 b6,Sq p7 k8 N.Channels,Sq none 0 ([]:List Stage),j6 o h] w) ?_ ?_
 ·refine cd s u y (fun u=>?_) fun u=>?_
  ·refine sn0 1 s y fun a s=>?_
   obtain ⟨c,dt,u⟩:=bt u
   refine cR s (a9K dt d.dom (d.ins [1] (by decide) y) (d.envAt 0 y)) (j3 call44 y) y ?_
   rintro ef cG w a dw ⟨bW,bU,b8,cv,cq,rfl,dx,du,dv⟩ s
   have d:=((d.callO [1] [0,2,3] (by decide) y dw dx).addE (e:=j6 b8 c.1.Response.Stages) du).addE (e:=Sq cv cq c.2.L) dv
   refine sv s (l7 (o':=6) H0 y t6 y y y) y fun a s=>ws [iv g.1,.string f.1.Network,.string f.1.Station,.string f.1.Location,.string f.1.Channel,iv 0,iv c.1.From,iv c.1.To,iv c.1.Rate.Num,iv c.1.Rate.Den,iv c.1.Position.X,iv c.1.Position.Y,iv c.1.Position.Z,sl bW bU c.1.Response.Stages] s d 2 y y y t6 fun a w s d=>nl (j9 (rn 4 [2] s d y y fun a s=>?_))
   refine ws [iv g.1,.string f.1.Network,.string f.1.Station,.string f.1.Location,.string f.1.Channel,iv c.1.From,iv c.1.From,iv c.1.To,iv c.1.Rate.Num,iv c.1.Rate.Den,iv c.1.Position.X,iv c.1.Position.Y,iv c.1.Position.Z,sl bW bU c.1.Response.Stages] s d 2 y y y m8 fun a w s d=>nl ?_
   have d:=d.addE (e:=SlA (α:=Stage) none 0 0 []) K9
   exact ⟨c.2.L,c.2.At,c.1.From,c.1.From,c.1.To,c.1.Rate.Num,c.1.Rate.Den,c.1.Position.X,c.1.Position.Y,c.1.Position.Z,c.1.Response.Stages,cv,cq,b8,bW,bU,cG,u,wj s d [1,4,3,2,0] [1,7,0,2]⟩
  refine sk ?_
  have d:=(d.nilRow Stage 138).addE (e:=SlA (α:=Stage) none 0 0 []) K9
  exact ⟨f.2.L,f.2.At,0,0,0,0,0,0,0,0,([]:List Stage),p28,cI,[],none,0,cL,u,wj s d [2,4,3,1,0] [2,6,0,1]⟩
 rintro a w ⟨b6,cw,W,x,z,A,B,C,D,E,h,p54,b3,o,p57,n,bN,u,s,d⟩
 refine tn (l3 (sn 3 [1] s d y y fun a s=>?_))
 obtain ⟨n72,dH,u⟩:=bt u
 refine sv s (w9 y dH) y fun a s=>nl (sn0 3 s y fun a s=>?_)
 obtain ⟨az,ci,u⟩:=bt u
 refine y7 4 (fun a w=>∃ b5 b4 bO,Sl 94 [(0,pt b2),(3,pt b0),(4,pt l),(5,pt m),(6,iv n72),(35,.bool az.2.2)] a∧Wd ⟨w0,S0,J3 [.box b2 (C94 d1 p3 k4) 94]⟩ bO [.box b2 [sl b5 b4 az.1,iv az.2.1] 94,.box b0 [sl p7 k8 N.Channels] 29,.box l Z18 43,.box m [iv g.1,.string f.1.Network,.string f.1.Station,.string f.1.Location,.string f.1.Channel,iv W,iv x,iv z,iv A,iv B,iv C,iv D,iv E,sl p57 n h] 43,.row p57 h.length n o 138 10] [Sq b5 b4 az.1,Sq p7 k8 N.Channels,Sq none 0 ([]:List Stage),j6 o h] w) ?_ ?_
 ·rcases j0 (decide (0<n72)) with bM | bM
  ·have s:=s.bT 31 y bM
   have u:=D7 ci bM
   refine D6 s (a0u y) ⟨_,y,y⟩ y y fun a s=>?_
   obtain ⟨dy,dI,u⟩:=bt u
   refine x9 s (u6 dI d.dom (d.ins [0] (by decide) y) (d.envAt 0 y)) (j3 call23 y) ⟨_,y,y⟩ y y ?_
   rintro ej cM w a dK ⟨cK,cJ,rfl,dL,dJ⟩ s
   have d:=(d.callO [0] [1,2,3,4] (by decide) y dK dL).addE (e:=Sq cK cJ dy.2.L) dJ
   refine rn0 2 s y fun a s=>l4 ?_
   obtain rfl:=oi u
   exact tn ⟨cK,cJ,cM,wj s d [0,1,2,3,4] [0,2,3,4]⟩
  have s:=s.bF 31 y bM
  have u:=E8 ci bM
  refine rn0 4 s y fun a s=>l4 ?_
  obtain rfl:=oi u
  exact tn ⟨p54,b3,bN,wj s d [0,1,2,3,4] [0,1,2,3]⟩
 rintro a w ⟨b5,b4,bO,s,d⟩
 refine nl (A7 (fun a w=>∃ (bb:(List Int)) (bX:Int) (bc:ByteArray) (bd:ByteArray) (be:ByteArray) (bf:ByteArray) (bg:Int) (bh:Int) (bi:Int) (bj:Int) (bk:Int) (bl:Int) (bm:Int) (bn:Int) (ac:(List Stage)) (a0 aP aJ an ak bY:_),a1v g bb bX bc bd be bf bg bh bi bj bk bl bm bn ac=some r∧Sl 94 [(4,pt l),(5,pt m)] a∧Wd ⟨w0,S0,J3 [.box b2 (C94 d1 p3 k4) 94]⟩ bY [.box b2 [sl a0 aP bb,iv bX] 94,.box l Z18 43,.box m [iv g.1,.string bc,.string bd,.string be,.string bf,iv bg,iv bh,iv bi,iv bj,iv bk,iv bl,iv bm,iv bn,sl an ak ac] 43,.row an ac.length ak aJ 138 10] [Sq a0 aP bb,Sq none 0 ([]:List Stage),j6 aJ ac] w) ?_ ?_)
 ·refine cd s u y (fun u=>?_) fun u=>?_
  ·refine l3 ?_
   obtain ⟨P,b9,u⟩:=bt u
   obtain ⟨i,cO,u⟩:=bt u
   obtain ⟨dU,dZ,d2,dW,cS,ca,cb,cQ,cP⟩:=d.elemV 1 y cO
   have cj:=s
   have cl:=d
   subst cS
   have s:=cj
   have d:=cl
   obtain ⟨_,_,_,_,_,rfl,rfl,rfl,rfl,rfl,⟨ao,n332,al,rfl,cc⟩⟩:=cP
   obtain rfl:=cc.1
   have d:=(d.addE (e:=SlA ao _ al i.Epochs) cc).addE cQ
   refine C7 (fun a w=>∃ aA R F I,Sl 94 [(0,pt b2),(4,pt l),(5,pt m),(7,pt R)] a∧Wd ⟨w0,S0,J3 [.box b2 (C94 d1 p3 k4) 94]⟩ aA [.box b2 (C94 P.2 I F) 94,.box l Z18 43,.box m [iv g.1,.string f.1.Network,.string f.1.Station,.string f.1.Location,.string f.1.Channel,iv W,iv x,iv z,iv A,iv B,iv C,iv D,iv E,sl p57 n h] 43,.box R (C73 i ao al) 73,.row p57 h.length n o 138 10] [Sq I F P.2.L,Sq none 0 ([]:List Stage),Sq ao al i.Epochs,j6 o h] w) ?_ ?_
   ·refine h_c [1,2,3,4] [0] d y y (by kernel_rfl) y fun hC d=>gn 4 [0,1,2,3] [0] s hC y y y fun a s=>a2E (rs:=[4,7]) (by kernel_rfl) y ?_
    refine Q7.cons y ?_ ?_
    ·refine cR s (u6 b9 d.dom (d.ins [0] (by decide) y) (d.envAt 2 y)) (j3 call23 y) y ?_
     rintro d4 cx w a cT ⟨I,F,rfl,cU,bP⟩ s
     have d:=(d.callO [0] [1,2,3,4] (by decide) y cT cU).addE (e:=Sq I F P.2.L) bP
     refine h_n [1,2,3,4] [1] d y y fun hC=>gx s 5 y j8 y hC m5 o3 y y ca cb fun a s=>gv s 6 y y hC (fun w hC=>D5 (j:=0) (hC.ceAt 0 y) y F2 o3 y y) fun a s=>ho 7 y ?_
     refine wa Z2 s d zeroValue73 fun R a w s d=>h_n [2,3,4,5] [1] d y y fun hC=>ho 8 y ?_
     refine ws (C73 i ao al) s d 0 y y y o3 fun a w s d=>h_n [2,3,4,5] [1] d y y fun hC=>q9 (by kernel_rfl) ?_
     exact ⟨cx,R,F,I,wj s d [1,3,4,0,5] [0,5,2,6]⟩
    refine Q7.cons y ?_ ?_
    ·refine wa Z2 s d zeroValue73 fun R a w s d=>h_n [2,3,4,5] [0] d y y fun hC=>ho 4 y ?_
     refine cR s (u6 b9 d.dom (d.ins [1] (by decide) y) (d.envAt 2 y)) (j3 call23 y) y ?_
     rintro d5 cy w a cV ⟨I,F,rfl,cW,bP⟩ s
     have d:=(d.callO [1] [0,2,3,4,5] (by decide) y cV cW).addE (e:=Sq I F P.2.L) bP
     refine h_n [2,3,4,5] [1] d y y fun hC=>gx s 5 y j8 y hC m5 o3 y y ca cb fun a s=>gv s 6 y y hC (fun w hC=>D5 (j:=0) (hC.ceAt 0 y) y F2 o3 y y) fun a s=>ho 8 y ?_
     refine ws (C73 i ao al) s d 1 y y y o3 fun a w s d=>h_n [2,3,4,5] [1] d y y fun hC=>q9 (by kernel_rfl) ?_
     exact ⟨cy,R,F,I,wj s d [0,3,4,1,5] [0,5,2,6]⟩
    exact Q7.nil
   rintro a w ⟨aA,R,F,I,s,d⟩
   refine tn (sn 3 [3] s d y y fun a s=>?_)
   refine ws (C43 ⟨g.1,i.Source,W,⟨x,z,⟨A,B⟩,⟨C,D,E⟩,⟨h⟩⟩⟩ p57 n) s d 2 y y y s6 fun a w s d=>nl (sz 3 [2] s d y y fun a s=>?_)
   refine A7 (fun a w=>∃ (aq:(List Int)) (bo:Int) (bp:Int) (bq:Int) (br:Int) (bs:Int) (bu:Int) (bv:Int) (bw:Int) (bx:Int) (ad:(List Stage)) (a1 aQ aK a2 aR aB:_),a1w g i aq bo bp bq br bs bu bv bw bx ad=some r∧Sl 94 [(4,pt l),(5,pt m)] a∧Wd ⟨w0,S0,J3 [.box b2 (C94 d1 p3 k4) 94]⟩ aB [.box b2 [sl a1 aQ aq,iv bo] 94,.box l Z18 43,.box m (C43 ⟨g.1,i.Source,bp,⟨bq,br,⟨bs,bu⟩,⟨bv,bw,bx⟩,⟨ad⟩⟩⟩ a2 aR) 43,.row a2 ad.length aR aK 138 10] [Sq a1 aQ aq,Sq none 0 ([]:List Stage),j6 aK ad] w) ?_ ?_
   ·refine cd s u y (fun u=>?_) fun u=>?_
    ·refine l3 ?_
     obtain ⟨ah,ce,u⟩:=bt u
     obtain ⟨k,cX,u⟩:=bt u
     obtain ⟨dV,d0,d3,dX,c0,cf,cg,cZ,cY⟩:=d.elemV 2 y cX
     have ck:=s
     have cm:=d
     subst c0
     have s:=ck
     have d:=cm
     obtain ⟨_,_,_,_,_,_,_,_,rfl,rfl,rfl,rfl,rfl,rfl,rfl,rfl,⟨T,dY,S,rfl,ch⟩⟩:=cY
     obtain rfl:=ch.1
     have d:=(d.addE (e:=SlA T _ S k.Response.Stages) ch).addE cZ
     refine C7 (fun a w=>∃ aC M G J,Sl 94 [(0,pt b2),(4,pt l),(5,pt m),(8,pt M)] a∧Wd ⟨w0,S0,J3 [.box b2 (C94 d1 p3 k4) 94]⟩ aC [.box b2 (C94 ah.2 J G) 94,.box l Z18 43,.box m (C43 ⟨g.1,i.Source,W,⟨x,z,⟨A,B⟩,⟨C,D,E⟩,⟨h⟩⟩⟩ p57 n) 43,.box M (C41 k T S) 41,.row p57 h.length n o 138 10] [Sq J G ah.2.L,Sq none 0 ([]:List Stage),Sq T S k.Response.Stages,j6 o h] w) ?_ ?_
     ·refine h_c [1,2,3,4] [0] d y y (by kernel_rfl) y fun hC d=>gn 6 [0,1,2,3,4,5] [2,2] s hC y y y fun a s=>a2E (rs:=[6,9]) (by kernel_rfl) y ?_
      refine Q7.cons y ?_ ?_
      ·refine cR s (u6 ce d.dom (d.ins [0] (by decide) y) (d.envAt 2 y)) (j3 call23 y) y ?_
       rintro d6 cz w a c1 ⟨J,G,rfl,c2,bQ⟩ s
       have d:=(d.callO [0] [1,2,3,4] (by decide) y c1 c2).addE (e:=Sq J G ah.2.L) bQ
       refine h_n [1,2,3,4] [1] d y y fun hC=>gx s 7 y j8 y hC o4 t6 y y cf cg fun a s=>gv s 8 y y hC (fun w hC=>D5 (j:=0) (hC.ceAt 0 y) y E3 t6 y y) fun a s=>ho 9 y ?_
       refine wa Z1 s d zeroValue41 fun M a w s d=>h_n [2,3,4,5] [1] d y y fun hC=>ho 10 y ?_
       refine ws (C41 k T S) s d 0 y y y t6 fun a w s d=>h_n [2,3,4,5] [1] d y y fun hC=>q9 (by kernel_rfl) ?_
       exact ⟨cz,M,G,J,wj s d [1,2,3,0,5] [0,4,2,6]⟩
      refine Q7.cons y ?_ ?_
      ·refine wa Z1 s d zeroValue41 fun M a w s d=>h_n [2,3,4,5] [0] d y y fun hC=>ho 6 y ?_
       refine cR s (u6 ce d.dom (d.ins [1] (by decide) y) (d.envAt 2 y)) (j3 call23 y) y ?_
       rintro d7 cA w a c3 ⟨J,G,rfl,c4,bQ⟩ s
       have d:=(d.callO [1] [0,2,3,4,5] (by decide) y c3 c4).addE (e:=Sq J G ah.2.L) bQ
       refine h_n [2,3,4,5] [1] d y y fun hC=>gx s 7 y j8 y hC o4 t6 y y cf cg fun a s=>gv s 8 y y hC (fun w hC=>D5 (j:=0) (hC.ceAt 0 y) y E3 t6 y y) fun a s=>ho 10 y ?_
       refine ws (C41 k T S) s d 1 y y y t6 fun a w s d=>h_n [2,3,4,5] [1] d y y fun hC=>q9 (by kernel_rfl) ?_
       exact ⟨cA,M,G,J,wj s d [0,2,3,1,5] [0,4,2,6]⟩
      exact Q7.nil
     rintro a w ⟨aC,M,G,J,s,d⟩
     refine tn (sn 3 [3] s d y y fun a s=>?_)
     refine ws (C43 ⟨g.1,i.Source,k.From,⟨x,z,⟨A,B⟩,⟨C,D,E⟩,⟨h⟩⟩⟩ p57 n) s d 2 y y y m8 fun a w s d=>nl (sn 4 [2] s d y y fun a s=>?_)
     obtain ⟨aa,b1,u⟩:=bt u
     refine y7 4 (fun a w=>∃ a3 aS aD,Sl 94 [(0,pt b2),(4,pt l),(5,pt m),(8,pt M),(68,.bool aa.2.2)] a∧Wd ⟨w0,S0,J3 [.box b2 (C94 d1 p3 k4) 94]⟩ aD [.box b2 [sl a3 aS aa.1,iv aa.2.1] 94,.box l Z18 43,.box m (C43 ⟨g.1,i.Source,k.From,⟨x,z,⟨A,B⟩,⟨C,D,E⟩,⟨h⟩⟩⟩ p57 n) 43,.box M (C41 k T S) 41,.row p57 h.length n o 138 10] [Sq a3 aS aa.1,Sq none 0 ([]:List Stage),Sq T S k.Response.Stages,j6 o h] w) ?_ ?_
     ·rcases j0 (g.1 == 2) with ai | ai
      ·have s:=s.bT 64 y ai
       have u:=D7 b1 ai
       refine D6 s (a0u y) ⟨_,y,y⟩ y y fun a s=>?_
       obtain ⟨cH,c5,u⟩:=bt u
       refine x9 s (u6 c5 d.dom (d.ins [0] (by decide) y) (d.envAt 0 y)) (j3 call23 y) ⟨_,y,y⟩ y y ?_
       rintro d8 cB w a c7 ⟨cr,cn,rfl,c8,c6⟩ s
       have d:=(d.callO [0] [1,2,3,4] (by decide) y c7 c8).addE (e:=Sq cr cn cH.2.L) c6
       refine rn0 2 s y fun a s=>l4 ?_
       obtain rfl:=oi u
       exact tn ⟨cr,cn,cB,wj s d [0,1,2,3,4] [0,2,3,4]⟩
      have s:=s.bF 64 y ai
      have u:=E8 b1 ai
      refine rn0 4 s y fun a s=>l4 ?_
      obtain rfl:=oi u
      exact tn ⟨J,G,aC,wj s d [0,1,2,3,4] [0,1,2,3]⟩
     rintro a w ⟨a3,aS,aD,s,d⟩
     refine nl (A7 (fun a w=>∃ (ar:(List Int)) (bz:Int) (bA:Int) (bB:Int) (bC:Int) (bD:Int) (bE:Int) (bG:Int) (bH:Int) (ae:(List Stage)) (a4 aT aL a5 aU aE:_),a0x g i k ar bz bA bB bC bD bE bG bH ae=some r∧Sl 94 [(4,pt l),(5,pt m)] a∧Wd ⟨w0,S0,J3 [.box b2 (C94 d1 p3 k4) 94]⟩ aE [.box b2 [sl a4 aT ar,iv bz] 94,.box l Z18 43,.box m (C43 ⟨g.1,i.Source,k.From,⟨bA,bB,⟨bC,bD⟩,⟨bE,bG,bH⟩,⟨ae⟩⟩⟩ a5 aU) 43,.row a5 ae.length aU aL 138 10] [Sq a4 aT ar,Sq none 0 ([]:List Stage),j6 aL ae] w) ?_ ?_)
     ·refine cd s u y (fun u=>?_) fun u=>?_
      ·refine sn 1 [3] s d y y fun a s=>?_
       obtain ⟨b,c9,u⟩:=bt u
       refine cR s (a0c c9 d.dom (d.envAt 2 y)) (j3 call45 y) y ?_
       rintro d9 dO w a db ⟨K,H,ab,rfl,dc,da⟩ s
       have d:=(d.callN db dc).addE (e:=j6 ab b.Response.Stages) da
       refine wa Z1 s d zeroValue41 fun O a w s d=>ws (C41 b K H) s d 0 y y y t6 fun a w s d=>nl (l3 (sn0 1 s y fun a s=>?_))
       obtain ⟨V,dd,u⟩:=bt u
       refine cR s (u6 dd d.dom (d.ins [2] (by decide) y) (d.envAt 1 y)) (j3 call23 y) y ?_
       rintro ea bZ w a df ⟨bV,bS,rfl,dg,de⟩ s
       have d:=(d.callO [2] [0,1,3,4,5,6] (by decide) y df dg).addE (e:=Sq bV bS V.2.L) de
       refine nl (m6 (sz0 2 s y fun a s=>?_))
       refine A7 (fun a w=>∃ (au:(List Int)) (bI:Int) (av:Int) (aw:Int) (U:(List Stage)) (a6 aV aM ap am aF:_),a1x g i k b au bI av aw U=some r∧Sl 94 [(4,pt l),(5,pt m),(9,pt O)] a∧Wd ⟨w0,S0,J3 [.box b2 (C94 d1 p3 k4) 94]⟩ aF [.box b2 [sl a6 aV au,iv bI] 94,.box l Z18 43,.box m (C43 ⟨g.1,i.Source,k.From,⟨x,z,⟨A,B⟩,⟨C,D,E⟩,⟨h⟩⟩⟩ p57 n) 43,.box O (C41 ⟨b.From,av,b.Rate,⟨aw,b.Position.Y,b.Position.Z⟩,⟨U⟩⟩ ap am) 41,.row p57 h.length n o 138 10,.row ap U.length am aM 138 10] [Sq a6 aV au,Sq none 0 ([]:List Stage),j6 o h,j6 aM U] w) ?_ ?_
       ·refine cd s u y (fun u=>?_) fun u=>?_
        ·obtain ⟨q,bR,u⟩:=bt u
         refine C7 (fun a w=>∃ aG t v,Sl 94 [(4,pt l),(5,pt m),(9,pt O)] a∧Wd ⟨w0,S0,J3 [.box b2 (C94 d1 p3 k4) 94]⟩ aG [.box b2 (C94 q.2 v t) 94,.box l Z18 43,.box m (C43 ⟨g.1,i.Source,k.From,⟨x,z,⟨A,B⟩,⟨C,D,E⟩,⟨h⟩⟩⟩ p57 n) 43,.box O (C41 ⟨b.From,(w64 (b.To+q.1)),b.Rate,b.Position,b.Response⟩ K H) 41,.row p57 h.length n o 138 10,.row K b.Response.Stages.length H ab 138 10] [Sq v t q.2.L,Sq none 0 ([]:List Stage),j6 o h,j6 ab b.Response.Stages] w) ?_ ?_
         ·refine h_c [2,3,4,5,6] [] d y y (by kernel_rfl) y fun hC d=>gn 2 [0,2] [] s hC y y y fun a s=>a2E (rs:=[1,3]) (by kernel_rfl) y ?_
          refine Q7.cons y ?_ ?_
          ·refine sv s (P6 (d.ownAt 1 y) y s8 y) y fun a s=>h_n [2,3,4,5,6] [] d y y fun hC=>ho 3 y ?_
           refine q8 (α:=Int) (vs:=Z20) (cs:=Z20) (xs:=([(-1),500,3000]:List Int)) s d a6U y y y y y y ⟨⟨_,y,y⟩,⟨⟨_,y,y⟩,⟨⟨_,y,y⟩,y⟩⟩⟩ y j8 y fun cN a w s d=>h_n [3,4,5,6,7] [] d y y fun hC=>ho 4 y ?_
           obtain ⟨dP,d⟩:=C8 (α:=Int) d 0 y 0 y
           refine cR s (M7 bR d.dom (d.ins [0] (by decide) y) (d.envAt 2 y) (d.envAt 0 y)) (j3 call43 y) y ?_
           rintro eb cC w a dh ⟨v,t,rfl,di,aj⟩ s
           have d:=(d.callO [0] [1,2,3,4,5,6] (by decide) y dh di).addE (e:=Sq v t q.2.L) aj
           refine h_n [2,3,4,5,6] [] d y y fun hC=>gn 2 [5,6] [] s hC y y y fun a s=>ho 7 y ?_
           refine ws (C41 ⟨b.From,(w64 (b.To+q.1)),b.Rate,b.Position,b.Response⟩ K H) s d 1 y y y m8 fun a w s d=>h_n [2,3,4,5,6] [] d y y fun hC=>q9 (by kernel_rfl) ?_
           exact ⟨cC,t,v,wj s d [0,3,4,1,6,2] [0,6,8,4]⟩
          refine Q7.cons y ?_ ?_
          ·refine q8 (α:=Int) (vs:=Z20) (cs:=Z20) (xs:=([(-1),500,3000]:List Int)) s d a6U y y y y y y ⟨⟨_,y,y⟩,⟨⟨_,y,y⟩,⟨⟨_,y,y⟩,y⟩⟩⟩ y j8 y fun cN a w s d=>h_n [3,4,5,6,7] [] d y y fun hC=>a2E (rs:=[1,4]) (by kernel_rfl) y ?_
           refine Q7.cons y ?_ ?_
           ·refine sv s (P6 (d.ownAt 2 y) y s8 y) y fun a s=>h_n [3,4,5,6,7] [] d y y fun hC=>ho 4 y ?_
            obtain ⟨dQ,d⟩:=C8 (α:=Int) d 0 y 0 y
            refine cR s (M7 bR d.dom (d.ins [0] (by decide) y) (d.envAt 2 y) (d.envAt 0 y)) (j3 call43 y) y ?_
            rintro ec cD w a dj ⟨v,t,rfl,dk,aj⟩ s
            have d:=(d.callO [0] [1,2,3,4,5,6] (by decide) y dj dk).addE (e:=Sq v t q.2.L) aj
            refine h_n [2,3,4,5,6] [] d y y fun hC=>gn 2 [5,6] [] s hC y y y fun a s=>ho 7 y ?_
            refine ws (C41 ⟨b.From,(w64 (b.To+q.1)),b.Rate,b.Position,b.Response⟩ K H) s d 1 y y y m8 fun a w s d=>h_n [2,3,4,5,6] [] d y y fun hC=>q9 (by kernel_rfl) ?_
            exact ⟨cD,t,v,wj s d [0,3,4,1,6,2] [0,6,8,4]⟩
           refine Q7.cons y ?_ ?_
           ·obtain ⟨dR,d⟩:=C8 (α:=Int) d 0 y 0 y
            refine cR s (M7 bR d.dom (d.ins [0] (by decide) y) (d.envAt 2 y) (d.envAt 0 y)) (j3 call43 y) y ?_
            rintro ed cE w a dl ⟨v,t,rfl,dm,aj⟩ s
            have d:=(d.callO [0] [1,2,3,4,5,6] (by decide) y dl dm).addE (e:=Sq v t q.2.L) aj
            refine h_n [2,3,4,5,6] [] d y y fun hC=>ho 1 y ?_
            refine sv s (P6 (d.ownAt 1 y) y s8 y) y fun a s=>h_n [2,3,4,5,6] [] d y y fun hC=>gn 2 [5,6] [] s hC y y y fun a s=>ho 7 y ?_
            refine ws (C41 ⟨b.From,(w64 (b.To+q.1)),b.Rate,b.Position,b.Response⟩ K H) s d 1 y y y m8 fun a w s d=>h_n [2,3,4,5,6] [] d y y fun hC=>q9 (by kernel_rfl) ?_
            exact ⟨cE,t,v,wj s d [0,3,4,1,6,2] [0,6,8,4]⟩
           exact Q7.nil
          exact Q7.nil
         rintro a w ⟨aG,t,v,s,d⟩
         exact tn ⟨q.2.L,q.2.At,(w64 (b.To+q.1)),b.Position.X,b.Response.Stages,v,t,ab,K,H,aG,u,wj s d [0,1,2,3,4,5] [0,1,2,3]⟩
        refine sz0 2 s y fun a s=>A7 (fun a w=>∃ (ax:(List Int)) (bJ:Int) (bK:Int) (af:(List Stage)) (a7 aW aN a8 aX aH:_),a1y g i k b ax bJ bK af=some r∧Sl 94 [(4,pt l),(5,pt m),(9,pt O)] a∧Wd ⟨w0,S0,J3 [.box b2 (C94 d1 p3 k4) 94]⟩ aH [.box b2 [sl a7 aW ax,iv bJ] 94,.box l Z18 43,.box m (C43 ⟨g.1,i.Source,k.From,⟨x,z,⟨A,B⟩,⟨C,D,E⟩,⟨h⟩⟩⟩ p57 n) 43,.box O (C41 ⟨b.From,b.To,b.Rate,⟨bK,b.Position.Y,b.Position.Z⟩,⟨af⟩⟩ a8 aX) 41,.row p57 h.length n o 138 10,.row a8 af.length aX aN 138 10] [Sq a7 aW ax,Sq none 0 ([]:List Stage),j6 o h,j6 aN af] w) ?_ ?_
        ·refine cd s u y (fun u=>?_) fun u=>?_
         ·refine j9 (rn0 2 s y fun a s=>?_)
          refine ws (C41 ⟨b.From,b.To,b.Rate,⟨77,b.Position.Y,b.Position.Z⟩,b.Response⟩ K H) s d 1 y y y m8 fun a w s d=>nl ⟨V.2.L,V.2.At,77,b.Response.Stages,bV,bS,ab,K,H,bZ,u,wj s d [0,3,4,1,6,2] [0,3,5,1]⟩
         refine sz0 2 s y fun a s=>A7 (fun a w=>∃ (ay:(List Int)) (bL:Int) (ag:(List Stage)) (a9 aY aO ba aZ aI:_),a0y g i k b ay bL ag=some r∧Sl 94 [(4,pt l),(5,pt m),(9,pt O)] a∧Wd ⟨w0,S0,J3 [.box b2 (C94 d1 p3 k4) 94]⟩ aI [.box b2 [sl a9 aY ay,iv bL] 94,.box l Z18 43,.box m (C43 ⟨g.1,i.Source,k.From,⟨x,z,⟨A,B⟩,⟨C,D,E⟩,⟨h⟩⟩⟩ p57 n) 43,.box O (C41 ⟨b.From,b.To,b.Rate,b.Position,⟨ag⟩⟩ ba aZ) 41,.row p57 h.length n o 138 10,.row ba ag.length aZ aO 138 10] [Sq a9 aY ay,Sq none 0 ([]:List Stage),j6 o h,j6 aO ag] w) ?_ ?_
         ·refine cd s u y (fun u=>?_) fun u=>?_
          ·refine j9 (mv s y y fun a s=>?_)
           obtain ⟨Q,dn,u⟩:=bt u
           refine cR s (a5h dn d.dom (d.ins [0] (by decide) y) (d.envAt 0 y)) (j3 call46 y) y ?_
           rintro ee cF w a dr ⟨ct,co,b7,cu,cp,rfl,ds,dp,dq⟩ s
           have d:=((d.callO [0] [1,2,3,4,5,6] (by decide) y dr ds).addE (e:=j6 b7 Q.1.Stages) dp).addE (e:=Sq cu cp Q.2.L) dq
           refine sv s (l7 (o':=7) B7 y G0 y y y) y fun a s=>ws (C41 ⟨b.From,b.To,b.Rate,b.Position,Q.1⟩ ct co) s d 2 y y y G0 fun a w s d=>nl ⟨Q.2.L,Q.2.At,Q.1.Stages,cu,cp,b7,ct,co,cF,u,wj s d [1,4,5,2,7,0] [0,5,7,1]⟩
          exact sk ⟨V.2.L,V.2.At,b.Response.Stages,bV,bS,ab,K,H,bZ,u,wj s d [0,3,4,1,6,2] [0,3,5,1]⟩
         rintro a w ⟨ay,bL,ag,a9,aY,aO,ba,aZ,aI,u,s,d⟩
         exact tn ⟨ay,bL,b.Position.X,ag,a9,aY,aO,ba,aZ,aI,u,wj s d [0,1,2,3,4,5] [0,1,2,3]⟩
        rintro a w ⟨ax,bJ,bK,af,a7,aW,aN,a8,aX,aH,u,s,d⟩
        exact tn ⟨ax,bJ,b.To,bK,af,a7,aW,aN,a8,aX,aH,u,wj s d [0,1,2,3,4,5] [0,1,2,3]⟩
       rintro a w ⟨au,bI,av,aw,U,a6,aV,aM,ap,am,aF,u,s,d⟩
       refine l9 (tn (j9 (rn 2 [3] s d y y fun a s=>?_)))
       refine ws (C43 ⟨g.1,i.Source,k.From,⟨b.From,av,b.Rate,⟨aw,b.Position.Y,b.Position.Z⟩,⟨U⟩⟩⟩ ap am) s d 2 y y y t6 fun a w s d=>nl ⟨au,bI,b.From,av,b.Rate.Num,b.Rate.Den,aw,b.Position.Y,b.Position.Z,U,a6,aV,aM,ap,am,aF,u,wj s d [0,1,2,5] [0,1,3]⟩
      exact sk ⟨aa.1,aa.2.1,x,z,A,B,C,D,E,h,a3,aS,o,p57,n,aD,u,wj s d [0,1,2,4] [0,1,3]⟩
     rintro a w ⟨ar,bz,bA,bB,bC,bD,bE,bG,bH,ae,a4,aT,aL,a5,aU,aE,u,s,d⟩
     exact tn ⟨ar,bz,k.From,bA,bB,bC,bD,bE,bG,bH,ae,a4,aT,aL,a5,aU,aE,u,wj s d [0,1,2,3] [0,1,2]⟩
    exact sk ⟨P.2.L,P.2.At,W,x,z,A,B,C,D,E,h,I,F,o,p57,n,aA,u,wj s d [0,1,2,4] [0,1,3]⟩
   rintro a w ⟨aq,bo,bp,bq,br,bs,bu,bv,bw,bx,ad,a1,aQ,aK,a2,aR,aB,u,s,d⟩
   exact tn ⟨aq,bo,i.Source.Network,i.Source.Station,i.Source.Location,i.Source.Channel,bp,bq,br,bs,bu,bv,bw,bx,ad,a1,aQ,aK,a2,aR,aB,u,wj s d [0,1,2,3] [0,1,2]⟩
  exact sk ⟨az.1,az.2.1,f.1.Network,f.1.Station,f.1.Location,f.1.Channel,W,x,z,A,B,C,D,E,h,b5,b4,o,p57,n,bO,u,wj s d [0,2,3,4] [0,2,3]⟩
 rintro a w ⟨bb,bX,bc,bd,be,bf,bg,bh,bi,bj,bk,bl,bm,bn,ac,a0,aP,aJ,an,ak,bY,u,s,d⟩
 refine tn (sn 1 [2] s d y y fun a s=>?_)
 refine ws [iv g.1,.string bc,.string bd,.string be,.string bf,iv bg,iv bh,iv bi,iv bj,iv bk,iv bl,iv bm,iv bn,sl an ak ac] s d 1 y y y A0 fun a w s d=>nl ?_
 obtain rfl:=oi u
 exact t7 (a7p s y (D8 d 1 y y F1 A0 y) (d.ret ⟨an,ak,aJ,a0,aP,y,(d.outs [3,0] (by decide) y),(d.envAt 2 y),(d.envAt 0 y)⟩))
theorem a5z {w0 S0 s1 j i r} (u:a4i s1 j i=some r) (hS:Dm S0 w0):Ck Tryz.prog 110 #[.string s1,iv j,iv i] w0 S0 [] o5 r:=by
 refine en 47 func110 y hS y y y fun a s d=>sz0 1 s y fun a s=>l3 (sz0 1 s y fun a s=>?_)
 refine m6 (u7 (fun c a w=>∃ e,Sl 47 [(0,.string s1),(1,iv j),(2,iv i),(7,iv c)] a∧Wd ⟨w0,S0,[]⟩ e [] [] w) 0 u ⟨S0,wj s d [] []⟩ ?_)
 repeat clear u
 rintro c a w I ⟨e,s,d⟩ u q
 refine l3 (sz0 4 s y fun a s=>?_)
 refine cd s u y (fun u=>?_) fun u=>?_
 ·refine sk (l3 (m6 (sn0 2 s y fun a s=>?_)))
  obtain ⟨v,B,u⟩:=bt u
  refine sv s (a7w m7 y y B) y fun a s=>sv s (a9C (y) y) y fun a s=>mv s y y fun a s=>?_
  obtain ⟨t,n,u⟩:=bt u
  refine y7 5 (fun a w=>∃ b,Sl 47 [(0,.string s1),(1,iv j),(2,iv i),(7,iv c),(23,.bool t)] a∧Wd ⟨w0,S0,[]⟩ b [] [] w) ?_ ?_
  ·rcases j0 (decide (65≤v)) with f | f
   ·have s:=s.bT 18 y f
    have u:=D7 n f
    refine rn0 2 s y fun a s=>?_
    obtain ⟨J,C,u⟩:=bt u
    refine D6 s (a7w m7 y y C) ⟨_,y,y⟩ y y fun a s=>D6 s (b2N (y) y) ⟨_,y,y⟩ y y fun a s=>sv s (I6 y y) y fun a s=>l4 ?_
    obtain rfl:=oi u
    exact tn ⟨e,wj s d [] []⟩
   have s:=s.bF 18 y f
   have u:=E8 n f
   refine rn0 5 s y fun a s=>l4 ?_
   obtain rfl:=oi u
   exact tn ⟨e,wj s d [] []⟩
  rintro a w ⟨b,s,d⟩
  refine mv s y y fun a s=>?_
  obtain ⟨x,o,u⟩:=bt u
  refine y7 11 (fun a w=>∃ k,Sl 47 [(0,.string s1),(1,iv j),(2,iv i),(7,iv c),(35,.bool x)] a∧Wd ⟨w0,S0,[]⟩ k [] [] w) ?_ ?_
  ·rcases j0 t with g | g
   ·have s:=s.bT 24 y g
    have u:=D7 o g
    refine rn0 11 s y fun a s=>l4 ?_
    obtain rfl:=oi u
    exact tn ⟨b,wj s d [] []⟩
   have s:=s.bF 24 y g
   have u:=E8 o g
   refine rn0 2 s y fun a s=>?_
   obtain ⟨z,D,u⟩:=bt u
   refine D6 s (a7w m7 y y D) ⟨_,y,y⟩ y y fun a s=>D6 s (a9C (y) y) ⟨_,y,y⟩ y y fun a s=>D6 s (a0u y) ⟨_,y,y⟩ y y fun a s=>?_
   obtain ⟨A,p,u⟩:=bt u
   refine y7 5 (fun a w=>∃ l,Sl 47 [(0,.string s1),(1,iv j),(2,iv i),(7,iv c),(24,.bool false),(34,.bool A)] a∧Wd ⟨w0,S0,[]⟩ l [] [] w) ?_ ?_
   ·rcases j0 (decide (48≤z)) with h | h
    ·have s:=s.bT 29 y h
     have u:=D7 p h
     refine rn0 2 s y fun a s=>?_
     obtain ⟨K,E,u⟩:=bt u
     refine D6 s (a7w m7 y y E) ⟨_,y,y⟩ y y fun a s=>D6 s (b2N (y) y) ⟨_,y,y⟩ y y fun a s=>D6 s (I6 y y) ⟨_,y,y⟩ y y fun a s=>l4 ?_
     obtain rfl:=oi u
     exact tn ⟨b,wj s d [] []⟩
    have s:=s.bF 29 y h
    have u:=E8 p h
    refine rn0 5 s y fun a s=>l4 ?_
    obtain rfl:=oi u
    exact tn ⟨b,wj s d [] []⟩
   rintro a w ⟨l,s,d⟩
   refine sv s (b0Q y y) y fun a s=>l4 ?_
   obtain rfl:=oi u
   exact tn ⟨l,wj s d [] []⟩
  rintro a w ⟨k,s,d⟩
  refine rz0 1 s y fun a s=>cd s u y (fun u=>?_) fun u=>?_
  ·refine sz0 1 s y fun a s=>?_
   obtain rfl:=oi u
   have F:=q _ y
   subst F
   exact t7 (o8 (j4 (j4 (o8 (j4 (rt s y (d.ret y)))))))
  refine D1 (l9 (tn (j9 (rn0 2 s y fun a s=>?_))))
  obtain ⟨L,G,u⟩:=bt u
  refine sv s (w9 y G) y fun a s=>nl ⟨_,io u,k,wj s d [] []⟩
 obtain ⟨H,u,m⟩:=X5 u
 have m:=(q _ m.symm).symm
 subst m
 refine u0 (j5 (j5 (o9 (tn (sn0 5 s y fun a s=>?_)))))
 refine rA 5 41 [] s d y y y y y fun a s=>rz0 1 s y fun a s=>?_
 obtain rfl:=oi u
 exact q1 s y (d.ret y)
theorem a1E {w0 S0 s1 r} (u:a5V s1=some r) (hS:Dm S0 w0):Ck Tryz.prog 62 #[V32 s1] w0 S0 [] o5 r:=by
 refine en 26 func62 y hS y y y fun a s d=>sr (wb (C32 s1) s d y fun b2 a w s d=>?_)
 refine rz0 1 s y fun a s=>sn 2 [0] s d y y fun a s=>?_
 obtain ⟨D,h3,u⟩:=bt u
 refine cV s d (a5z h3 d.bdom) (j3 call110 y) y fun a w s d=>mv s y y fun a s=>?_
 obtain ⟨o,k,u⟩:=bt u
 refine y7 4 (fun a w=>∃ b,Sl 26 [(1,pt b2),(10,.bool o)] a∧Wd ⟨w0,S0,[]⟩ b [.box b2 (C32 s1) 32] [] w) ?_ ?_
 ·rcases j0 D with e | e
  ·have s:=s.bT 6 y e
   have u:=D7 k e
   refine rn 2 [0] s d y y fun a s=>?_
   obtain ⟨H,v,u⟩:=bt u
   refine x9 s (a5z v d.bdom) (j3 call110 y) ⟨_,y,y⟩ y y ?_
   rintro K E w a x rfl s
   have d:=d.callB x
   refine sv s (I6 y y) y fun a s=>l4 ?_
   obtain rfl:=oi u
   exact tn ⟨S0,wj s d [0] []⟩
  have s:=s.bF 6 y e
  have u:=E8 k e
  refine rn0 4 s y fun a s=>l4 ?_
  obtain rfl:=oi u
  exact tn ⟨S0,wj s d [0] []⟩
 rintro a w ⟨b,s,d⟩
 refine mv s y y fun a s=>?_
 obtain ⟨p,l,u⟩:=bt u
 refine y7 9 (fun a w=>∃ c,Sl 26 [(1,pt b2),(20,.bool p)] a∧Wd ⟨w0,S0,[]⟩ c [.box b2 (C32 s1) 32] [] w) ?_ ?_
 ·rcases j0 o with f | f
  ·have s:=s.bT 11 y f
   have u:=D7 l f
   refine rn 2 [0] s d y y fun a s=>D6 s (y_eqlS y y) ⟨_,y,y⟩ y y fun a s=>D6 s (a0u y) ⟨_,y,y⟩ y y fun a s=>?_
   obtain ⟨q,m,u⟩:=bt u
   refine y7 4 (fun a w=>∃ i,Sl 26 [(1,pt b2),(11,.bool true),(19,.bool q)] a∧Wd ⟨w0,S0,[]⟩ i [.box b2 (C32 s1) 32] [] w) ?_ ?_
   ·rcases j0 (s1.Location.toList == (⟨#[]⟩:ByteArray).toList) with g | g
    ·have s:=s.bT 15 y g
     have u:=D7 m g
     refine rn0 4 s y fun a s=>l4 ?_
     obtain rfl:=oi u
     exact tn ⟨b,wj s d [0] []⟩
    have s:=s.bF 15 y g
    have u:=E8 m g
    refine rn 2 [0] s d y y fun a s=>?_
    obtain ⟨I,z,u⟩:=bt u
    refine x9 s (a5z z d.bdom) (j3 call110 y) ⟨_,y,y⟩ y y ?_
    rintro L F w a A rfl s
    have d:=d.callB A
    refine D6 s (b0Q y y) ⟨_,y,y⟩ y y fun a s=>l4 ?_
    obtain rfl:=oi u
    exact tn ⟨b,wj s d [0] []⟩
   rintro a w ⟨i,s,d⟩
   refine sv s (I6 y y) y fun a s=>l4 ?_
   obtain rfl:=oi u
   exact tn ⟨i,wj s d [0] []⟩
  have s:=s.bF 11 y f
  have u:=E8 l f
  refine rn0 9 s y fun a s=>l4 ?_
  obtain rfl:=oi u
  exact tn ⟨b,wj s d [0] []⟩
 rintro a w ⟨c,s,d⟩
 refine mv s y y fun a s=>?_
 obtain ⟨t,n,u⟩:=bt u
 refine y7 4 (fun a w=>∃ j,Sl 26 [(25,.bool t)] a∧Wd ⟨w0,S0,[]⟩ j [] [] w) ?_ ?_
 ·rcases j0 p with h | h
  ·have s:=s.bT 21 y h
   have u:=D7 n h
   refine rn 2 [0] s d y y fun a s=>?_
   obtain ⟨J,B,u⟩:=bt u
   refine x9 s (a5z B d.bdom) (j3 call110 y) ⟨_,y,y⟩ y y ?_
   rintro M G w a C rfl s
   have d:=d.callB C
   refine sv s (I6 y y) y fun a s=>l4 ?_
   obtain rfl:=oi u
   exact tn ⟨c,wj s d [] []⟩
  have s:=s.bF 21 y h
  have u:=E8 n h
  refine rn0 4 s y fun a s=>l4 ?_
  obtain rfl:=oi u
  exact tn ⟨c,wj s d [] []⟩
 rintro a w ⟨j,s,d⟩
 refine rz0 1 s y fun a s=>?_
 obtain rfl:=oi u
 exact q1 s y (d.ret y)
theorem a3o {w0 S0 a1 b2 r} (u:a1l a1 b2=some r) (hS:Dm S0 w0):Ck Tryz.prog 111 #[.string a1,.string b2] w0 S0 [] K7 r:=by
 refine en 13 func111 y hS y y y fun a s d=>sz0 1 s y fun a s=>l3 (m6 (sn0 2 s y fun a s=>?_))
 refine sv s (y_lssS y y) y fun a s=>rz0 1 s y fun a s=>cd s u y (fun u=>?_) fun u=>?_
 ·refine sz0 1 s y fun a s=>?_
  obtain rfl:=oi u
  exact t7 (o8 (j4 (rt s y (d.ret y))))
 refine sn0 2 s y fun a s=>sv s (y_gtrS y y) y fun a s=>rz0 1 s y fun a s=>cd s u y (fun u=>?_) fun u=>?_
 ·refine sz0 1 s y fun a s=>?_
  obtain rfl:=oi u
  exact t7 (o8 (j4 (rt s y (d.ret y))))
 refine D1 (l9 (tn (sz0 1 s y fun a s=>?_)))
 obtain rfl:=oi u
 exact q1 s y (d.ret y)
theorem a3n {w0 S0 a1 b2 r} (u:a2w a1 b2=some r) (hS:Dm S0 w0):Ck Tryz.prog 63 #[V32 a1,V32 b2] w0 S0 [] K7 r:=by
 refine en 35 func63 y hS y y y fun a s d=>sr (wb (C32 a1) s d y fun b3 a w s d=>?_)
 refine wb (C32 b2) s d y fun b4 a w s d=>rz0 1 s y fun a s=>l3 (l3 ?_)
 obtain ⟨e,h5,u⟩:=bt u
 obtain ⟨f,h7,u⟩:=bt u
 obtain ⟨b,h9,u⟩:=bt u
 obtain ⟨c,m,u⟩:=bt u
 refine C7 (fun a w=>∃ g,Sl 35 [(27,.agg #[iv e,iv f,iv b,iv c]),(28,iv 0)] a∧Wd ⟨w0,S0,[]⟩ g [] [] w) ?_ ?_
 ·refine h_c [0,1] [] d y y (by kernel_rfl) y fun hC d=>gn 17 [0,1,2,3,5,6,7,8,10,11,12,13,15,16,17,18,21] [1,0,1,0,1,0,1,0] s hC y y y fun a s=>ho 4 y ?_
  refine cV s d (a3o h5 d.bdom) (j3 call111 y) y fun a w s d=>h_n [0,1] [] d y y fun hC=>ho 9 y ?_
  refine cV s d (a3o h7 d.bdom) (j3 call111 y) y fun a w s d=>h_n [0,1] [] d y y fun hC=>ho 14 y ?_
  refine cV s d (a3o h9 d.bdom) (j3 call111 y) y fun a w s d=>h_n [0,1] [] d y y fun hC=>ho 19 y ?_
  refine cV s d (a3o m d.bdom) (j3 call111 y) y fun a w s d=>h_n [0,1] [] d y y fun hC=>gv s 20 y y hC (fun w hC=>A8 (vs:=[(0,iv e),(1,iv f),(2,iv b),(3,iv c)]) Bld157 y y) fun a s=>q9 (by kernel_rfl) ?_
  exact ⟨S0,wj s d [] []⟩
 rintro a w ⟨g,s,d⟩
 refine tn (m6 (u7 (fun k a w=>∃ h,Sl 35 [(27,.agg #[iv e,iv f,iv b,iv c]),(28,iv k)] a∧Wd ⟨w0,S0,[]⟩ h [] [] w) 0 u ⟨g,wj s d [] []⟩ ?_))
 repeat clear u
 rintro k a w q ⟨h,s,d⟩ u j
 refine sz0 1 s y fun a s=>l3 (cd s u y (fun u=>?_) fun u=>?_)
 ·refine sk (l3 (m6 (sr ?_)))
  obtain ⟨l,n,u⟩:=bt u
  refine sv s (y_idxA (α:=Int) (xs:=[e,f,b,c]) (cs:=[iv e,iv f,iv b,iv c]) (es:=[iv l]) (v:=iv l) M2 m8 (.inl ⟨s8,rfl⟩) rfl rfl rfl (fun _ _=>⟨⟨_,rfl,rfl⟩,⟨⟨_,rfl,rfl⟩,⟨⟨_,rfl,rfl⟩,⟨⟨_,rfl,rfl⟩,rfl⟩⟩⟩⟩) n (fun _ _ _ he=>by obtain ⟨_,rfl,rfl⟩:=he;rfl)) rfl fun a s=>rz0 1 s rfl fun a s=>sz0 2 s rfl fun a s=>cd s u rfl (fun u=>?_) fun u=>?_
  ·refine sz0 2 s y fun a s=>?_
   obtain rfl:=oi u
   have o:=j _ y
   subst o
   exact t7 (o8 (j4 (j4 (o8 (j4 (rt s y (d.ret y)))))))
  refine D1 (l9 (tn (j9 (rz0 2 s y fun a s=>?_))))
  exact ⟨_,io u,h,wj s d [] []⟩
 obtain ⟨p,u,i⟩:=X5 u
 have i:=(j _ i.symm).symm
 subst i
 refine u0 (j5 (j5 (o9 (tn (sz0 1 s y fun a s=>?_)))))
 obtain rfl:=oi u
 exact q1 s y (d.ret y)
theorem b2n {w0 S0 r1 r} (u:a6O r1=some r) (hS:Dm S0 w0):Ck Tryz.prog 112 #[V34 r1] w0 S0 [] o5 r:=by
 refine en 19 func112 y hS y y y fun a s d=>sr (wb (C34 r1) s d y fun b2 a w s d=>?_)
 refine rz0 1 s y fun a s=>sn 2 [0] s d y y fun a s=>?_
 obtain ⟨o,h3,u⟩:=bt u
 refine cV s d (P9 h3 d.bdom) (j3 call64 y) y fun a w s d=>mv s y y fun a s=>?_
 obtain ⟨i,g,u⟩:=bt u
 refine y7 4 (fun a w=>∃ b,Sl 19 [(1,pt b2),(10,.bool i)] a∧Wd ⟨w0,S0,[]⟩ b [.box b2 (C34 r1) 34] [] w) ?_ ?_
 ·rcases j0 o with c | c
  ·have s:=s.bT 6 y c
   have u:=D7 g c
   refine rn 2 [0] s d y y fun a s=>?_
   obtain ⟨t,k,u⟩:=bt u
   refine x9 s (P9 k d.bdom) (j3 call64 y) ⟨_,y,y⟩ y y ?_
   rintro x p w a l rfl s
   have d:=d.callB l
   refine sv s (I6 y y) y fun a s=>l4 ?_
   obtain rfl:=oi u
   exact tn ⟨S0,wj s d [0] []⟩
  have s:=s.bF 6 y c
  have u:=E8 g c
  refine rn0 4 s y fun a s=>l4 ?_
  obtain rfl:=oi u
  exact tn ⟨S0,wj s d [0] []⟩
 rintro a w ⟨b,s,d⟩
 refine mv s y y fun a s=>?_
 obtain ⟨j,h,u⟩:=bt u
 refine y7 7 (fun a w=>∃ f,Sl 19 [(18,.bool j)] a∧Wd ⟨w0,S0,[]⟩ f [] [] w) ?_ ?_
 ·rcases j0 i with e | e
  ·have s:=s.bT 11 y e
   have u:=D7 h e
   refine rn 4 [0,0] s d y y fun a s=>?_
   obtain ⟨v,m,u⟩:=bt u
   refine x9 s (b0A m d.bdom) (j3 call138 y) ⟨_,y,y⟩ y y ?_
   rintro z q w a n rfl s
   have d:=d.callB n
   refine rn0 2 s y fun a s=>l4 ?_
   obtain rfl:=oi u
   exact tn ⟨b,wj s d [] []⟩
  have s:=s.bF 11 y e
  have u:=E8 h e
  refine rn0 7 s y fun a s=>l4 ?_
  obtain rfl:=oi u
  exact tn ⟨b,wj s d [] []⟩
 rintro a w ⟨f,s,d⟩
 refine rz0 1 s y fun a s=>?_
 obtain rfl:=oi u
 exact q1 s y (d.ret y)
theorem a6y {w0 S0 p2 k3 l1 r} (u:a4q l1=some r) (hS:Dm S0 w0) (h4:(Sq p2 k3 l1).p S0 w0):Ck Tryz.prog 177 #[sl p2 k3 l1] w0 S0 [] o5 r:=by
 refine en 16 func177 y hS y y y fun a s d=>?_
 have d:=d.addE h4
 refine sz0 1 s y fun a s=>l3 (sz0 1 s y fun a s=>?_)
 refine m6 (u7 (fun i a w=>∃ b,Sl 16 [(0,sl p2 k3 l1),(3,iv i)] a∧Wd ⟨w0,S0,[]⟩ b [] [Sq p2 k3 l1] w) 0 u ⟨S0,wj s d [] [0]⟩ ?_)
 repeat clear u
 rintro i a w A ⟨b,s,d⟩ u e
 refine l3 (sz0 4 s y fun a s=>?_)
 refine cd s u y (fun u=>?_) fun u=>?_
 ·refine sk (l3 (m6 (sn0 2 s y fun a s=>?_)))
  obtain ⟨G,k,u⟩:=bt u
  obtain ⟨B,E,F,C,o,f,m,n,l⟩:=d.elemV 0 y k
  have g:=s
  have h:=d
  subst o
  have s:=g
  have d:=h
  obtain ⟨_,rfl,rfl⟩:=l
  have d:=d.addE n
  refine sv s (o7 C5 m8 y y f.1 f.2 m) y fun a s=>sv s (F5 (j:=0) (d.ceAt 0 y) y s8 y) y fun a s=>?_
  obtain ⟨x,q,u⟩:=bt u
  refine cV s d (P9 q d.bdom) (j3 call64 y) y fun a w s d=>rz0 1 s y fun a s=>cd s u y (fun u=>?_) fun u=>?_
  ·refine sz0 1 s y fun a s=>?_
   obtain rfl:=oi u
   have t:=e _ y
   subst t
   exact t7 (o8 (j4 (j4 (o8 (j4 (rt s y (d.ret y)))))))
  refine D1 (l9 (tn (j9 (rn0 2 s y fun a s=>?_))))
  obtain ⟨D,v,u⟩:=bt u
  refine sv s (w9 y v) y fun a s=>nl ⟨_,io u,b,wj s d [] [1]⟩
 obtain ⟨z,u,c⟩:=X5 u
 have c:=(e _ c.symm).symm
 subst c
 refine u0 (j5 (j5 (o9 (tn (sz0 1 s y fun a s=>?_)))))
 obtain rfl:=oi u
 exact q1 s y (d.ret y)
theorem b2s {w0 S0 p2 k3 l1 r} (u:a8D l1=some r) (hS:Dm S0 w0) (h4:(Sq p2 k3 l1).p S0 w0):Ck Tryz.prog 178 #[sl p2 k3 l1] w0 S0 [] K7 r:=by
 refine en 18 func178 y hS y y y fun a s d=>?_
 have d:=d.addE h4
 refine sz0 1 s y fun a s=>sz0 1 s y fun a s=>l3 (sz0 1 s y fun a s=>?_)
 obtain ⟨m,e,u⟩:=bt u
 refine A7 (fun a w=>∃ c,Sl 18 [(3,iv m)] a∧Wd ⟨w0,S0,[]⟩ c [] [] w) ?_ ?_
 ·refine m6 (u7 (fun f a w=>∃ b,Sl 18 [(0,sl p2 k3 l1),(3,iv f.1),(4,iv f.2)] a∧Wd ⟨w0,S0,[]⟩ b [] [Sq p2 k3 l1] w) (0,0) e ⟨S0,wj s d [] [0]⟩ ?_)
  clear e
  repeat clear u
  rintro f a w B ⟨b,s,d⟩ u l
  refine l3 (sz0 4 s y fun a s=>?_)
  refine cd s u y (fun u=>?_) fun u=>?_
  ·refine sk (l3 (m6 (j9 (rn0 3 s y fun a s=>?_))))
   obtain ⟨H,n,u⟩:=bt u
   obtain ⟨C,F,G,D,v,i,q,t,o⟩:=d.elemV 0 y n
   have g:=s
   have h:=d
   subst v
   have s:=g
   have d:=h
   obtain ⟨_,rfl,rfl⟩:=o
   have d:=d.addE t
   refine sv s (o7 C5 m8 y y i.1 i.2 q) y fun a s=>sv s (F5 (j:=0) (d.ceAt 0 y) y s8 y) y fun a s=>sv s (b2M y y) y fun a s=>?_
   obtain ⟨E,x,u⟩:=bt u
   refine sv s (w9 y x) y fun a s=>l4 ?_
   refine l9 (tn (j9 (rn0 2 s y fun a s=>?_)))
   obtain ⟨A,z,u⟩:=bt u
   refine sv s (w9 y z) y fun a s=>nl ⟨_,io u,b,wj s d [] [1]⟩
  refine u0 (j5 (j5 (o9 ?_)))
  obtain rfl:=oi u
  have k:=l _ y
  subst k
  exact tn ⟨b,wj s d [] []⟩
 rintro a w ⟨c,s,d⟩
 refine tn (sz0 2 s y fun a s=>?_)
 obtain rfl:=oi u
 exact q1 s y (d.ret y)
theorem a9o {w0 S0 p2 k3 s1 r} (u:a0I s1=some r) (hS:Dm S0 w0) (h4:(Sq p2 k3 s1.Taps).p S0 w0):Ck Tryz.prog 139 #[V138 s1 p2 k3] w0 S0 [] o5 r:=by
 refine en 117 func139 y hS y y y fun a s d=>?_
 have d:=d.addE h4
 refine sr (wb (a2k s1 p2 k3) s d y fun b5 a w s d=>?_)
 refine rz0 1 s y fun a s=>sn 5 [0] s d y y fun a s=>rA 4 8 [0] s d y y y y y fun a s=>mv s y y fun a s=>rA 4 13 [0] s d y y y y y fun a s=>rz0 1 s y fun a s=>l3 (sz 2 [0] s d y y fun a s=>?_)
 refine m6 (sz0 2 s y fun a s=>?_)
 refine cd s u y (fun u=>?_) fun u=>?_
 ·refine sn0 2 s y fun a s=>?_
  obtain ⟨V,M,u⟩:=bt u
  refine y7 5 (fun a w=>∃ c,Sl 117 [(1,pt b5),(28,.bool V)] a∧Wd ⟨w0,S0,[]⟩ c [.box b5 (a2k s1 p2 k3) 138] [Sq p2 k3 s1.Taps] w) ?_ ?_
  ·rcases j0 ((((s1.Taps.length:Int) == 0) && (s1.Factor == 0)) && (s1.Shift == 0)) with m | m
   ·have s:=s.bT 23 y m
    have u:=D7 M m
    refine D6 s (l7 (o':=1) y6 y E2 y y y) ⟨_,y,y⟩ y y fun a s=>D6 s (M6 (q:=1) u4 m8 y y (by decide) (by decide) y) ⟨_,y,y⟩ y y fun a s=>D6 s (P6 (d.ownAt 0 y) y s8 y) ⟨_,y,y⟩ y y fun a s=>?_
    obtain ⟨aN,ae,u⟩:=bt u
    refine x9 s (P9 ae d.bdom) (j3 call64 y) ⟨_,y,y⟩ y y ?_
    rintro aW aE w a af rfl s
    have d:=d.callB af
    refine sv s (I6 y y) y fun a s=>l4 ?_
    obtain rfl:=oi u
    exact tn ⟨S0,wj s d [0] [0]⟩
   have s:=s.bF 23 y m
   have u:=E8 M m
   refine rn0 5 s y fun a s=>l4 ?_
   obtain rfl:=oi u
   exact tn ⟨S0,wj s d [0] [0]⟩
  rintro a w ⟨c,s,d⟩
  refine mv s y y fun a s=>?_
  obtain ⟨b,N,u⟩:=bt u
  refine y7 5 (fun a w=>∃ J,Sl 117 [(1,pt b5),(34,.bool b)] a∧Wd ⟨w0,S0,[]⟩ J [.box b5 (a2k s1 p2 k3) 138] [Sq p2 k3 s1.Taps] w) ?_ ?_
  ·rcases j0 V with n | n
   ·have s:=s.bT 29 y n
    have u:=D7 N n
    refine D6 s (l7 (o':=4) y6 y E2 y y y) ⟨_,y,y⟩ y y fun a s=>D6 s (M6 (q:=4) u4 m8 y y (by decide) (by decide) y) ⟨_,y,y⟩ y y fun a s=>D6 s (P6 (d.ownAt 0 y) y s8 y) ⟨_,y,y⟩ y y fun a s=>?_
    obtain ⟨aO,ag,u⟩:=bt u
    refine x9 s (P9 ag d.bdom) (j3 call64 y) ⟨_,y,y⟩ y y ?_
    rintro aX aF w a ah rfl s
    have d:=d.callB ah
    refine sv s (I6 y y) y fun a s=>l4 ?_
    obtain rfl:=oi u
    exact tn ⟨c,wj s d [0] [0]⟩
   have s:=s.bF 29 y n
   have u:=E8 N n
   refine rn0 5 s y fun a s=>l4 ?_
   obtain rfl:=oi u
   exact tn ⟨c,wj s d [0] [0]⟩
  rintro a w ⟨J,s,d⟩
  refine mv s y y fun a s=>y7 5 (fun a w1=>w=w1∧Sl 117 [(1,pt b5),(40,.bool (b && (s1.Num.e1 == 0)))] a) ?_ ?_
  ·rcases j0 b with t | t
   ·have s:=s.bT 35 y t
    refine D6 s (l7 (o':=1) y6 y E2 y y y) ⟨_,y,y⟩ y y fun a s=>D6 s (M6 (q:=2) u4 m8 y y (by decide) (by decide) y) ⟨_,y,y⟩ y y fun a s=>rz 3 [0] s d y y fun a s=>⟨y,(s.fix 40 (.bool (b && (s1.Num.e1 == 0))) y (a3J t)).weaken _ ⟨y,y,j8⟩⟩
   have s:=s.bF 35 y t
   refine rz0 5 s y fun a s=>⟨y,(s.fix 40 (.bool (b && (s1.Num.e1 == 0))) y (a3I t)).weaken _ ⟨y,y,j8⟩⟩
  rintro a w1 ⟨al,s⟩
  subst al
  refine mv s y y fun a s=>y7 5 (fun a w1=>w=w1∧Sl 117 [(1,pt b5),(46,.bool ((b && (s1.Num.e1 == 0)) && (s1.Num.e2 == 0)))] a) ?_ ?_
  ·rcases j0 (b && (s1.Num.e1 == 0)) with v | v
   ·have s:=s.bT 41 y v
    refine D6 s (l7 (o':=1) y6 y E2 y y y) ⟨_,y,y⟩ y y fun a s=>D6 s (M6 (q:=3) u4 m8 y y (by decide) (by decide) y) ⟨_,y,y⟩ y y fun a s=>rz 3 [0] s d y y fun a s=>⟨y,(s.fix 46 (.bool ((b && (s1.Num.e1 == 0)) && (s1.Num.e2 == 0))) y (a3J v)).weaken _ ⟨y,y,j8⟩⟩
   have s:=s.bF 41 y v
   refine rz0 5 s y fun a s=>⟨y,(s.fix 46 (.bool ((b && (s1.Num.e1 == 0)) && (s1.Num.e2 == 0))) y (a3I v)).weaken _ ⟨y,y,j8⟩⟩
  rintro a w1 ⟨ak,s⟩
  subst ak
  refine mv s y y fun a s=>y7 5 (fun a w1=>w=w1∧Sl 117 [(1,pt b5),(52,.bool (((b && (s1.Num.e1 == 0)) && (s1.Num.e2 == 0)) && (s1.Den.e1 == 0)))] a) ?_ ?_
  ·rcases j0 ((b && (s1.Num.e1 == 0)) && (s1.Num.e2 == 0)) with x | x
   ·have s:=s.bT 47 y x
    refine D6 s (l7 (o':=4) y6 y E2 y y y) ⟨_,y,y⟩ y y fun a s=>D6 s (M6 (q:=5) u4 m8 y y (by decide) (by decide) y) ⟨_,y,y⟩ y y fun a s=>rz 3 [0] s d y y fun a s=>⟨y,(s.fix 52 (.bool (((b && (s1.Num.e1 == 0)) && (s1.Num.e2 == 0)) && (s1.Den.e1 == 0))) y (a3J x)).weaken _ ⟨y,y,j8⟩⟩
   have s:=s.bF 47 y x
   refine rz0 5 s y fun a s=>⟨y,(s.fix 52 (.bool (((b && (s1.Num.e1 == 0)) && (s1.Num.e2 == 0)) && (s1.Den.e1 == 0))) y (a3I x)).weaken _ ⟨y,y,j8⟩⟩
  rintro a w1 ⟨aj,s⟩
  subst aj
  refine mv s y y fun a s=>y7 5 (fun a w1=>w=w1∧Sl 117 [(58,.bool ((((b && (s1.Num.e1 == 0)) && (s1.Num.e2 == 0)) && (s1.Den.e1 == 0)) && (s1.Den.e2 == 0)))] a) ?_ ?_
  ·rcases j0 (((b && (s1.Num.e1 == 0)) && (s1.Num.e2 == 0)) && (s1.Den.e1 == 0)) with z | z
   ·have s:=s.bT 53 y z
    refine D6 s (l7 (o':=4) y6 y E2 y y y) ⟨_,y,y⟩ y y fun a s=>D6 s (M6 (q:=6) u4 m8 y y (by decide) (by decide) y) ⟨_,y,y⟩ y y fun a s=>rz 3 [0] s d y y fun a s=>⟨y,(s.fix 58 (.bool ((((b && (s1.Num.e1 == 0)) && (s1.Num.e2 == 0)) && (s1.Den.e1 == 0)) && (s1.Den.e2 == 0))) y (a3J z)).weaken _ ⟨y,j8⟩⟩
   have s:=s.bF 53 y z
   refine rz0 5 s y fun a s=>⟨y,(s.fix 58 (.bool ((((b && (s1.Num.e1 == 0)) && (s1.Num.e2 == 0)) && (s1.Den.e1 == 0)) && (s1.Den.e2 == 0))) y (a3I z)).weaken _ ⟨y,j8⟩⟩
  rintro a w1 ⟨ai,s⟩
  subst ai
  refine rz0 1 s y fun a s=>?_
  obtain rfl:=oi u
  exact t7 (o8 (j4 (rt s y (d.ret y))))
 refine sz0 2 s y fun a s=>cd s u y (fun u=>?_) fun u=>?_
 ·refine sn0 2 s y fun a s=>?_
  obtain ⟨W,O,u⟩:=bt u
  refine y7 4 (fun a w=>∃ f,Sl 117 [(1,pt b5),(66,.bool W)] a∧Wd ⟨w0,S0,[]⟩ f [] [CeA b5 0 (a2k s1 p2 k3),Sq p2 k3 s1.Taps] w) ?_ ?_
  ·rcases j0 ((((s1.Taps.length:Int) == 0) && (s1.Factor == 0)) && (s1.Shift == 0)) with A | A
   ·have s:=s.bT 62 y A
    have u:=D7 O A
    refine D6 s (l7 (o':=1) y6 y E2 y y y) ⟨_,y,y⟩ y y fun a s=>?_
    obtain ⟨ab,d⟩:=b0P d 0 y
    have d:=d.addE (e:=SlA (α:=Int) (some ⟨b5,1,none⟩) ([s1.Num.e0,s1.Num.e1,s1.Num.e2]:List Int).length 3 ([s1.Num.e0,s1.Num.e1,s1.Num.e2]:List Int)) (b3A (o:=1) (d.envAt 0 y) y ⟨⟨_,y,y⟩,⟨⟨_,y,y⟩,⟨⟨_,y,y⟩,y⟩⟩⟩)
    refine D6 s (a8b u4 m8 y y) ⟨_,y,y⟩ y y fun a s=>?_
    obtain ⟨aP,am,u⟩:=bt u
    refine x9 s (a6y am d.bdom (d.bE 0 y)) (j3 call177 y) ⟨_,y,y⟩ y y ?_
    rintro aY aG w a an rfl s
    have d:=d.callB an
    refine sv s (I6 y y) y fun a s=>l4 ?_
    obtain rfl:=oi u
    exact tn ⟨ab,wj s d [] [1,2]⟩
   have s:=s.bF 62 y A
   have u:=E8 O A
   refine rn0 4 s y fun a s=>l4 ?_
   obtain ⟨ac,d⟩:=b0P d 0 y
   obtain rfl:=oi u
   exact tn ⟨ac,wj s d [] [0,1]⟩
  rintro a w ⟨f,s,d⟩
  refine mv s y y fun a s=>?_
  obtain ⟨l,P,u⟩:=bt u
  refine y7 4 (fun a w=>∃ K,Sl 117 [(1,pt b5),(71,.bool l)] a∧Wd ⟨w0,S0,[]⟩ K [] [CeA b5 0 (a2k s1 p2 k3),Sq p2 k3 s1.Taps] w) ?_ ?_
  ·rcases j0 W with B | B
   ·have s:=s.bT 67 y B
    have u:=D7 P B
    refine D6 s (l7 (o':=4) y6 y E2 y y y) ⟨_,y,y⟩ y y fun a s=>?_
    have d:=d.addE (e:=SlA (α:=Int) (some ⟨b5,4,none⟩) ([s1.Den.e0,s1.Den.e1,s1.Den.e2]:List Int).length 3 ([s1.Den.e0,s1.Den.e1,s1.Den.e2]:List Int)) (b3A (o:=4) (d.envAt 0 y) y ⟨⟨_,y,y⟩,⟨⟨_,y,y⟩,⟨⟨_,y,y⟩,y⟩⟩⟩)
    refine D6 s (a8b u4 m8 y y) ⟨_,y,y⟩ y y fun a s=>?_
    obtain ⟨aQ,ao,u⟩:=bt u
    refine x9 s (a6y ao d.bdom (d.bE 0 y)) (j3 call177 y) ⟨_,y,y⟩ y y ?_
    rintro aZ aH w a ap rfl s
    have d:=d.callB ap
    refine sv s (I6 y y) y fun a s=>l4 ?_
    obtain rfl:=oi u
    exact tn ⟨f,wj s d [] [1,2]⟩
   have s:=s.bF 67 y B
   have u:=E8 P B
   refine rn0 4 s y fun a s=>l4 ?_
   obtain rfl:=oi u
   exact tn ⟨f,wj s d [] [0,1]⟩
  rintro a w ⟨K,s,d⟩
  refine mv s y y fun a s=>y7 5 (fun a w1=>w=w1∧Sl 117 [(77,.bool (l && (s1.Den.e0 != 0)))] a) ?_ ?_
  ·rcases j0 l with C | C
   ·have s:=s.bT 72 y C
    refine D6 s (l7 (o':=4) y6 y E2 y y y) ⟨_,y,y⟩ y y fun a s=>D6 s (M6 (q:=4) u4 m8 y y (by decide) (by decide) y) ⟨_,y,y⟩ y y fun a s=>D6 s (F5 (j:=4) (d.ceAt 0 y) y s8 y) ⟨_,y,y⟩ y y fun a s=>rz0 2 s y fun a s=>⟨y,(s.fix 77 (.bool (l && (s1.Den.e0 != 0))) y (a3J C)).weaken _ ⟨y,j8⟩⟩
   have s:=s.bF 72 y C
   refine rz0 5 s y fun a s=>⟨y,(s.fix 77 (.bool (l && (s1.Den.e0 != 0))) y (a3I C)).weaken _ ⟨y,j8⟩⟩
  rintro a w1 ⟨aq,s⟩
  subst aq
  refine rz0 1 s y fun a s=>?_
  obtain rfl:=oi u
  exact t7 (o8 (j4 (rt s y (d.ret y))))
 refine sz0 2 s y fun a s=>cd s u y (fun u=>?_) fun u=>?_
 ·refine sn 2 [0] s d y y fun a s=>sv s (A8 (vs:=[]) a6T y y) y fun a s=>sv s (a0E (by kernel_rfl) y y (a2v u4 m8 (EqA.cons1 s8 y y (G9 q6) (EqA.cons1 s8 y y (G9 q6) (EqA.cons1 s8 y y (G9 q6) EqA.nil))))) y fun a s=>mv s y y fun a s=>y7 5 (fun a w1=>w=w1∧Sl 117 [(1,pt b5),(89,.bool (((s1.Num.e0 == 0) && ((s1.Num.e1 == 0) && ((s1.Num.e2 == 0) && true))) && ((s1.Den.e0 == 0) && ((s1.Den.e1 == 0) && ((s1.Den.e2 == 0) && true)))))] a) ?_ ?_
  ·rcases j0 ((s1.Num.e0 == 0) && ((s1.Num.e1 == 0) && ((s1.Num.e2 == 0) && true))) with D | D
   ·have s:=s.bT 84 y D
    refine rn 2 [0] s d y y fun a s=>D6 s (A8 (vs:=[]) a6T y y) ⟨_,y,y⟩ y y fun a s=>D6 s (a0E (by kernel_rfl) y y (a2v u4 m8 (EqA.cons1 s8 y y (G9 q6) (EqA.cons1 s8 y y (G9 q6) (EqA.cons1 s8 y y (G9 q6) EqA.nil))))) ⟨_,y,y⟩ y y fun a s=>rz0 1 s y fun a s=>⟨y,(s.fix 89 (.bool (((s1.Num.e0 == 0) && ((s1.Num.e1 == 0) && ((s1.Num.e2 == 0) && true))) && ((s1.Den.e0 == 0) && ((s1.Den.e1 == 0) && ((s1.Den.e2 == 0) && true))))) y (a3J D)).weaken _ ⟨y,y,j8⟩⟩
   have s:=s.bF 84 y D
   refine rz0 5 s y fun a s=>⟨y,(s.fix 89 (.bool (((s1.Num.e0 == 0) && ((s1.Num.e1 == 0) && ((s1.Num.e2 == 0) && true))) && ((s1.Den.e0 == 0) && ((s1.Den.e1 == 0) && ((s1.Den.e2 == 0) && true))))) y (a3I D)).weaken _ ⟨y,y,j8⟩⟩
  rintro a w1 ⟨aD,s⟩
  subst aD
  refine mv s y y fun a s=>?_
  obtain ⟨X,Q,u⟩:=bt u
  refine y7 5 (fun a w=>∃ g,Sl 117 [(1,pt b5),(95,.bool X)] a∧Wd ⟨w0,S0,[]⟩ g [.box b5 (a2k s1 p2 k3) 138] [Sq p2 k3 s1.Taps] w) ?_ ?_
  ·rcases j0 (((s1.Num.e0 == 0) && ((s1.Num.e1 == 0) && ((s1.Num.e2 == 0) && true))) && ((s1.Den.e0 == 0) && ((s1.Den.e1 == 0) && ((s1.Den.e2 == 0) && true)))) with E | E
   ·have s:=s.bT 90 y E
    have u:=D7 Q E
    refine rn 3 [0] s d y y fun a s=>?_
    obtain ⟨aR,ar,u⟩:=bt u
    refine x9 s (P9 ar d.bdom) (j3 call64 y) ⟨_,y,y⟩ y y ?_
    rintro a0 aI w a au rfl s
    have d:=d.callB au
    refine sv s (I6 y y) y fun a s=>l4 ?_
    obtain rfl:=oi u
    exact tn ⟨S0,wj s d [0] [0]⟩
   have s:=s.bF 90 y E
   have u:=E8 Q E
   refine rn0 5 s y fun a s=>l4 ?_
   obtain rfl:=oi u
   exact tn ⟨S0,wj s d [0] [0]⟩
  rintro a w ⟨g,s,d⟩
  refine mv s y y fun a s=>?_
  obtain ⟨Y,R,u⟩:=bt u
  refine y7 4 (fun a w=>∃ h,Sl 117 [(1,pt b5),(100,.bool Y)] a∧Wd ⟨w0,S0,[]⟩ h [.box b5 (a2k s1 p2 k3) 138] [Sq p2 k3 s1.Taps] w) ?_ ?_
  ·rcases j0 X with F | F
   ·have s:=s.bT 96 y F
    have u:=D7 R F
    refine rn 2 [0] s d y y fun a s=>?_
    obtain ⟨aS,av,u⟩:=bt u
    refine x9 s (a6y av d.bdom (d.bE 0 y)) (j3 call177 y) ⟨_,y,y⟩ y y ?_
    rintro a1 aJ w a aw rfl s
    have d:=d.callB aw
    refine sv s (I6 y y) y fun a s=>l4 ?_
    obtain rfl:=oi u
    exact tn ⟨g,wj s d [0] [0]⟩
   have s:=s.bF 96 y F
   have u:=E8 R F
   refine rn0 4 s y fun a s=>l4 ?_
   obtain rfl:=oi u
   exact tn ⟨g,wj s d [0] [0]⟩
  rintro a w ⟨h,s,d⟩
  refine mv s y y fun a s=>?_
  obtain ⟨Z,S,u⟩:=bt u
  refine y7 5 (fun a w=>∃ i,Sl 117 [(1,pt b5),(106,.bool Z)] a∧Wd ⟨w0,S0,[]⟩ i [.box b5 (a2k s1 p2 k3) 138] [Sq p2 k3 s1.Taps] w) ?_ ?_
  ·rcases j0 Y with G | G
   ·have s:=s.bT 101 y G
    have u:=D7 S G
    refine rn 2 [0] s d y y fun a s=>?_
    obtain ⟨aT,ax,u⟩:=bt u
    refine x9 s (b2s ax d.bdom (d.bE 0 y)) (j3 call178 y) ⟨_,y,y⟩ y y ?_
    rintro a2 aK w a ay rfl s
    have d:=d.callB ay
    refine rn0 2 s y fun a s=>l4 ?_
    obtain rfl:=oi u
    exact tn ⟨h,wj s d [0] [0]⟩
   have s:=s.bF 101 y G
   have u:=E8 S G
   refine rn0 5 s y fun a s=>l4 ?_
   obtain rfl:=oi u
   exact tn ⟨h,wj s d [0] [0]⟩
  rintro a w ⟨i,s,d⟩
  refine mv s y y fun a s=>?_
  obtain ⟨aa,T,u⟩:=bt u
  refine y7 4 (fun a w=>∃ k,Sl 117 [(1,pt b5),(111,.bool aa)] a∧Wd ⟨w0,S0,[]⟩ k [.box b5 (a2k s1 p2 k3) 138] [Sq p2 k3 s1.Taps] w) ?_ ?_
  ·rcases j0 Z with H | H
   ·have s:=s.bT 107 y H
    have u:=D7 T H
    refine rn 2 [0] s d y y fun a s=>?_
    obtain ⟨aU,az,u⟩:=bt u
    refine x9 s (P9 az d.bdom) (j3 call64 y) ⟨_,y,y⟩ y y ?_
    rintro a3 aL w a aA rfl s
    have d:=d.callB aA
    refine sv s (I6 y y) y fun a s=>l4 ?_
    obtain rfl:=oi u
    exact tn ⟨i,wj s d [0] [0]⟩
   have s:=s.bF 107 y H
   have u:=E8 T H
   refine rn0 4 s y fun a s=>l4 ?_
   obtain rfl:=oi u
   exact tn ⟨i,wj s d [0] [0]⟩
  rintro a w ⟨k,s,d⟩
  refine mv s y y fun a s=>?_
  obtain ⟨ad,U,u⟩:=bt u
  refine y7 4 (fun a w=>∃ L,Sl 117 [(116,.bool ad)] a∧Wd ⟨w0,S0,[]⟩ L [] [] w) ?_ ?_
  ·rcases j0 aa with I | I
   ·have s:=s.bT 112 y I
    have u:=D7 U I
    refine rn 2 [0] s d y y fun a s=>?_
    obtain ⟨aV,aB,u⟩:=bt u
    refine x9 s (P9 aB d.bdom) (j3 call64 y) ⟨_,y,y⟩ y y ?_
    rintro a4 aM w a aC rfl s
    have d:=d.callB aC
    refine sv s (I6 y y) y fun a s=>l4 ?_
    obtain rfl:=oi u
    exact tn ⟨k,wj s d [] []⟩
   have s:=s.bF 112 y I
   have u:=E8 U I
   refine rn0 4 s y fun a s=>l4 ?_
   obtain rfl:=oi u
   exact tn ⟨k,wj s d [] []⟩
  rintro a w ⟨L,s,d⟩
  refine rz0 1 s y fun a s=>?_
  obtain rfl:=oi u
  exact t7 (o8 (j4 (rt s y (d.ret y))))
 refine D1 (l9 (tn (sz0 1 s y fun a s=>?_)))
 obtain rfl:=oi u
 exact q1 s y (d.ret y)
end Go.Proofs.YteanekphncdhiaaGreat.Wk

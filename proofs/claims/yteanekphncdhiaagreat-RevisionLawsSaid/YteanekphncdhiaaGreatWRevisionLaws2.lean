/- The walks of RevisionLaws, part 2: each Go function computes what its plain program computes. Printed by a program of ours. -/
import Derived.Test.YteanekphncdhiaaGreatProg
import Derived.Test.YteanekphncdhiaaGreatLibMs
import Derived.Test.YteanekphncdhiaaGreatDat
import Derived.Test.YteanekphncdhiaaGreatSh
import Derived.Test.YteanekphncdhiaaGreatLa1
import Derived.Test.YteanekphncdhiaaGreatLa2
import Derived.Test.YteanekphncdhiaaGreatLibCh
import Derived.KernelRfl
import Derived.Test.YteanekphncdhiaaGreatLb1
import Derived.Shelf.SlLaysF0
import Derived.Test.YteanekphncdhiaaGreatWRevisionLaws1
namespace Go.Proofs.YteanekphncdhiaaGreat.Wk
open Go Go.RowKit Go.Proofs Go.Proofs.YteanekphncdhiaaGreat.Sh Go.Proofs.Tryz
set_option linter.unusedVariables false
set_option linter.unusedSimpArgs false
set_option maxHeartbeats 4000000
set_option maxRecDepth 100000
theorem a1X {w0 S0 p2 k3 c4 g7 f8 cp9 s1} {del6:Span→Option Bool} {r} (u:L6 s1 del6=some r) (hS:Dm S0 w0) (hin:Ins S0 w0 [.row p2 s1.length k3 c4 52 2]) (h5:(j6 c4 s1).p S0 w0) (h10:(a5X Tryz.prog g7 f8 cp9 del6).p S0 w0):Ck Tryz.prog 171 #[sl p2 k3 s1,.func (.func g7) f8.toArray cp9.toArray] w0 S0 (H8 [.row p2 s1.length k3 c4 52 2]) C7 r:=by
 refine enI 42 func171 rfl hS hin rfl rfl rfl fun a s d=>?_
 have d:=((d.addE h5).addE (e:=a2b s1.length s1) a5q).addE h10
 refine sz0 1 s rfl fun a s=>?_
 refine sn0 2 s rfl fun a s=>?_
 obtain ⟨rv12,h11,u⟩:=bt u
 refine cV s d (a2j h11 d.bdom (d.bRow 0 rfl 2 rfl) (d.bE 0 rfl)) (d9 call191 rfl) rfl fun a w s d=>?_
 refine rz0 1 s rfl fun a s=>?_
 refine wp_seq (sz0 2 s rfl fun a s=>?_)
 refine cd s u rfl (fun u=>?_) fun u=>?_
 ·refine sz0 2 s rfl fun a s=>?_
  obtain rfl:=oi u
  exact wp_ret (j3 (rt s rfl (d.ret ⟨p2,k3,c4,rfl,(d.outs [0] (by decide) rfl),(d.envAt 2 rfl)⟩)))
 refine sk (wp_seq (sn0 2 s rfl fun a s=>?_))
 obtain ⟨j22,h21,u⟩:=bt u
 refine sv s (q8 rfl h21) rfl fun a s=>?_
 refine nl ?_
 obtain ⟨e163,h285,u⟩:=bt u
 refine x9 (fun a w=>∃ c164 Sv165,Sl 42 [(0,sl p2 k3 e163.1),(5,iv e163.2)] a∧Wd ⟨w0,S0,H8 [.row p2 s1.length k3 c4 52 2]⟩ Sv165 [.row p2 e163.1.length k3 c164 52 2] [j6 c164 e163.1,a2b s1.length e163.1] w) ?_ ?_
 ·refine wp_block (u7 (fun sv23 a w=>∃ c114 Sv115,Sl 42 [(0,sl p2 k3 sv23.1),(1,.func (.func g7) f8.toArray cp9.toArray),(5,iv sv23.2.1),(6,iv sv23.2.2)] a∧Wd ⟨w0,S0,H8 [.row p2 s1.length k3 c4 52 2]⟩ Sv115 [.row p2 sv23.1.length k3 c114 52 2] [a5X Tryz.prog g7 f8 cp9 del6,j6 c114 sv23.1,a2b s1.length sv23.1] w) (s1,rv12,j22) h285 ⟨c4,S0,wj s d [0] [0,2,1]⟩ ?_)
  clear h285
  repeat clear u
  rintro sv23 a w tv161 ⟨c114,Sv115,s,d⟩ u hd160
  refine wp_seq (sz0 4 s rfl fun a s=>?_)
  refine cd s u rfl (fun u=>?_) fun u=>?_
  ·refine sk (wp_seq (wp_block (sn0 2 s rfl fun a s=>?_)))
   obtain ⟨x211,h209,u⟩:=bt u
   obtain ⟨b218,q215,c216,h219,h212,h213,h217,h210⟩:=d.elemRV (α:=Span) 0 rfl 1 rfl h209
   have hsv220:=s
   have hwv221:=d
   subst h219
   have s:=hsv220
   have d:=hwv221
   obtain ⟨_,_,rfl,rfl,rfl⟩:=h210
   refine sv s (o8 runUnderlying50 sizeOf52 rfl rfl h212.1 h212.2 h213) rfl fun a s=>?_
   refine sv s (Q0 (j:=0) (d.ownAt 0 rfl) rfl isAgg52 sizeOf52 h217 rfl rfl) rfl fun a s=>?_
   refine wa [iv 0,iv 0] s d zeroValue52 fun b222 a w s d=>?_
   refine ws (C52 x211) s d 0 rfl rfl rfl sizeOf52 fun a w s d=>?_
   refine nl (sn 2 [0] s d rfl rfl fun a s=>?_)
   obtain ⟨rv224,h223,u⟩:=bt u
   refine q9 s ((d.bE 0 rfl).2 a2a.rfl' d.bdom ⟨_,_,rfl,rfl,rfl⟩ h223) (a4z (d.bE 0 rfl).1 rfl rfl) trivial rfl rfl ?_
   rintro v228 Sv225 w a h226 rfl s
   have d:=d.callB h226
   refine rz0 1 s rfl fun a s=>?_
   refine x9 (fun a w=>∃ (sv248:(List Span)) (i249:Int) (c246 Sv247:_),J5 sv23 sv248 i249=some tv161∧Sl 42 [(0,sl (ad b218) k3 sv248),(1,.func (.func g7) f8.toArray cp9.toArray),(5,iv i249),(6,iv sv23.2.2)] a∧Wd ⟨w0,S0,H8 [.row (ad b218) s1.length k3 c4 52 2]⟩ Sv247 [.row (ad b218) sv248.length k3 c246 52 2] [a5X Tryz.prog g7 f8 cp9 del6,j6 c246 sv248,a2b s1.length sv248] w) ?_ ?_
   ·refine cd s u rfl (fun u=>?_) fun u=>?_
    ·refine sn 3 [0] s d rfl rfl fun a s=>?_
     obtain ⟨x255,h253,u⟩:=bt u
     obtain ⟨q259,c260,h256,h257,h261,h254⟩:=d.elemRK (α:=Span) 1 rfl 1 rfl h253
     obtain ⟨_,_,rfl,rfl,rfl⟩:=h254
     refine sv s (o8 runUnderlying50 sizeOf52 rfl rfl h256.1 h256.2 h257) rfl fun a s=>?_
     obtain ⟨l263,h262,u⟩:=bt u
     have h266:=d.envAt 2 rfl
     refine a5k (α:=Span) s d 1 rfl 1 rfl h257 rfl rfl sizeOf52 rfl h262 ⟨_,_,rfl,rfl,rfl⟩ trivial ?_
     intro c264 a w s d
     have d:=d.addE (e:=a2b s1.length l263) (b4j (w:=w) (S:=S0) h266 h262)
     have h265:=Y0 h262
     try have s:=s.fl 0 rfl h265
     try have s:=s.fl 30 rfl h265
     refine nl (wp_region_lit (rn0 2 s rfl fun a s=>?_))
     obtain ⟨i268,h267,u⟩:=bt u
     refine sv s (q8 rfl h267) rfl fun a s=>?_
     exact nl ⟨l263,i268,c264,Sv115,u,wj s d [1] [2,1,0]⟩
    exact sk ⟨sv23.1,sv23.2.1,c114,Sv115,u,wj s d [1] [0,1,2]⟩
   rintro a w ⟨sv248,i249,c246,Sv247,u,s,d⟩
   refine l9 (tn (wp_region_lit (rn0 2 s rfl fun a s=>?_)))
   obtain ⟨j251,h250,u⟩:=bt u
   refine sv s (q8 rfl h250) rfl fun a s=>?_
   exact nl ⟨_,io u,c246,Sv247,wj s d [0] [0,1,2]⟩
  refine wp_exit (j4 (j4 (o9 ?_)))
  obtain rfl:=oi u
  have h269:=hd160 _ rfl
  subst h269
  exact tn ⟨c114,Sv115,wj s d [0] [1,2]⟩
 rintro a w ⟨c164,Sv165,s,d⟩
 refine tn (sn0 2 s rfl fun a s=>?_)
 obtain ⟨l274,h270,u⟩:=bt u
 obtain ⟨p272,k273,h271⟩:=U7 (α:=Span) d 0 rfl h270
 refine sv s (R9 runUnderlying50 sizeOf52 rfl ⟨_,rfl⟩ (by exact rfl) h271) rfl fun a s=>?_
 obtain ⟨l275,h276,u⟩:=bt u
 have h281:=d.envAt 1 rfl
 refine a9f (α:=Span) (z0:=((⟨0,0⟩:Span):Span)) s d 0 rfl 0 rfl a4R ⟨_,_,rfl,rfl,rfl⟩ h270 h271 rfl trivial ?_
 intro c277 a w s d
 rw [Option.some.inj h276] at d
 have d:=d.addE (e:=a2b s1.length l275) (by have q:=b2O (w:=w) (S:=S0) (S':=S0) (w':=w) (ys:=List.replicate l274.length ((⟨0,0⟩:Span):Span)) h281 h270;rw [Option.some.inj h276] at q;exact q)
 have h278:=(a4U h270 h276)
 try have s:=s.fl 0 rfl h278
 try have s:=s.fl 36 rfl h278
 refine nl (sn0 2 s rfl fun a s=>?_)
 obtain ⟨l284,h282,u⟩:=bt u
 obtain ⟨d,h283⟩:=b0U d 0 rfl 1 rfl h282
 refine sv s (R9 runUnderlying50 sizeOf52 rfl (by exact rfl) ⟨_,rfl⟩ h283) rfl fun a s=>?_
 refine rz0 1 s rfl fun a s=>?_
 obtain rfl:=oi u
 exact q1 s rfl (d.ret ⟨p2,k3,(c277.take (l284.length * 2)),rfl,(d.outs [0] (by decide) rfl),(d.envAt 0 rfl)⟩)
theorem b2n {w0 S0 s1 r} (u:b1I s1=some r) (hS:Dm S0 w0):Ck Tryz.prog 140 #[V52 s1] w0 S0 [] l7 r:=by
 refine en 8 func140 rfl hS rfl rfl rfl fun a s d=>?_
 refine sr (wb (C52 s1) s d rfl fun b2 a w s d=>?_)
 refine rz0 1 s rfl fun a s=>?_
 refine sz 6 [0,0] s d rfl rfl fun a s=>?_
 obtain rfl:=oi u
 exact q1 s rfl (d.ret rfl)
theorem a8w {w0 S0 s1 r} (u:a2Y s1=some r) (hS:Dm S0 w0):Ck Tryz.prog 173 #[V52 s1] w0 S0 [] l7 r:=by
 refine en 6 func173 rfl hS rfl rfl rfl fun a s d=>?_
 refine sr (wb (C52 s1) s d rfl fun b2 a w s d=>?_)
 refine rz0 1 s rfl fun a s=>?_
 refine sn 1 [0] s d rfl rfl fun a s=>?_
 obtain ⟨rv4,h3,u⟩:=bt u
 refine cV s d (b2n h3 d.bdom) (d9 call140 rfl) rfl fun a w s d=>?_
 refine rz0 2 s rfl fun a s=>?_
 obtain rfl:=oi u
 exact q1 s rfl (d.ret rfl)
theorem a8v (S0:Nat→Prop) (w0:World):(a5X Tryz.prog 173 [] [] a2Y).p S0 w0:=by
  refine ⟨call173,?_⟩
  rintro S1 w1 hk hS c0 x0 r1 ⟨_,_,rfl,rfl,rfl⟩ hf
  exact a8w hf hS
end Go.Proofs.YteanekphncdhiaaGreat.Wk
namespace Go.Proofs
open Go Go.Shelf Go.RowKit Go.Lib Go.Sort
def Tryz.sort174_ren:Go.Shelf.Ren:=⟨fun | 6=>174 | 15=>132 | 14=>192 | 28=>157 | 29=>158 | 20=>198 | 21=>199 | 22=>200 | 23=>201 | 24=>202 | 25=>203 | 26=>204 | 27=>205 | 46=>207 | 47=>184 | 48=>185 | 49=>208 | 50=>209 | 57=>210 | n=>n,fun | 22=>50 | 24=>52 | 25=>201 | 3=>3 | 39=>165 | 0=>0 | 53=>188 | 55=>190 | 4=>4 | 46=>182 | 45=>181 | 50=>101 | 5=>5 | 9=>9 | 66=>204 | 70=>208 | 76=>216 | 77=>127 | n=>n,fun | n=>n⟩
theorem Tryz.sort174:Go.Proofs.SlLaysF0.n6 Tryz.prog Tryz.sort174_ren where
  mixed:=by kernel_rfl
  f6:=⟨Tryz.f174.name,by decide,Tryz.func174.trans (congrArg some (by kernel_rfl))⟩
  f14:=⟨Tryz.f192.name,by decide,Tryz.func192.trans (congrArg some (by kernel_rfl))⟩
  f15:=Tryz.func132.trans (congrArg some (by kernel_rfl))
  f20:=⟨Tryz.f198.name,by decide,Tryz.func198.trans (congrArg some (by kernel_rfl))⟩
  f21:=⟨Tryz.f199.name,by decide,Tryz.func199.trans (congrArg some (by kernel_rfl))⟩
  f22:=⟨Tryz.f200.name,by decide,Tryz.func200.trans (congrArg some (by kernel_rfl))⟩
  f23:=⟨Tryz.f201.name,by decide,Tryz.func201.trans (congrArg some (by kernel_rfl))⟩
  f24:=⟨Tryz.f202.name,by decide,Tryz.func202.trans (congrArg some (by kernel_rfl))⟩
  f25:=⟨Tryz.f203.name,by decide,Tryz.func203.trans (congrArg some (by kernel_rfl))⟩
  f26:=⟨Tryz.f204.name,by decide,Tryz.func204.trans (congrArg some (by kernel_rfl))⟩
  f27:=⟨Tryz.f205.name,by decide,Tryz.func205.trans (congrArg some (by kernel_rfl))⟩
  f28:=Tryz.func157.trans (congrArg some (by kernel_rfl))
  f29:=Tryz.func158.trans (congrArg some (by kernel_rfl))
  f46:=⟨Tryz.f207.name,by decide,Tryz.func207.trans (congrArg some (by kernel_rfl))⟩
  f47:=Tryz.func184.trans (congrArg some (by kernel_rfl))
  f48:=Tryz.func185.trans (congrArg some (by kernel_rfl))
  f49:=⟨Tryz.f208.name,by decide,Tryz.func208.trans (congrArg some (by kernel_rfl))⟩
  f50:=⟨Tryz.f209.name,by decide,Tryz.func209.trans (congrArg some (by kernel_rfl))⟩
  f57:=⟨Tryz.f210.name,by decide,Tryz.func210.trans (congrArg some (by kernel_rfl))⟩
  t0:=Tryz.underlying0
  a0:=Tryz.isAgg0
  z0:=Tryz.sizeOf0
  v0:=Tryz.zeroValue0
  t3:=Tryz.underlying3
  a3:=Tryz.isAgg3
  z3:=Tryz.sizeOf3
  v3:=Tryz.zeroValue3
  t4:=Tryz.underlying4
  a4:=Tryz.isAgg4
  z4:=Tryz.sizeOf4
  v4:=Tryz.zeroValue4
  t5:=Tryz.underlying5
  a5:=Tryz.isAgg5
  z5:=Tryz.sizeOf5
  v5:=Tryz.zeroValue5
  t9:=Tryz.underlying9
  a9:=Tryz.isAgg9
  z9:=Tryz.sizeOf9
  v9:=Tryz.zeroValue9
  t22:=Tryz.underlying50
  a22:=Tryz.isAgg50
  z22:=Tryz.sizeOf50
  v22:=Tryz.zeroValue50
  t25:=Tryz.underlying201
  a25:=Tryz.isAgg201
  z25:=Tryz.sizeOf201
  v25:=Tryz.zeroValue201
  t39:=Tryz.underlying165
  a39:=Tryz.isAgg165
  z39:=Tryz.sizeOf165
  v39:=Tryz.zeroValue165
  t45:=Tryz.underlying181
  a45:=Tryz.isAgg181
  z45:=Tryz.sizeOf181
  v45:=Tryz.zeroValue181
  t46:=Tryz.underlying182
  a46:=Tryz.isAgg182
  z46:=Tryz.sizeOf182
  v46:=Tryz.zeroValue182
  t50:=Tryz.underlying101
  a50:=Tryz.isAgg101
  z50:=Tryz.sizeOf101
  v50:=Tryz.zeroValue101
  t53:=Tryz.underlying188
  a53:=Tryz.isAgg188
  z53:=Tryz.sizeOf188
  v53:=Tryz.zeroValue188
  t55:=Tryz.underlying190
  a55:=Tryz.isAgg190
  z55:=Tryz.sizeOf190
  v55:=Tryz.zeroValue190
  t66:=Tryz.underlying204
  a66:=Tryz.isAgg204
  z66:=Tryz.sizeOf204
  v66:=Tryz.zeroValue204
  t70:=Tryz.underlying208
  a70:=Tryz.isAgg208
  z70:=Tryz.sizeOf208
  v70:=Tryz.zeroValue208
  t76:=Tryz.underlying216
  a76:=Tryz.isAgg216
  z76:=Tryz.sizeOf216
  v76:=Tryz.zeroValue216
  t77:=Tryz.underlying127
  a77:=Tryz.isAgg127
  z77:=Tryz.sizeOf127
  v77:=Tryz.zeroValue127
end Go.Proofs
namespace Go.Proofs.YteanekphncdhiaaGreat.Wk
open Go Go.RowKit Go.Proofs Go.Proofs.YteanekphncdhiaaGreat.Sh Go.Proofs.Tryz
set_option linter.unusedVariables false
set_option linter.unusedSimpArgs false
abbrev a2B (w0:World) (X:List Nat) (p2:Option Addr) (k3:Nat) (x1:(List Span)) (r:(List Span)):(Nat→Prop)→World→Value→Prop:=fun S w v=>∃ ck_0,v=.tuple #[]∧Outs X w0 S w [.row p2 r.length k3 ck_0 52 2]∧(j6 ck_0 r).p S w∧(a2b x1.length r).p S w
theorem a2A {w0 S0 p2 k3 c4 g7 cp9 x1} {cmp6:Span→Span→Option Int} {r} (u:Q6 x1 cmp6=some r) (hS:Dm S0 w0) (hin:Ins S0 w0 [.row p2 x1.length k3 c4 52 2]) (h5:(j6 c4 x1).p S0 w0) (h10:(a6G Tryz.prog g7 [] cp9 cmp6).p S0 w0):Calls Tryz.prog 174 #[sl p2 k3 x1,.func (.func g7) #[] cp9.toArray] w0 (Ret (H8 [.row p2 x1.length k3 c4 52 2]) w0 S0 (a2B w0 (H8 [.row p2 x1.length k3 c4 52 2]) p2 k3 x1 r)):=by
 exact b1H (α:=Span) (T:=52) Tryz.sort174 isAgg52 sizeOf52 (fun _=>rfl) (by decide) (fun d=>(C52 d)) (by rintro S w cs d ⟨_,_,rfl,rfl,rfl⟩;rfl) u hS hin h5 h10
theorem a5K {w0 S0 x1 r} (u:cmp_isNaN_int x1=some r) (hS:Dm S0 w0):Ck Tryz.prog 193 #[iv x1] w0 S0 [] l7 r:=by
 refine en 6 func193 rfl hS rfl rfl rfl fun a s d=>?_
 refine sz0 1 s rfl fun a s=>?_
 refine sz0 4 s rfl fun a s=>?_
 obtain rfl:=oi u
 exact q1 s rfl (d.ret rfl)
theorem a8c {w0 S0 x1 y2 r} (u:cmp_Compare_int x1 y2=some r) (hS:Dm S0 w0):Ck Tryz.prog 176 #[iv x1,iv y2] w0 S0 [] J7 r:=by
 refine en 20 func176 rfl hS rfl rfl rfl fun a s d=>?_
 refine sz0 1 s rfl fun a s=>?_
 refine sn0 1 s rfl fun a s=>?_
 obtain ⟨rv4,h3,u⟩:=bt u
 refine cV s d (a5K h3 d.bdom) (d9 call193 rfl) rfl fun a w s d=>?_
 refine rz0 1 s rfl fun a s=>?_
 refine sn0 1 s rfl fun a s=>?_
 obtain ⟨rv12,h11,u⟩:=bt u
 refine cV s d (a5K h11 d.bdom) (d9 call193 rfl) rfl fun a w s d=>?_
 refine rz0 1 s rfl fun a s=>?_
 refine wp_seq (sz0 1 s rfl fun a s=>?_)
 refine cd s u rfl (fun u=>?_) fun u=>?_
 ·refine wp_seq (sz0 1 s rfl fun a s=>?_)
  refine cd s u rfl (fun u=>?_) fun u=>?_
  ·refine sz0 1 s rfl fun a s=>?_
   obtain rfl:=oi u
   exact wp_ret (j3 (j3 (rt s rfl (d.ret rfl))))
  refine sk (sz0 1 s rfl fun a s=>?_)
  obtain rfl:=oi u
  exact wp_ret (j3 (rt s rfl (d.ret rfl)))
 refine sk (wp_seq (sz0 1 s rfl fun a s=>?_))
 refine cd s u rfl (fun u=>?_) fun u=>?_
 ·refine sz0 1 s rfl fun a s=>?_
  obtain rfl:=oi u
  exact wp_ret (j3 (rt s rfl (d.ret rfl)))
 refine sk (wp_seq (sz0 3 s rfl fun a s=>?_))
 refine cd s u rfl (fun u=>?_) fun u=>?_
 ·refine sz0 1 s rfl fun a s=>?_
  obtain rfl:=oi u
  exact wp_ret (j3 (rt s rfl (d.ret rfl)))
 refine sk (wp_seq (sz0 3 s rfl fun a s=>?_))
 refine cd s u rfl (fun u=>?_) fun u=>?_
 ·refine sz0 1 s rfl fun a s=>?_
  obtain rfl:=oi u
  exact wp_ret (j3 (rt s rfl (d.ret rfl)))
 refine sk (sz0 1 s rfl fun a s=>?_)
 obtain rfl:=oi u
 exact q1 s rfl (d.ret rfl)
theorem a8y {w0 S0 a1 b2 r} (u:a1I a1 b2=some r) (hS:Dm S0 w0):Ck Tryz.prog 175 #[V52 a1,V52 b2] w0 S0 [] J7 r:=by
 refine en 10 func175 rfl hS rfl rfl rfl fun a s d=>?_
 refine sr (wb (C52 a1) s d rfl fun b3 a w s d=>?_)
 refine wb (C52 b2) s d rfl fun b4 a w s d=>?_
 refine rz0 1 s rfl fun a s=>?_
 refine sn 4 [1,0] s d rfl rfl fun a s=>?_
 obtain ⟨rv6,h5,u⟩:=bt u
 refine cV s d (a8c h5 d.bdom) (d9 call176 rfl) rfl fun a w s d=>?_
 refine rz0 1 s rfl fun a s=>?_
 obtain rfl:=oi u
 exact q1 s rfl (d.ret rfl)
theorem a8x (S0:Nat→Prop) (w0:World):(a6G Tryz.prog 175 [] [] a1I).p S0 w0:=by
  refine ⟨call175,?_⟩
  rintro S1 w1 hk hS c0 c1 x0 x1 r1 ⟨_,_,rfl,rfl,rfl⟩ h1 hf
  obtain ⟨_,_,rfl,rfl,rfl⟩:=h1
  exact a8y hf hS
theorem a7q {w0 S0 p2 k3 l1 r} (u:a4F l1=some r) (hS:Dm S0 w0) (h4:(Sq p2 k3 l1).p S0 w0):Ck Tryz.prog 137 #[sl p2 k3 l1] w0 S0 [] C7 r:=by
 refine en 54 func137 rfl hS rfl rfl rfl fun a s d=>?_
 have d:=d.addE h4
 refine sz0 1 s rfl fun a s=>?_
 refine sn0 1 s rfl fun a s=>?_
 obtain ⟨rv6,h5,u⟩:=bt u
 refine cR s (a3f h5 d.dom (d.envAt 0 rfl)) (d9 call172 rfl) rfl ?_
 rintro v14 Sv11 w a h12 ⟨p7,k8,c10,rfl,h15,h9⟩ s
 have d:=(d.callN h12 h15).addE (e:=j6 c10 rv6) h9
 obtain ⟨rv18,h17,u⟩:=bt u
 refine cR s (a1X h17 d.dom (d.ins [0] (by decide) rfl) (d.envAt 0 rfl) (a8v _ _)) (d9 call171 rfl) rfl ?_
 rintro v26 Sv23 w a h24 ⟨p19,k20,c22,rfl,h27,h21⟩ s
 have d:=(d.callO [0] [] (by decide) rfl h24 h27).addE (e:=j6 c22 rv18) h21
 refine rz0 1 s rfl fun a s=>?_
 refine sn0 1 s rfl fun a s=>?_
 obtain ⟨rv30,h29,u⟩:=bt u
 refine cR s (a2A h29 d.dom (d.ins [0] (by decide) rfl) (d.envAt 0 rfl) (a8x _ _)) (d9 call174 rfl) rfl ?_
 rintro v37 Sv34 w a h35 ⟨c31,rfl,h38,h32,h33⟩ s
 have d:=(d.callO [0] [] (by decide) rfl h35 h38).addE (e:=j6 c31 rv30) h32
 have h40:=h33
 have h41:=Eq.symm h40
 try have s:=s.fl 3 rfl h41
 try have s:=s.fl 11 rfl h41
 refine nl (sz0 1 s rfl fun a s=>?_)
 refine wp_seq (sz0 3 s rfl fun a s=>?_)
 obtain ⟨e264,h465,u⟩:=bt u
 refine x9 (fun a w=>∃ c265 p266 k267 Sv268,Sl 54 [(4,sl p266 k267 e264)] a∧Wd ⟨w0,S0,[]⟩ Sv268 [.row p266 e264.length k267 c265 52 2] [j6 c265 e264] w) ?_ ?_
 ·refine wp_block ?_
  have d:=d.nilRow Span 52
  refine u7 (fun sv42 a w=>∃ c185 p186 k187 Sv188,Sl 54 [(4,sl p186 k187 sv42.1),(13,sl p19 k20 rv30),(14,iv (rv30.length:Int)),(15,iv sv42.2)] a∧Wd ⟨w0,S0,[]⟩ Sv188 [.row p186 sv42.1.length k187 c185 52 2,.row p19 rv30.length k20 c31 52 2] [j6 c185 sv42.1,j6 c31 rv30] w) (([]:List Span),0) h465 ⟨[],none,0,Sv34,wj s d [0,1] [0,1]⟩ ?_
  clear h465
  repeat clear u
  rintro sv42 a w tv262 ⟨c185,p186,k187,Sv188,s,d⟩ u hd261
  refine sz0 1 s rfl fun a s=>?_
  refine wp_seq (cd s u rfl (fun u=>?_) fun u=>?_)
  ·refine sk (wp_seq (wp_block (sr ?_)))
   obtain ⟨x344,h342,u⟩:=bt u
   obtain ⟨b351,q348,c349,h352,h345,h346,h350,h343⟩:=d.elemRV (α:=Span) 1 rfl 1 rfl h342
   have hsv353:=s
   have hwv354:=d
   subst h352
   have s:=hsv353
   have d:=hwv354
   obtain ⟨_,_,rfl,rfl,rfl⟩:=h343
   refine sv s (o8 runUnderlying50 sizeOf52 rfl rfl h345.1 h345.2 h346) rfl fun a s=>?_
   refine sv s (Q0 (j:=0) (d.ownAt 1 rfl) rfl isAgg52 sizeOf52 h350 rfl rfl) rfl fun a s=>?_
   refine wa [iv 0,iv 0] s d zeroValue52 fun b355 a w s d=>?_
   refine ws (C52 x344) s d 0 rfl rfl rfl sizeOf52 fun a w s d=>?_
   refine nl (sn0 2 s rfl fun a s=>?_)
   obtain ⟨n357,h356,u⟩:=bt u
   refine sv s (q8 rfl h356) rfl fun a s=>?_
   refine nl (wp_seq ?_)
   obtain ⟨c371,hc371,u⟩:=bt u
   refine y9 (fun a w=>∃ Sv372,Sl 54 [(4,sl p186 k187 sv42.1),(6,pt b355),(7,iv n357),(13,sl (ad b351) k20 rv30),(14,iv (rv30.length:Int)),(15,iv sv42.2),(33,.bool c371)] a∧Wd ⟨w0,S0,[]⟩ Sv372 [.box b355 (C52 x344) 52,.row p186 sv42.1.length k187 c185 52 2,.row (ad b351) rv30.length k20 c31 52 2] [j6 c185 sv42.1,j6 c31 rv30] w) ?_ ?_
   ·rcases Bool.eq_false_or_eq_true (decide (0<n357)) with h373 | h373
    ·have h374:=D5 hc371 h373
     obtain ⟨x377,h375,h374⟩:=O6 h374
     obtain ⟨b384,q381,c382,h385,h378,h379,h383,h376⟩:=d.elemRV (α:=Span) 1 rfl 0 rfl h375
     have hsv386:=s
     have hwv387:=d
     subst h385
     have s:=hsv386
     have d:=hwv387
     obtain ⟨_,_,rfl,rfl,rfl⟩:=h376
     refine h_c [0,1,2] [] d rfl rfl (by kernel_rfl) rfl fun hC d=>?_
     refine gn 3 [0,1,2] [] s hC rfl rfl rfl fun a s=>?_
     have s:=s.bT 23 rfl h373
     refine gn 5 [3,4,5,6,7] [0] s hC rfl rfl rfl fun a s=>?_
     refine gx s 8 rfl ⟨_,rfl,rfl⟩ rfl hC runUnderlying50 sizeOf52 rfl rfl h378 h379 fun a s=>?_
     refine gt s 9 rfl ⟨_,rfl,rfl⟩ rfl hC (fun w hC=>j5 (o':=q381+1) runUnderlying52 rfl sizeOf3 rfl rfl rfl) fun a s=>?_
     refine gt s 10 rfl ⟨_,rfl,rfl⟩ rfl hC (fun w hC=>K5 (j:=1) (hC.ownAt 1 rfl) rfl isAgg3 h383 rfl) fun a s=>?_
     refine gt s 11 rfl ⟨_,rfl,rfl⟩ rfl hC (fun w hC=>b0Y rfl rfl) fun a s=>?_
     refine gT s 12 rfl rfl hC rfl rfl h374 fun a s=>?_
     refine x8 (by kernel_rfl) ?_
     exact ⟨Sv188,wj s d [0,1,2] [0,1]⟩
    have h388:=D6 hc371 h373
    refine h_c [0,1,2] [] d rfl rfl (by kernel_rfl) rfl fun hC d=>?_
    refine gn 3 [0,1,2] [] s hC rfl rfl rfl fun a s=>?_
    have s:=s.bF 23 rfl h373
    refine gn 9 [3,4,5,6,7,8,9,10,11] [] s hC rfl rfl rfl fun a s=>?_
    refine gF s 12 rfl rfl hC rfl rfl h388 fun a s=>?_
    refine x8 (by kernel_rfl) ?_
    exact ⟨Sv188,wj s d [0,1,2] [0,1]⟩
   rintro a w ⟨Sv372,s,d⟩
   refine tn (x9 (fun a w=>∃ (out428:(List Span)) (c424 p425 k426 Sv427:_),a3X sv42 out428=some tv262∧Sl 54 [(4,sl p425 k426 out428),(13,sl (ad b351) k20 rv30),(14,iv (rv30.length:Int)),(15,iv sv42.2)] a∧Wd ⟨w0,S0,[]⟩ Sv427 [.row p425 out428.length k426 c424 52 2,.row (ad b351) rv30.length k20 c31 52 2] [j6 c424 out428,j6 c31 rv30] w) ?_ ?_)
   ·refine cd s u rfl (fun u=>?_) fun u=>?_
    ·obtain ⟨x432,h430,u⟩:=bt u
     obtain ⟨b439,q436,c437,h440,h433,h434,h438,h431⟩:=d.elemRV (α:=Span) 1 rfl 0 rfl h430
     have hsv441:=s
     have hwv442:=d
     subst h440
     have s:=hsv441
     have d:=hwv442
     obtain ⟨_,_,rfl,rfl,rfl⟩:=h431
     obtain ⟨x445,h443,u⟩:=bt u
     obtain ⟨q449,c450,h446,h447,h451,h444⟩:=d.elemRK (α:=Span) 1 rfl 0 rfl h443
     obtain ⟨_,_,rfl,rfl,rfl⟩:=h444
     obtain ⟨l453,h452,u⟩:=bt u
     refine y9 (fun a w=>∃ Sv456 c454,Sl 54 [(4,sl (ad b439) k187 l453),(13,sl (ad b351) k20 rv30),(14,iv (rv30.length:Int)),(15,iv sv42.2)] a∧Wd ⟨w0,S0,[]⟩ Sv456 [.row (ad b439) l453.length k187 c454 52 2,.row (ad b351) rv30.length k20 c31 52 2] [j6 c454 l453,j6 c31 rv30] w) ?_ ?_
     ·refine h_c [0,2] [] d rfl rfl (by kernel_rfl) rfl fun hC d=>?_
      refine gn 6 [0,1,2,3,4,5] [] s hC rfl rfl rfl fun a s=>?_
      refine gx s 6 rfl trivial rfl hC runUnderlying50 sizeOf52 rfl rfl h433 h434 fun a s=>?_
      refine gn 3 [7,9,10] [0] s hC rfl rfl rfl fun a s=>?_
      refine ho 8 rfl ?_
      refine sv s (K5 (j:=1) (d.ownAt 1 rfl) rfl isAgg3 h438 rfl) rfl fun a s=>?_
      refine h_n [0,2] [] d rfl rfl fun hC=>?_
      refine gv s 11 rfl rfl hC (fun w hC=>y_max rfl rfl) fun a s=>?_
      refine gx s 12 rfl trivial rfl hC runUnderlying50 sizeOf52 rfl rfl h446 h447 fun a s=>?_
      refine gv s 13 rfl rfl hC (fun w hC=>j5 (o':=q449+1) runUnderlying52 rfl sizeOf3 rfl rfl rfl) fun a s=>?_
      refine ho 14 rfl ?_
      refine a5l (α:=Span) (f:=1) (m:=1) s d 1 rfl 0 rfl h447 rfl rfl sizeOf3 rfl rfl rfl h452 (fun es he=>by rw [h451] at he;subst he;exact ⟨_,_,rfl,rfl,rfl⟩) trivial ?_
      intro c454 a w s d
      have h455:=Y0 h452
      try have s:=s.fl 4 rfl h455
      try have s:=s.fl 34 rfl h455
      try have s:=s.fl 37 rfl h455
      refine h_n [0,2] [] d rfl rfl fun hC=>?_
      refine x8 (by kernel_rfl) ?_
      exact ⟨Sv372,c454,wj s d [1,2] [0,2]⟩
     rintro a w ⟨Sv456,c454,s,d⟩
     exact tn ⟨l453,c454,(ad b439),k187,Sv456,u,wj s d [0,1] [0,1]⟩
    refine wp_region_lit (rn 2 [0] s d rfl rfl fun a s=>?_)
    refine y7 (α:=Span) (vs:=[V52 x344]) (cs:=(C52 x344)) (xs:=([x344]:List Span)) s d a4R rfl rfl rfl rfl rfl rfl ⟨⟨_,_,rfl,rfl,rfl⟩,rfl⟩ rfl trivial rfl fun b458 a w s d=>?_
    obtain ⟨l460,h459,u⟩:=bt u
    refine I4 (α:=Span) s d a4R 2 rfl rfl rfl 1 rfl 0 rfl 0 rfl h459 rfl trivial ?_
    intro p461 k462 c463 a w s d
    refine rz0 1 s rfl fun a s=>?_
    exact ⟨l460,c463,p461,k462,Sv372,u,wj s d [2,3] [0,3]⟩
   rintro a w ⟨out428,c424,p425,k426,Sv427,u,s,d⟩
   refine l9 (tn (wp_region_lit (rz0 2 s rfl fun a s=>?_)))
   exact ⟨_,io u,c424,p425,k426,Sv427,wj s d [0,1] [0,1]⟩
  refine wp_exit (j4 (j4 (o9 ?_)))
  obtain rfl:=oi u
  have h464:=hd261 _ rfl
  subst h464
  exact tn ⟨c185,p186,k187,Sv188,wj s d [0] [0]⟩
 rintro a w ⟨c265,p266,k267,Sv268,s,d⟩
 refine tn (sz0 2 s rfl fun a s=>?_)
 obtain rfl:=oi u
 exact q1 s rfl (d.ret ⟨p266,k267,c265,rfl,(d.outs [0] (by decide) rfl),(d.envAt 0 rfl)⟩)
theorem b1m {w0 S0 p2 k3 p6 k7 a1 b5 r} (u:a6z a1 b5=some r) (hS:Dm S0 w0) (h4:(Sq p2 k3 a1).p S0 w0) (h8:(Sq p6 k7 b5).p S0 w0):Ck Tryz.prog 109 #[sl p2 k3 a1,sl p6 k7 b5] w0 S0 [] C7 r:=by
 refine en 68 func109 rfl hS rfl rfl rfl fun a s d=>?_
 have d:=(d.addE h4).addE h8
 refine sz0 1 s rfl fun a s=>?_
 refine sn0 1 s rfl fun a s=>?_
 obtain ⟨rv10,h9,u⟩:=bt u
 refine cR s (a7q h9 d.dom (d.envAt 0 rfl)) (d9 call137 rfl) rfl ?_
 rintro v18 Sv15 w a h16 ⟨p11,k12,c14,rfl,h19,h13⟩ s
 have d:=(d.callN h16 h19).addE (e:=j6 c14 rv10) h13
 refine rz0 1 s rfl fun a s=>?_
 refine sz0 1 s rfl fun a s=>?_
 refine wp_seq (sn0 1 s rfl fun a s=>?_)
 obtain ⟨rv22,h21,u⟩:=bt u
 refine cR s (a7q h21 d.dom (d.envAt 2 rfl)) (d9 call137 rfl) rfl ?_
 rintro v30 Sv27 w a h28 ⟨p23,k24,c26,rfl,h31,h25⟩ s
 have d:=(d.callN h28 h31).addE (e:=j6 c26 rv22) h25
 refine rz0 2 s rfl fun a s=>?_
 obtain ⟨e522,h935,u⟩:=bt u
 refine x9 (fun a w=>∃ c523 p524 k525 Sv526,Sl 68 [(5,sl p524 k525 e522)] a∧Wd ⟨w0,S0,[]⟩ Sv526 [.row p524 e522.length k525 c523 52 2] [j6 c523 e522] w) ?_ ?_
 ·refine wp_block ?_
  have d:=d.nilRow Span 52
  refine u7 (fun sv33 a w=>∃ c356 p357 k358 Sv359,Sl 68 [(1,sl p11 k12 rv10),(5,sl p357 k358 sv33.1),(14,sl p23 k24 rv22),(15,iv (rv22.length:Int)),(16,iv sv33.2)] a∧Wd ⟨w0,S0,[]⟩ Sv359 [.row p11 rv10.length k12 c14 52 2,.row p357 sv33.1.length k358 c356 52 2,.row p23 rv22.length k24 c26 52 2] [j6 c14 rv10,j6 c356 sv33.1,j6 c26 rv22] w) (([]:List Span),0) h935 ⟨[],none,0,Sv27,wj s d [2,0,1] [2,0,1]⟩ ?_
  clear h935
  repeat clear u
  rintro sv33 a w tv520 ⟨c356,p357,k358,Sv359,s,d⟩ u hd519
  refine sz0 1 s rfl fun a s=>?_
  refine wp_seq (cd s u rfl (fun u=>?_) fun u=>?_)
  ·refine sk (wp_seq (wp_block (sr ?_)))
   obtain ⟨x689,h687,u⟩:=bt u
   obtain ⟨b696,q693,c694,h697,h690,h691,h695,h688⟩:=d.elemRV (α:=Span) 2 rfl 2 rfl h687
   have hsv698:=s
   have hwv699:=d
   subst h697
   have s:=hsv698
   have d:=hwv699
   obtain ⟨_,_,rfl,rfl,rfl⟩:=h688
   refine sv s (o8 runUnderlying50 sizeOf52 rfl rfl h690.1 h690.2 h691) rfl fun a s=>?_
   refine sv s (Q0 (j:=0) (d.ownAt 2 rfl) rfl isAgg52 sizeOf52 h695 rfl rfl) rfl fun a s=>?_
   refine wa [iv 0,iv 0] s d zeroValue52 fun b700 a w s d=>?_
   refine ws (C52 x689) s d 0 rfl rfl rfl sizeOf52 fun a w s d=>?_
   refine nl (sz 3 [0] s d rfl rfl fun a s=>?_)
   refine wp_seq (sz0 3 s rfl fun a s=>?_)
   obtain ⟨e827,h933,u⟩:=bt u
   refine x9 (fun a w=>∃ c828 p829 k830 Sv831,Sl 68 [(1,sl p11 k12 rv10),(5,sl p829 k830 e827.1),(7,pt b700),(8,iv e827.2),(14,sl (ad b696) k24 rv22),(15,iv (rv22.length:Int)),(16,iv sv33.2)] a∧Wd ⟨w0,S0,[]⟩ Sv831 [.box b700 (C52 x689) 52,.row p11 rv10.length k12 c14 52 2,.row p829 e827.1.length k830 c828 52 2,.row (ad b696) rv22.length k24 c26 52 2] [j6 c14 rv10,j6 c828 e827.1,j6 c26 rv22] w) ?_ ?_
   ·refine wp_block (u7 (fun sv701 a w=>∃ c782 p783 k784 Sv785,Sl 68 [(1,sl p11 k12 rv10),(5,sl p783 k784 sv701.1),(7,pt b700),(8,iv sv701.2.1),(14,sl (ad b696) k24 rv22),(15,iv (rv22.length:Int)),(16,iv sv33.2),(22,sl p11 k12 rv10),(23,iv (rv10.length:Int)),(24,iv sv701.2.2)] a∧Wd ⟨w0,S0,[]⟩ Sv785 [.box b700 (C52 x689) 52,.row p11 rv10.length k12 c14 52 2,.row p783 sv701.1.length k784 c782 52 2,.row (ad b696) rv22.length k24 c26 52 2] [j6 c14 rv10,j6 c782 sv701.1,j6 c26 rv22] w) (sv33.1,x689.From,0) h933 ⟨c356,p357,k358,Sv359,wj s d [0,1,2,3] [0,1,2]⟩ ?_)
    clear h933
    repeat clear u
    rintro sv701 a w tv825 ⟨c782,p783,k784,Sv785,s,d⟩ u hd824
    refine sz0 1 s rfl fun a s=>?_
    refine wp_seq (cd s u rfl (fun u=>?_) fun u=>?_)
    ·refine sk (wp_seq (x9 (fun a w=>∃ (out869:(List Span)) (atv870:Int) (c865 p866 k867 Sv868:_),a2M sv701 out869 atv870=some tv825∧Sl 68 [(1,sl p11 k12 rv10),(5,sl p866 k867 out869),(7,pt b700),(8,iv atv870),(14,sl (ad b696) k24 rv22),(15,iv (rv22.length:Int)),(16,iv sv33.2),(22,sl p11 k12 rv10),(23,iv (rv10.length:Int)),(24,iv sv701.2.2)] a∧Wd ⟨w0,S0,[]⟩ Sv868 [.box b700 (C52 x689) 52,.row p11 rv10.length k12 c14 52 2,.row p866 out869.length k867 c865 52 2,.row (ad b696) rv22.length k24 c26 52 2] [j6 c14 rv10,j6 c865 out869,j6 c26 rv22] w) ?_ ?_))
     ·refine wp_block (sr ?_)
      obtain ⟨x873,h871,u⟩:=bt u
      obtain ⟨b880,q877,c878,h881,h874,h875,h879,h872⟩:=d.elemRV (α:=Span) 1 rfl 0 rfl h871
      have hsv882:=s
      have hwv883:=d
      subst h881
      have s:=hsv882
      have d:=hwv883
      obtain ⟨_,_,rfl,rfl,rfl⟩:=h872
      refine sv s (o8 runUnderlying50 sizeOf52 rfl rfl h874.1 h874.2 h875) rfl fun a s=>?_
      refine sv s (Q0 (j:=0) (d.ownAt 1 rfl) rfl isAgg52 sizeOf52 h879 rfl rfl) rfl fun a s=>?_
      refine wa [iv 0,iv 0] s d zeroValue52 fun b884 a w s d=>?_
      refine ws (C52 x873) s d 0 rfl rfl rfl sizeOf52 fun a w s d=>?_
      refine nl (wp_seq (sn 5 [0] s d rfl rfl fun a s=>?_))
      refine rO 6 32 [0,1] s d rfl rfl rfl rfl rfl fun a s=>?_
      refine nl (cd s u rfl (fun u=>?_) fun u=>?_)
      ·exact wp_exit (j4 (o9 (tn ⟨sv701.1,sv701.2.1,c782,p783,k784,Sv785,u,wj s d [1,2,3,4] [0,1,2]⟩)))
      refine sk (wp_seq (sz 4 [0] s d rfl rfl fun a s=>?_))
      refine x9 (fun a w=>∃ (out900:(List Span)) (c896 p897 k898 Sv899:_),a2N sv701 x873 out900=some tv825∧Sl 68 [(1,sl (ad b880) k12 rv10),(5,sl p897 k898 out900),(7,pt b700),(8,iv sv701.2.1),(10,pt b884),(14,sl (ad b696) k24 rv22),(15,iv (rv22.length:Int)),(16,iv sv33.2),(22,sl (ad b880) k12 rv10),(23,iv (rv10.length:Int)),(24,iv sv701.2.2)] a∧Wd ⟨w0,S0,[]⟩ Sv899 [.box b700 (C52 x689) 52,.box b884 (C52 x873) 52,.row (ad b880) rv10.length k12 c14 52 2,.row p897 out900.length k898 c896 52 2,.row (ad b696) rv22.length k24 c26 52 2] [j6 c14 rv10,j6 c896 out900,j6 c26 rv22] w) ?_ ?_
      ·refine cd s u rfl (fun u=>?_) fun u=>?_
       ·refine wp_region_lit (rn 4 [0] s d rfl rfl fun a s=>?_)
        refine sv s (z8 (vs:=[(0,iv sv701.2.1),(1,iv x873.From)]) b0g rfl rfl) rfl fun a s=>?_
        refine y7 (α:=Span) (vs:=[.agg #[iv sv701.2.1,iv x873.From]]) (cs:=[iv sv701.2.1,iv x873.From]) (xs:=([(⟨sv701.2.1,x873.From⟩:Span)]:List Span)) s d a4R rfl rfl rfl rfl rfl rfl ⟨⟨_,_,rfl,rfl,rfl⟩,rfl⟩ rfl trivial rfl fun b905 a w s d=>?_
        obtain ⟨l907,h906,u⟩:=bt u
        refine I4 (α:=Span) s d a4R 4 rfl rfl rfl 2 rfl 0 rfl 0 rfl h906 rfl trivial ?_
        intro p908 k909 c910 a w s d
        refine rz0 1 s rfl fun a s=>?_
        exact ⟨l907,c910,p908,k909,Sv785,u,wj s d [2,1,3,4,5] [2,0,4]⟩
       exact sk ⟨sv701.1,c782,p783,k784,Sv785,u,wj s d [1,0,2,3,4] [0,1,2]⟩
      rintro a w ⟨out900,c896,p897,k898,Sv899,u,s,d⟩
      refine tn (wp_region_lit (rn 4 [1] s d rfl rfl fun a s=>?_))
      obtain ⟨atv902,h901,u⟩:=bt u
      refine sv s (q8 rfl h901) rfl fun a s=>?_
      refine wpList_nil ?_
      exact l9 (tn ⟨out900,atv902,c896,p897,k898,Sv899,u,wj s d [0,2,3,4] [0,1,2]⟩)
     rintro a w ⟨out869,atv870,c865,p866,k867,Sv868,u,s,d⟩
     refine tn (wp_region_lit (rz0 2 s rfl fun a s=>?_))
     exact ⟨_,io u,c865,p866,k867,Sv868,wj s d [0,1,2,3] [0,1,2]⟩
    refine wp_exit (j4 (j4 (o9 ?_)))
    obtain rfl:=oi u
    have h911:=hd824 _ rfl
    subst h911
    exact tn ⟨c782,p783,k784,Sv785,wj s d [0,1,2,3] [0,1,2]⟩
   rintro a w ⟨c828,p829,k830,Sv831,s,d⟩
   refine tn (sz 4 [0] s d rfl rfl fun a s=>?_)
   refine x9 (fun a w=>∃ (out924:(List Span)) (c920 p921 k922 Sv923:_),a2O sv33 out924=some tv520∧Sl 68 [(1,sl p11 k12 rv10),(5,sl p921 k922 out924),(14,sl (ad b696) k24 rv22),(15,iv (rv22.length:Int)),(16,iv sv33.2)] a∧Wd ⟨w0,S0,[]⟩ Sv923 [.row p11 rv10.length k12 c14 52 2,.row p921 out924.length k922 c920 52 2,.row (ad b696) rv22.length k24 c26 52 2] [j6 c14 rv10,j6 c920 out924,j6 c26 rv22] w) ?_ ?_
   ·refine cd s u rfl (fun u=>?_) fun u=>?_
    ·refine wp_region_lit (rn 4 [0] s d rfl rfl fun a s=>?_)
     refine sv s (z8 (vs:=[(0,iv e827.2),(1,iv x689.To)]) b0g rfl rfl) rfl fun a s=>?_
     refine y7 (α:=Span) (vs:=[.agg #[iv e827.2,iv x689.To]]) (cs:=[iv e827.2,iv x689.To]) (xs:=([(⟨e827.2,x689.To⟩:Span)]:List Span)) s d a4R rfl rfl rfl rfl rfl rfl ⟨⟨_,_,rfl,rfl,rfl⟩,rfl⟩ rfl trivial rfl fun b927 a w s d=>?_
     obtain ⟨l929,h928,u⟩:=bt u
     refine I4 (α:=Span) s d a4R 3 rfl rfl rfl 2 rfl 0 rfl 0 rfl h928 rfl trivial ?_
     intro p930 k931 c932 a w s d
     refine rz0 1 s rfl fun a s=>?_
     exact ⟨l929,c932,p930,k931,Sv831,u,wj s d [2,3,4] [2,0,4]⟩
    exact sk ⟨e827.1,c828,p829,k830,Sv831,u,wj s d [1,2,3] [0,1,2]⟩
   rintro a w ⟨out924,c920,p921,k922,Sv923,u,s,d⟩
   refine l9 (tn (wp_region_lit (rz0 2 s rfl fun a s=>?_)))
   exact ⟨_,io u,c920,p921,k922,Sv923,wj s d [0,1,2] [0,1,2]⟩
  refine wp_exit (j4 (j4 (o9 ?_)))
  obtain rfl:=oi u
  have h934:=hd519 _ rfl
  subst h934
  exact tn ⟨c356,p357,k358,Sv359,wj s d [1] [1]⟩
 rintro a w ⟨c523,p524,k525,Sv526,s,d⟩
 refine tn (sz0 2 s rfl fun a s=>?_)
 obtain rfl:=oi u
 exact q1 s rfl (d.ret ⟨p524,k525,c523,rfl,(d.outs [0] (by decide) rfl),(d.envAt 0 rfl)⟩)
theorem a8u {w0 S0 p2 k3 p6 k7 a1 b5 r} (u:V9 a1 b5=some r) (hS:Dm S0 w0) (h4:(Sq p2 k3 a1).p S0 w0) (h8:(Sq p6 k7 b5).p S0 w0):Ck Tryz.prog 59 #[sl p2 k3 a1,sl p6 k7 b5] w0 S0 [] C7 r:=by
 refine en 65 func59 rfl hS rfl rfl rfl fun a s d=>?_
 have d:=(d.addE h4).addE h8
 refine sz0 1 s rfl fun a s=>?_
 refine sz0 2 s rfl fun a s=>?_
 refine wp_seq (sn0 2 s rfl fun a s=>?_)
 refine y7 (α:=(List Epoch)) (vs:=[sl p2 k3 a1,sl p6 k7 b5]) (cs:=[sl p2 k3 a1,sl p6 k7 b5]) (xs:=([a1,b5]:List (List Epoch))) s d El171 rfl rfl rfl rfl rfl rfl ⟨⟨_,rfl,⟨_,_,_,rfl,d.envAt 1 rfl⟩⟩,⟨⟨_,rfl,⟨_,_,_,rfl,d.envAt 0 rfl⟩⟩,rfl⟩⟩ rfl trivial rfl fun b10 a w s d=>?_
 obtain ⟨rv12,h11,u⟩:=bt u
 obtain ⟨Sv17,d⟩:=A9 (α:=(List Epoch)) d 0 rfl 0 rfl
 refine cR s (a2x h11 d.dom (d.envAt 0 rfl)) (d9 call107 rfl) rfl ?_
 rintro v21 Sv18 w a h19 ⟨p13,k14,c16,rfl,h22,h15⟩ s
 have d:=(d.callN h19 h22).addE (e:=j6 c16 rv12) h15
 refine rz0 2 s rfl fun a s=>?_
 obtain ⟨e114,h1075,u⟩:=bt u
 refine x9 (fun a w=>∃ c115 p116 k117 Sv118,Sl 65 [(0,sl p2 k3 a1),(1,sl p6 k7 b5),(5,sl p116 k117 e114),(6,.slice none ([]:List Span).length 0)] a∧Wd ⟨w0,S0,[]⟩ Sv118 [.row p116 e114.length k117 c115 52 2] [Sq p2 k3 a1,Sq p6 k7 b5,Sq none 0 ([]:List Span),j6 c115 e114] w) ?_ ?_
 ·refine wp_block ?_
  have d:=(d.nilRow Span 52).addE (e:=SlA (α:=Span) none 0 0 []) M8
  refine u7 (fun sv24 a w=>∃ c81 p82 k83 Sv84,Sl 65 [(0,sl p2 k3 a1),(1,sl p6 k7 b5),(5,sl p82 k83 sv24.1),(6,.slice none ([]:List Span).length 0),(16,sl p13 k14 rv12),(17,iv (rv12.length:Int)),(18,iv sv24.2)] a∧Wd ⟨w0,S0,[]⟩ Sv84 [.row p82 sv24.1.length k83 c81 52 2,.row p13 rv12.length k14 c16 41 8] [Sq p2 k3 a1,Sq p6 k7 b5,Sq none 0 ([]:List Span),j6 c81 sv24.1,j6 c16 rv12] w) (([]:List Span),0) h1075 ⟨[],none,0,Sv18,wj s d [0,1] [6,5,0,1,2]⟩ ?_
  clear h1075
  repeat clear u
  rintro sv24 a w tv112 ⟨c81,p82,k83,Sv84,s,d⟩ u hd111
  refine sz0 1 s rfl fun a s=>?_
  refine wp_seq (cd s u rfl (fun u=>?_) fun u=>?_)
  ·refine sk (wp_seq (wp_block (sr ?_)))
   obtain ⟨x148,h146,u⟩:=bt u
   obtain ⟨b155,q152,c153,h156,h149,h150,h154,h147⟩:=d.elemRV (α:=Epoch) 1 rfl 4 rfl h146
   have hsv157:=s
   have hwv158:=d
   subst h156
   have s:=hsv157
   have d:=hwv158
   obtain ⟨_,_,_,_,_,_,_,_,rfl,rfl,rfl,rfl,rfl,rfl,rfl,rfl,⟨p159,n160,k161,rfl,h162⟩⟩:=h147
   obtain rfl:=h162.1
   have d:=d.addE (e:=SlA p159 _ k161 x148.Response.Stages) h162
   refine sv s (o8 runUnderlying71 sizeOf41 rfl rfl h149.1 h149.2 h150) rfl fun a s=>?_
   refine sv s (Q0 (j:=0) (d.ownAt 1 rfl) rfl isAgg41 sizeOf41 h154 rfl rfl) rfl fun a s=>?_
   refine wa Z1 s d zeroValue41 fun b163 a w s d=>?_
   refine ws (C41 x148 p159 k161) s d 0 rfl rfl rfl sizeOf41 fun a w s d=>?_
   refine nl (wp_region_lit (rn 5 [0,0] s d rfl rfl fun a s=>?_))
   refine sv s (z8 (vs:=[(0,iv x148.From),(1,iv x148.To)]) b0g rfl rfl) rfl fun a s=>?_
   refine y7 (α:=Span) (vs:=[V52 ⟨x148.From,x148.To⟩]) (cs:=(C52 ⟨x148.From,x148.To⟩)) (xs:=([(⟨x148.From,x148.To⟩:Span)]:List Span)) s d a4R rfl rfl rfl rfl rfl rfl ⟨⟨_,_,rfl,rfl,rfl⟩,rfl⟩ rfl trivial rfl fun b165 a w s d=>?_
   obtain ⟨l167,h166,u⟩:=bt u
   refine I4 (α:=Span) s d a4R 2 rfl rfl rfl 5 rfl 0 rfl 0 rfl h166 rfl trivial ?_
   intro p168 k169 c170 a w s d
   refine av s rfl rfl fun a s=>?_
   refine wpList_nil ?_
   refine l9 (tn (wp_region_lit (rz0 2 s rfl fun a s=>?_)))
   exact ⟨_,io u,c170,p168,k169,Sv84,wj s d [2,3] [3,4,5,0,7]⟩
  refine wp_exit (j4 (j4 (o9 ?_)))
  obtain rfl:=oi u
  have h171:=hd111 _ rfl
  subst h171
  exact tn ⟨c81,p82,k83,Sv84,wj s d [0] [0,1,2,3]⟩
 rintro a w ⟨c115,p116,k117,Sv118,s,d⟩
 refine tn (wp_seq (sz0 3 s rfl fun a s=>?_))
 obtain ⟨e652,h1074,u⟩:=bt u
 refine x9 (fun a w=>∃ c653 p654 k655 Sv656,Sl 65 [(5,sl p116 k117 e114),(6,sl p654 k655 e652)] a∧Wd ⟨w0,S0,[]⟩ Sv656 [.row p116 e114.length k117 c115 52 2,.row p654 e652.length k655 c653 52 2] [j6 c115 e114,j6 c653 e652] w) ?_ ?_
 ·refine wp_block ?_
  have d:=d.nilRow Span 52
  refine u7 (fun sv172 a w=>∃ c489 p490 k491 Sv492,Sl 65 [(1,sl p6 k7 b5),(5,sl p116 k117 e114),(6,sl p490 k491 sv172.1),(31,sl p2 k3 a1),(32,iv (a1.length:Int)),(33,iv sv172.2)] a∧Wd ⟨w0,S0,[]⟩ Sv492 [.row p116 e114.length k117 c115 52 2,.row p490 sv172.1.length k491 c489 52 2] [Sq p6 k7 b5,Sq p2 k3 a1,j6 c115 e114,j6 c489 sv172.1] w) (([]:List Span),0) h1074 ⟨[],none,0,Sv118,wj s d [1,0] [2,1,4,0]⟩ ?_
  clear h1074
  repeat clear u
  rintro sv172 a w tv650 ⟨c489,p490,k491,Sv492,s,d⟩ u hd649
  refine sz0 1 s rfl fun a s=>?_
  refine wp_seq (cd s u rfl (fun u=>?_) fun u=>?_)
  ·refine sk (wp_seq (wp_block (sr ?_)))
   obtain ⟨x816,h814,u⟩:=bt u
   obtain ⟨b822,o823,q820,c821,h824,h817,h818,h819,h815⟩:=d.elemV 1 rfl h814
   have hsv825:=s
   have hwv826:=d
   subst h824
   have s:=hsv825
   have d:=hwv826
   obtain ⟨_,_,_,_,_,_,_,_,rfl,rfl,rfl,rfl,rfl,rfl,rfl,rfl,⟨p827,n828,k829,rfl,h830⟩⟩:=h815
   obtain rfl:=h830.1
   have d:=(d.addE (e:=SlA p827 _ k829 x816.Response.Stages) h830).addE h819
   refine sv s (o8 runUnderlying71 sizeOf41 rfl rfl h817.1 h817.2 h818) rfl fun a s=>?_
   refine sv s (D9 (j:=0) (d.ceAt 0 rfl) rfl isAgg41 sizeOf41 rfl rfl) rfl fun a s=>?_
   refine wa Z1 s d zeroValue41 fun b831 a w s d=>?_
   refine ws (C41 x816 p827 k829) s d 0 rfl rfl rfl sizeOf41 fun a w s d=>?_
   refine nl (sz0 3 s rfl fun a s=>?_)
   obtain ⟨e964,h1058,u⟩:=bt u
   refine x9 (fun a w=>∃ c965 p966 k967 Sv968,Sl 65 [(1,sl p6 k7 b5),(5,sl p116 k117 e114),(6,sl p966 k967 e964),(31,sl (some ⟨b822,o823,none⟩) k3 a1),(32,iv (a1.length:Int)),(33,iv sv172.2)] a∧Wd ⟨w0,S0,[]⟩ Sv968 [.row p116 e114.length k117 c115 52 2,.row p966 e964.length k967 c965 52 2] [Sq p6 k7 b5,Sq (some ⟨b822,o823,none⟩) k3 a1,j6 c115 e114,j6 c965 e964] w) ?_ ?_
   ·refine wp_block (u7 (fun sv832 a w=>∃ c917 p918 k919 Sv920,Sl 65 [(1,sl p6 k7 b5),(5,sl p116 k117 e114),(6,sl p918 k919 sv832.1),(10,pt b831),(31,sl (some ⟨b822,o823,none⟩) k3 a1),(32,iv (a1.length:Int)),(33,iv sv172.2),(37,sl p6 k7 b5),(38,iv (b5.length:Int)),(39,iv sv832.2)] a∧Wd ⟨w0,S0,[]⟩ Sv920 [.box b831 (C41 x816 p827 k829) 41,.row p116 e114.length k117 c115 52 2,.row p918 sv832.1.length k919 c917 52 2] [Sq p6 k7 b5,Sq (some ⟨b822,o823,none⟩) k3 a1,Sq p827 k829 x816.Response.Stages,j6 c115 e114,j6 c917 sv832.1] w) (sv172.1,0) h1058 ⟨c489,p490,k491,Sv492,wj s d [0,1,2] [2,3,1,4,5]⟩ ?_)
    clear h1058
    repeat clear u
    rintro sv832 a w tv962 ⟨c917,p918,k919,Sv920,s,d⟩ u hd961
    refine sz0 1 s rfl fun a s=>?_
    refine wp_seq (cd s u rfl (fun u=>?_) fun u=>?_)
    ·refine sk (wp_seq (wp_block (sr ?_)))
     obtain ⟨x1012,h1010,u⟩:=bt u
     obtain ⟨b1018,o1019,q1016,c1017,h1020,h1013,h1014,h1015,h1011⟩:=d.elemV 0 rfl h1010
     have hsv1021:=s
     have hwv1022:=d
     subst h1020
     have s:=hsv1021
     have d:=hwv1022
     obtain ⟨_,_,_,_,_,_,_,_,rfl,rfl,rfl,rfl,rfl,rfl,rfl,rfl,⟨p1023,n1024,k1025,rfl,h1026⟩⟩:=h1011
     obtain rfl:=h1026.1
     have d:=(d.addE (e:=SlA p1023 _ k1025 x1012.Response.Stages) h1026).addE h1015
     refine sv s (o8 runUnderlying71 sizeOf41 rfl rfl h1013.1 h1013.2 h1014) rfl fun a s=>?_
     refine sv s (D9 (j:=0) (d.ceAt 0 rfl) rfl isAgg41 sizeOf41 rfl rfl) rfl fun a s=>?_
     refine wa Z1 s d zeroValue41 fun b1027 a w s d=>?_
     refine ws (C41 x1012 p1023 k1025) s d 0 rfl rfl rfl sizeOf41 fun a w s d=>?_
     refine nl (sn 2 [1,0] s d rfl rfl fun a s=>?_)
     obtain ⟨rv1029,h1028,u⟩:=bt u
     refine cV s d (a8Y h1028 d.bdom (d.bE 4 rfl) (d.bE 1 rfl)) (d9 call108 rfl) rfl fun a w s d=>?_
     refine nl (x9 (fun a w=>∃ (same1048:(List Span)) (c1044 p1045 k1046 Sv1047:_),a1q sv832 same1048=some tv962∧Sl 65 [(1,sl (some ⟨b1018,o1019,none⟩) k7 b5),(5,sl p116 k117 e114),(6,sl p1045 k1046 same1048),(10,pt b831),(31,sl (some ⟨b822,o823,none⟩) k3 a1),(32,iv (a1.length:Int)),(33,iv sv172.2),(37,sl (some ⟨b1018,o1019,none⟩) k7 b5),(38,iv (b5.length:Int)),(39,iv sv832.2)] a∧Wd ⟨w0,S0,[]⟩ Sv1047 [.box b831 (C41 x816 p827 k829) 41,.row p116 e114.length k117 c115 52 2,.row p1045 same1048.length k1046 c1044 52 2] [Sq (some ⟨b1018,o1019,none⟩) k7 b5,Sq (some ⟨b822,o823,none⟩) k3 a1,Sq p827 k829 x816.Response.Stages,j6 c115 e114,j6 c1044 same1048] w) ?_ ?_)
     ·refine cd s u rfl (fun u=>?_) fun u=>?_
      ·refine wp_region_lit (rn 11 [1,0,1,0] s d rfl rfl fun a s=>?_)
       refine sv s (z8 (vs:=[(0,iv (max x816.From x1012.From)),(1,iv (min x816.To x1012.To))]) b0g rfl rfl) rfl fun a s=>?_
       refine y7 (α:=Span) (vs:=[.agg #[iv (max x816.From x1012.From),iv (min x816.To x1012.To)]]) (cs:=[iv (max x816.From x1012.From),iv (min x816.To x1012.To)]) (xs:=([(⟨(max x816.From x1012.From),(min x816.To x1012.To)⟩:Span)]:List Span)) s d a4R rfl rfl rfl rfl rfl rfl ⟨⟨_,_,rfl,rfl,rfl⟩,rfl⟩ rfl trivial rfl fun b1051 a w s d=>?_
       obtain ⟨l1053,h1052,u⟩:=bt u
       refine I4 (α:=Span) s d a4R 4 rfl rfl rfl 7 rfl 0 rfl 0 rfl h1052 rfl trivial ?_
       intro p1054 k1055 c1056 a w s d
       refine rz0 1 s rfl fun a s=>?_
       exact ⟨l1053,c1056,p1054,k1055,Sv920,u,wj s d [2,3,4] [4,5,6,7,0]⟩
      exact sk ⟨sv832.1,c917,p918,k919,Sv920,u,wj s d [1,2,3] [2,3,4,5,6]⟩
     rintro a w ⟨same1048,c1044,p1045,k1046,Sv1047,u,s,d⟩
     refine l9 (tn (wp_region_lit (rz0 2 s rfl fun a s=>?_)))
     exact ⟨_,io u,c1044,p1045,k1046,Sv1047,wj s d [0,1,2] [0,1,2,3,4]⟩
    refine wp_exit (j4 (j4 (o9 ?_)))
    obtain rfl:=oi u
    have h1057:=hd961 _ rfl
    subst h1057
    exact tn ⟨c917,p918,k919,Sv920,wj s d [1,2] [0,1,3,4]⟩
   rintro a w ⟨c965,p966,k967,Sv968,s,d⟩
   refine l9 (tn (wp_region_lit (rz0 2 s rfl fun a s=>?_)))
   exact ⟨_,io u,c965,p966,k967,Sv968,wj s d [0,1] [0,1,2,3]⟩
  refine wp_exit (j4 (j4 (o9 ?_)))
  obtain rfl:=oi u
  have h1059:=hd649 _ rfl
  subst h1059
  exact tn ⟨c489,p490,k491,Sv492,wj s d [0,1] [2,3]⟩
 rintro a w ⟨c653,p654,k655,Sv656,s,d⟩
 refine tn (sn0 2 s rfl fun a s=>?_)
 obtain ⟨rv1061,h1060,u⟩:=bt u
 obtain ⟨Sv1066,d⟩:=A9 (α:=Span) d 0 rfl 0 rfl
 obtain ⟨Sv1067,d⟩:=A9 (α:=Span) d 0 rfl 2 rfl
 refine cR s (b1m h1060 d.dom (d.envAt 1 rfl) (d.envAt 0 rfl)) (d9 call109 rfl) rfl ?_
 rintro v1071 Sv1068 w a h1069 ⟨p1062,k1063,c1065,rfl,h1072,h1064⟩ s
 have d:=(d.callN h1069 h1072).addE (e:=j6 c1065 rv1061) h1064
 refine rz0 1 s rfl fun a s=>?_
 obtain rfl:=oi u
 exact q1 s rfl (d.ret ⟨p1062,k1063,c1065,rfl,(d.outs [0] (by decide) rfl),(d.envAt 0 rfl)⟩)
abbrev a7i (w0:World) (X:List Nat) (r:(List Affected)):Rd:=fun S w v=>∃ p0_0 k0_0 c0_0,v=sl p0_0 k0_0 r∧Outs X w0 S w [.row p0_0 r.length k0_0 c0_0 56 5]∧(j6 c0_0 r).p S w
theorem a4E {w0 S0 p2 k3 p6 k7 a1 b5 r} (u:a0q a1 b5=some r) (hS:Dm S0 w0) (h4:(Sq p2 k3 a1.Channels).p S0 w0) (h8:(Sq p6 k7 b5.Channels).p S0 w0):Ck Tryz.prog 15 #[.agg #[sl p2 k3 a1.Channels],.agg #[sl p6 k7 b5.Channels]] w0 S0 [] a7i r:=by
 refine en 76 func15 rfl hS rfl rfl rfl fun a s d=>?_
 have d:=(d.addE h4).addE h8
 refine sr (wb [sl p2 k3 a1.Channels] s d rfl fun b9 a w s d=>?_)
 refine wb [sl p6 k7 b5.Channels] s d rfl fun b10 a w s d=>?_
 refine rz0 1 s rfl fun a s=>?_
 refine wp_seq (sn 1 [1] s d rfl rfl fun a s=>?_)
 obtain ⟨rv12,h11,u⟩:=bt u
 refine cV s d (a1i h11 d.bdom (d.bE 1 rfl)) (d9 call55 rfl) rfl fun a w s d=>?_
 refine rn0 2 s rfl fun a s=>?_
 obtain ⟨c28,hc28,u⟩:=bt u
 refine o7 4 (fun a w=>∃ Sv29,Sl 76 [(2,pt b9),(3,pt b10),(23,.bool c28)] a∧Wd ⟨w0,S0,[]⟩ Sv29 [.box b9 [sl p2 k3 a1.Channels] 29,.box b10 [sl p6 k7 b5.Channels] 29] [Sq p2 k3 a1.Channels,Sq p6 k7 b5.Channels] w) ?_ ?_
 ·rcases Bool.eq_false_or_eq_true (!rv12) with h27 | h27
  ·have s:=s.bT 19 rfl h27
   have u:=D5 hc28 h27
   refine rn0 4 s rfl fun a s=>?_
   refine wpList_nil ?_
   obtain rfl:=oi u
   exact tn ⟨S0,wj s d [1,0] [1,0]⟩
  have s:=s.bF 19 rfl h27
  have u:=D6 hc28 h27
  refine y8 s (a1a (d.ownAt 0 rfl) rfl isAgg29 sizeOf29 rfl rfl) ⟨_,rfl,rfl⟩ rfl rfl fun a s=>?_
  obtain ⟨rv31,h30,u⟩:=bt u
  refine q9 s (a1i h30 d.bdom (d.bE 0 rfl)) (d9 call55 rfl) ⟨_,rfl,rfl⟩ rfl rfl ?_
  rintro v35 Sv32 w a h33 rfl s
  have d:=d.callB h33
  refine rn0 2 s rfl fun a s=>?_
  refine wpList_nil ?_
  obtain rfl:=oi u
  exact tn ⟨S0,wj s d [1,0] [1,0]⟩
 rintro a w ⟨Sv29,s,d⟩
 refine nl (cd s u rfl (fun u=>?_) fun u=>?_)
 ·refine sz0 1 s rfl fun a s=>?_
  obtain rfl:=oi u
  have d:=d.nilRow Affected 56
  exact wp_ret (j3 (rt s rfl (d.ret ⟨none,0,[],rfl,(d.outs [0] (by decide) rfl),(d.envAt 0 rfl)⟩)))
 refine sk (sz0 1 s rfl fun a s=>?_)
 refine wp_seq (sn 4 [0,1] s d rfl rfl fun a s=>?_)
 refine y7 (α:=(List Channel)) (vs:=[sl p2 k3 a1.Channels,sl p6 k7 b5.Channels]) (cs:=[sl p2 k3 a1.Channels,sl p6 k7 b5.Channels]) (xs:=([a1.Channels,b5.Channels]:List (List Channel))) s d El151 rfl rfl rfl rfl rfl rfl ⟨⟨_,rfl,⟨_,_,_,rfl,d.envAt 0 rfl⟩⟩,⟨⟨_,rfl,⟨_,_,_,rfl,d.envAt 1 rfl⟩⟩,rfl⟩⟩ rfl trivial rfl fun b41 a w s d=>?_
 obtain ⟨rv43,h42,u⟩:=bt u
 obtain ⟨Sv48,d⟩:=A9 (α:=(List Channel)) d 0 rfl 0 rfl
 refine cR s (a1D h42 d.dom (d.envAt 0 rfl)) (d9 call56 rfl) rfl ?_
 rintro v52 Sv49 w a h50 ⟨p44,k45,c47,rfl,h53,h46⟩ s
 have d:=(d.callN h50 h53).addE (e:=j6 c47 rv43) h46
 refine rz0 2 s rfl fun a s=>?_
 obtain ⟨e145,h589,u⟩:=bt u
 refine x9 (fun a w=>∃ c146 p147 k148 Sv149,Sl 76 [(2,pt b9),(3,pt b10),(5,sl p147 k148 e145)] a∧Wd ⟨w0,S0,[]⟩ Sv149 [.box b9 [sl p2 k3 a1.Channels] 29,.box b10 [sl p6 k7 b5.Channels] 29,.row p147 e145.length k148 c146 32 4] [Sq p2 k3 a1.Channels,Sq p6 k7 b5.Channels,j6 c146 e145] w) ?_ ?_
 ·refine wp_block ?_
  have d:=d.nilRow SourceID 32
  refine u7 (fun sv55 a w=>∃ c112 p113 k114 Sv115,Sl 76 [(2,pt b9),(3,pt b10),(5,sl p113 k114 sv55.1),(29,sl p44 k45 rv43),(30,iv (rv43.length:Int)),(31,iv sv55.2)] a∧Wd ⟨w0,S0,[]⟩ Sv115 [.box b9 [sl p2 k3 a1.Channels] 29,.box b10 [sl p6 k7 b5.Channels] 29,.row p113 sv55.1.length k114 c112 32 4,.row p44 rv43.length k45 c47 73 5] [Sq p2 k3 a1.Channels,Sq p6 k7 b5.Channels,j6 c112 sv55.1,j6 c47 rv43] w) (([]:List SourceID),0) h589 ⟨[],none,0,Sv49,wj s d [2,3,0,1] [4,5,0,1]⟩ ?_
  clear h589
  repeat clear u
  rintro sv55 a w tv143 ⟨c112,p113,k114,Sv115,s,d⟩ u hd142
  refine sz0 1 s rfl fun a s=>?_
  refine wp_seq (cd s u rfl (fun u=>?_) fun u=>?_)
  ·refine sk (wp_seq (wp_block (sr ?_)))
   obtain ⟨x179,h177,u⟩:=bt u
   obtain ⟨b186,q183,c184,h187,h180,h181,h185,h178⟩:=d.elemRV (α:=Channel) 3 rfl 3 rfl h177
   have hsv188:=s
   have hwv189:=d
   subst h187
   have s:=hsv188
   have d:=hwv189
   obtain ⟨_,_,_,_,_,rfl,rfl,rfl,rfl,rfl,⟨p190,n191,k192,rfl,h193⟩⟩:=h178
   obtain rfl:=h193.1
   have d:=d.addE (e:=SlA p190 _ k192 x179.Epochs) h193
   refine sv s (o8 runUnderlying27 sizeOf73 rfl rfl h180.1 h180.2 h181) rfl fun a s=>?_
   refine sv s (Q0 (j:=0) (d.ownAt 3 rfl) rfl isAgg73 sizeOf73 h185 rfl rfl) rfl fun a s=>?_
   refine wa Z2 s d zeroValue73 fun b194 a w s d=>?_
   refine ws (C73 x179 p190 k192) s d 0 rfl rfl rfl sizeOf73 fun a w s d=>?_
   refine nl (wp_region_lit (rn 3 [0] s d rfl rfl fun a s=>?_))
   refine y7 (α:=SourceID) (vs:=[V32 x179.Source]) (cs:=(C32 x179.Source)) (xs:=([x179.Source]:List SourceID)) s d El60 rfl rfl rfl rfl rfl rfl ⟨⟨_,_,_,_,rfl,rfl,rfl,rfl,rfl⟩,rfl⟩ rfl trivial rfl fun b196 a w s d=>?_
   obtain ⟨l198,h197,u⟩:=bt u
   refine I4 (α:=SourceID) s d El60 4 rfl rfl rfl 4 rfl 0 rfl 0 rfl h197 rfl trivial ?_
   intro p199 k200 c201 a w s d
   refine av s rfl rfl fun a s=>?_
   refine wpList_nil ?_
   refine l9 (tn (wp_region_lit (rz0 2 s rfl fun a s=>?_)))
   exact ⟨_,io u,c201,p199,k200,Sv115,wj s d [2,3,4,5] [3,4,0,6]⟩
  refine wp_exit (j4 (j4 (o9 ?_)))
  obtain rfl:=oi u
  have h202:=hd142 _ rfl
  subst h202
  exact tn ⟨c112,p113,k114,Sv115,wj s d [0,1,2] [0,1,2]⟩
 rintro a w ⟨c146,p147,k148,Sv149,s,d⟩
 refine tn (sz0 1 s rfl fun a s=>?_)
 refine wp_seq (sn0 1 s rfl fun a s=>?_)
 obtain ⟨rv204,h203,u⟩:=bt u
 obtain ⟨Sv209,d⟩:=A9 (α:=SourceID) d 2 rfl 2 rfl
 refine cR s (b0M h203 d.dom (d.envAt 0 rfl)) (d9 call57 rfl) rfl ?_
 rintro v213 Sv210 w a h211 ⟨p205,k206,c208,rfl,h214,h207⟩ s
 have d:=(d.callN h211 h214).addE (e:=j6 c208 rv204) h207
 refine rz0 2 s rfl fun a s=>?_
 obtain ⟨e435,h588,u⟩:=bt u
 refine x9 (fun a w=>∃ c436 p437 k438 Sv439,Sl 76 [(8,sl p437 k438 e435)] a∧Wd ⟨w0,S0,[]⟩ Sv439 [.row p437 e435.length k438 c436 56 5] [j6 c436 e435] w) ?_ ?_
 ·refine wp_block ?_
  have d:=d.nilRow Affected 56
  refine u7 (fun sv216 a w=>∃ c359 p360 k361 Sv362,Sl 76 [(2,pt b9),(3,pt b10),(8,sl p360 k361 sv216.1),(42,sl p205 k206 rv204),(43,iv (rv204.length:Int)),(44,iv sv216.2)] a∧Wd ⟨w0,S0,[]⟩ Sv362 [.box b9 [sl p2 k3 a1.Channels] 29,.box b10 [sl p6 k7 b5.Channels] 29,.row p360 sv216.1.length k361 c359 56 5,.row p205 rv204.length k206 c208 32 4] [Sq p2 k3 a1.Channels,Sq p6 k7 b5.Channels,j6 c359 sv216.1,j6 c208 rv204] w) (([]:List Affected),0) h588 ⟨[],none,0,Sv210,wj s d [2,3,0,1] [3,4,0,1]⟩ ?_
  clear h588
  repeat clear u
  rintro sv216 a w tv433 ⟨c359,p360,k361,Sv362,s,d⟩ u hd432
  refine sz0 1 s rfl fun a s=>?_
  refine wp_seq (cd s u rfl (fun u=>?_) fun u=>?_)
  ·refine sk (wp_seq (wp_block (sr ?_)))
   obtain ⟨x512,h510,u⟩:=bt u
   obtain ⟨b519,q516,c517,h520,h513,h514,h518,h511⟩:=d.elemRV (α:=SourceID) 3 rfl 3 rfl h510
   have hsv521:=s
   have hwv522:=d
   subst h520
   have s:=hsv521
   have d:=hwv522
   obtain ⟨_,_,_,_,rfl,rfl,rfl,rfl,rfl⟩:=h511
   refine sv s (o8 runUnderlying60 sizeOf32 rfl rfl h513.1 h513.2 h514) rfl fun a s=>?_
   refine sv s (Q0 (j:=0) (d.ownAt 3 rfl) rfl isAgg32 sizeOf32 h518 rfl rfl) rfl fun a s=>?_
   refine wa Z3 s d zeroValue32 fun b523 a w s d=>?_
   refine ws (C32 x512) s d 0 rfl rfl rfl sizeOf32 fun a w s d=>?_
   refine nl (sn 2 [1,0] s d rfl rfl fun a s=>?_)
   obtain ⟨rv525,h524,u⟩:=bt u
   refine cR s (a5p h524 d.dom (d.envAt 0 rfl)) (d9 call58 rfl) rfl ?_
   rintro v533 Sv530 w a h531 ⟨p526,k527,c529,rfl,h534,h528⟩ s
   have d:=(d.callN h531 h534).addE (e:=j6 c529 rv525.1.Epochs) h528
   refine rn0 3 s rfl fun a s=>?_
   refine wa Z2 s d zeroValue73 fun b536 a w s d=>?_
   refine ws (C73 rv525.1 p526 k527) s d 0 rfl rfl rfl sizeOf73 fun a w s d=>?_
   refine rz0 1 s rfl fun a s=>?_
   refine sn 2 [4,2] s d rfl rfl fun a s=>?_
   obtain ⟨rv538,h537,u⟩:=bt u
   refine cR s (a5p h537 d.dom (d.envAt 2 rfl)) (d9 call58 rfl) rfl ?_
   rintro v546 Sv543 w a h544 ⟨p539,k540,c542,rfl,h547,h541⟩ s
   have d:=(d.callN h544 h547).addE (e:=j6 c542 rv538.1.Epochs) h541
   refine rn0 3 s rfl fun a s=>?_
   refine wa Z2 s d zeroValue73 fun b549 a w s d=>?_
   refine ws (C73 rv538.1 p539 k540) s d 0 rfl rfl rfl sizeOf73 fun a w s d=>?_
   refine rz0 1 s rfl fun a s=>?_
   refine sn 4 [2,0] s d rfl rfl fun a s=>?_
   obtain ⟨rv551,h550,u⟩:=bt u
   obtain ⟨Sv556,d⟩:=A9 (α:=Epoch) d 3 rfl 1 rfl
   obtain ⟨Sv557,d⟩:=A9 (α:=Epoch) d 1 rfl 1 rfl
   refine cR s (a8u h550 d.dom (d.envAt 1 rfl) (d.envAt 0 rfl)) (d9 call59 rfl) rfl ?_
   rintro v561 Sv558 w a h559 ⟨p552,k553,c555,rfl,h562,h554⟩ s
   have d:=(d.callN h559 h562).addE (e:=j6 c555 rv551) h554
   refine rz0 1 s rfl fun a s=>?_
   refine sz0 3 s rfl fun a s=>?_
   refine x9 (fun a w=>∃ (out577:(List Affected)) (c573 p574 k575 Sv576:_),a0r sv216 out577=some tv433∧Sl 76 [(2,pt b9),(3,pt b10),(8,sl p574 k575 out577),(42,sl (ad b519) k206 rv204),(43,iv (rv204.length:Int)),(44,iv sv216.2)] a∧Wd ⟨w0,S0,[]⟩ Sv576 [.box b9 [sl p2 k3 a1.Channels] 29,.box b10 [sl p6 k7 b5.Channels] 29,.row p574 out577.length k575 c573 56 5,.row (ad b519) rv204.length k206 c208 32 4] [Sq p2 k3 a1.Channels,Sq p6 k7 b5.Channels,j6 c573 out577,j6 c208 rv204] w) ?_ ?_
   ·refine cd s u rfl (fun u=>?_) fun u=>?_
    ·refine wp_region_lit (rn 3 [3] s d rfl rfl fun a s=>?_)
     refine sv s (z8 (vs:=[(0,V32 x512),(1,sl p552 k553 rv551)]) Bld56 rfl rfl) rfl fun a s=>?_
     obtain ⟨Sv581,d⟩:=A9 (α:=Span) d 0 rfl 0 rfl
     refine y7 (α:=Affected) (vs:=[.agg #[.string x512.Network,.string x512.Station,.string x512.Location,.string x512.Channel,sl p552 k553 rv551]]) (cs:=[.string x512.Network,.string x512.Station,.string x512.Location,.string x512.Channel,sl p552 k553 rv551]) (xs:=([(⟨x512,rv551⟩:Affected)]:List Affected)) s d El48 rfl rfl rfl rfl rfl rfl ⟨⟨_,_,_,_,_,rfl,rfl,rfl,rfl,rfl,⟨_,_,_,rfl,d.envAt 0 rfl⟩⟩,rfl⟩ rfl trivial rfl fun b580 a w s d=>?_
     obtain ⟨l583,h582,u⟩:=bt u
     refine I4 (α:=Affected) s d El48 6 rfl rfl rfl 9 rfl 0 rfl 0 rfl h582 rfl trivial ?_
     intro p584 k585 c586 a w s d
     refine rz0 1 s rfl fun a s=>?_
     exact ⟨l583,c586,p584,k585,Sv581,u,wj s d [4,5,6,7] [8,9,0,11]⟩
    exact sk ⟨sv216.1,c359,p360,k361,Sv558,u,wj s d [4,5,6,7] [5,6,7,8]⟩
   rintro a w ⟨out577,c573,p574,k575,Sv576,u,s,d⟩
   refine l9 (tn (wp_region_lit (rz0 2 s rfl fun a s=>?_)))
   exact ⟨_,io u,c573,p574,k575,Sv576,wj s d [0,1,2,3] [0,1,2,3]⟩
  refine wp_exit (j4 (j4 (o9 ?_)))
  obtain rfl:=oi u
  have h587:=hd432 _ rfl
  subst h587
  exact tn ⟨c359,p360,k361,Sv362,wj s d [2] [2]⟩
 rintro a w ⟨c436,p437,k438,Sv439,s,d⟩
 refine tn (sz0 2 s rfl fun a s=>?_)
 obtain rfl:=oi u
 exact q1 s rfl (d.ret ⟨p437,k438,c436,rfl,(d.outs [0] (by decide) rfl),(d.envAt 0 rfl)⟩)
theorem a7X {w0 S0 p2 k3 p6 k7 a1 b5 r} (u:a4g a1 b5=some r) (hS:Dm S0 w0) (h4:(Sq p2 k3 a1).p S0 w0) (h8:(Sq p6 k7 b5).p S0 w0):Ck Tryz.prog 42 #[sl p2 k3 a1,sl p6 k7 b5] w0 S0 [] l7 r:=by
 refine en 26 func42 rfl hS rfl rfl rfl fun a s d=>?_
 have d:=(d.addE h4).addE h8
 refine sz0 1 s rfl fun a s=>?_
 refine wp_seq (sz0 5 s rfl fun a s=>?_)
 refine cd s u rfl (fun u=>?_) fun u=>?_
 ·refine sz0 1 s rfl fun a s=>?_
  obtain rfl:=oi u
  exact wp_ret (j3 (rt s rfl (d.ret rfl)))
 refine sk (wp_seq (sz0 1 s rfl fun a s=>?_))
 refine wp_block (u7 (fun sv109 a w=>∃ Sv173,Sl 26 [(0,sl p2 k3 a1),(1,sl p6 k7 b5),(5,iv sv109)] a∧Wd ⟨w0,S0,[]⟩ Sv173 [] [Sq p2 k3 a1,Sq p6 k7 b5] w) 0 u ⟨S0,wj s d [] [1,0]⟩ ?_)
 repeat clear u
 rintro sv109 a w tv206 ⟨Sv173,s,d⟩ u hd205
 refine wp_seq (sz0 4 s rfl fun a s=>?_)
 refine cd s u rfl (fun u=>?_) fun u=>?_
 ·refine sk (wp_seq (wp_block (wp_seq ?_)))
  obtain ⟨x241,h239,u⟩:=bt u
  obtain ⟨b247,o248,q245,c246,h249,h242,h243,h244,h240⟩:=d.elemV 0 rfl h239
  have hsv250:=s
  have hwv251:=d
  subst h249
  have s:=hsv250
  have d:=hwv251
  obtain ⟨_,_,rfl,rfl,rfl⟩:=h240
  have d:=d.addE h244
  obtain ⟨x254,h252,u⟩:=bt u
  obtain ⟨b260,o261,q258,c259,h262,h255,h256,h257,h253⟩:=d.elemV 2 rfl h252
  have hsv263:=s
  have hwv264:=d
  subst h262
  have s:=hsv263
  have d:=hwv264
  obtain ⟨_,_,rfl,rfl,rfl⟩:=h253
  have d:=d.addE h257
  refine y9 (fun a w=>∃ Sv265,Sl 26 [(0,sl (some ⟨b247,o248,none⟩) k3 a1),(1,sl (some ⟨b260,o261,none⟩) k7 b5),(5,iv sv109),(25,.bool (!((x241.From == x254.From) && ((x241.To == x254.To) && true))))] a∧Wd ⟨w0,S0,[]⟩ Sv265 [] [Sq (some ⟨b247,o248,none⟩) k3 a1,Sq (some ⟨b260,o261,none⟩) k7 b5] w) ?_ ?_
  ·refine h_c [] [0,1] d rfl rfl (by kernel_rfl) rfl fun hC d=>?_
   refine gn 2 [0,1] [] s hC rfl rfl rfl fun a s=>?_
   refine gx s 2 rfl trivial rfl hC runUnderlying50 sizeOf52 rfl rfl h242 h243 fun a s=>?_
   refine gv s 3 rfl rfl hC (fun w hC=>D9 (j:=0) (hC.ceAt 1 rfl) rfl isAgg52 sizeOf52 rfl rfl) fun a s=>?_
   refine gn 2 [4,5] [] s hC rfl rfl rfl fun a s=>?_
   refine gx s 6 rfl trivial rfl hC runUnderlying50 sizeOf52 rfl rfl h255 h256 fun a s=>?_
   refine gv s 7 rfl rfl hC (fun w hC=>D9 (j:=0) (hC.ceAt 0 rfl) rfl isAgg52 sizeOf52 rfl rfl) fun a s=>?_
   refine gv s 8 rfl rfl hC (fun w hC=>a7v (by kernel_rfl) rfl rfl (P6 runUnderlying52 (by kernel_rfl) (EqF.cons1 rfl isAgg3 rfl rfl (F4 runUnderlying3) (EqF.cons1 rfl isAgg3 rfl rfl (F4 runUnderlying3) EqF.nil)))) fun a s=>?_
   refine x8 (by kernel_rfl) ?_
   exact ⟨Sv173,wj s d [] [2,3]⟩
  rintro a w ⟨Sv265,s,d⟩
  refine tn (cd s u rfl (fun u=>?_) fun u=>?_)
  ·refine sz0 1 s rfl fun a s=>?_
   obtain rfl:=oi u
   have h268:=hd205 _ rfl
   subst h268
   exact wp_ret (r9 (j3 (j3 (r9 (j3 (rt s rfl (d.ret rfl)))))))
  refine wp_skip (l9 (tn (wp_region_lit (rn0 2 s rfl fun a s=>?_))))
  obtain ⟨i270,h269,u⟩:=bt u
  refine sv s (q8 rfl h269) rfl fun a s=>?_
  exact nl ⟨_,io u,Sv265,wj s d [] [0,1]⟩
 obtain ⟨rv271,u,h272⟩:=Y7 u
 have h272:=(hd205 _ h272.symm).symm
 subst h272
 refine wp_exit (j4 (j4 (o9 (tn (sz0 1 s rfl fun a s=>?_)))))
 obtain rfl:=oi u
 exact q1 s rfl (d.ret rfl)
theorem a7W {w0 S0 r} (u:a4Y=some r) (hS:Dm S0 w0):Ck Tryz.prog 10 #[] w0 S0 [] l7 r:=by
 refine en 59 func10 rfl hS rfl rfl rfl fun a s d=>?_
 refine sz0 1 s rfl fun a s=>?_
 refine sr (sv s (z8 (vs:=[(0,.string (⟨#[65]⟩:ByteArray)),(1,.string (⟨#[66]⟩:ByteArray)),(3,.string (⟨#[72,72,90]⟩:ByteArray))]) Bld32 rfl rfl) rfl fun a s=>?_)
 refine wa Z3 s d zeroValue32 fun b1 a w s d=>?_
 refine ws Z4 s d 0 rfl rfl rfl sizeOf32 fun a w s d=>?_
 refine nl (sr (sv s (z8 (vs:=[(0,iv 100),(1,iv 1)]) Bld34 rfl rfl) rfl fun a s=>?_))
 refine sv s (z8 (vs:=[(0,iv 10),(1,iv 20),(2,.agg #[iv 100,iv 1])]) Bld41 rfl rfl) rfl fun a s=>?_
 refine wa Z1 s d zeroValue41 fun b2 a w s d=>?_
 refine ws Z5 s d 0 rfl rfl rfl sizeOf41 fun a w s d=>?_
 refine nl (sr (sv s (z8 (vs:=[]) a4V rfl rfl) rfl fun a s=>?_))
 refine rn 2 [1,0] s d rfl rfl fun a s=>?_
 refine sv s (z8 (vs:=[(1,.agg Z4.toArray),(2,iv 10),(3,.agg Z5.toArray)]) Bld43 rfl rfl) rfl fun a s=>?_
 obtain ⟨rv4,h3,u⟩:=bt u
 have d:=(d.addE (e:=SlA (α:=Channel) none 0 0 []) M8).addE (e:=SlA (α:=Stage) none 0 0 []) M8
 refine cR s (a3L h3 d.dom (d.envAt 1 rfl) (d.envAt 0 rfl)) (d9 call14 rfl) rfl ?_
 rintro v12 Sv9 w a h10 ⟨p5,k6,c8,rfl,h13,h7⟩ s
 have d:=(d.callN h10 h13).addE (e:=j6 c8 rv4.1.Channels) h7
 refine rn0 3 s rfl fun a s=>?_
 refine wa [.slice none ([]:List Channel).length 0] s d zeroValue29 fun b15 a w s d=>?_
 refine ws [sl p5 k6 rv4.1.Channels] s d 0 rfl rfl rfl sizeOf29 fun a w s d=>?_
 refine rz0 1 s rfl fun a s=>?_
 refine sn0 1 s rfl fun a s=>?_
 refine ws Z6 s d 2 rfl rfl rfl sizeOf3 fun a w s d=>?_
 refine nl (sn 3 [0,3,2] s d rfl rfl fun a s=>?_)
 refine sv s (z8 (vs:=[(0,iv 2),(1,.agg Z4.toArray),(2,iv 10),(3,.agg Z6.toArray)]) Bld43 rfl rfl) rfl fun a s=>?_
 obtain ⟨rv17,h16,u⟩:=bt u
 obtain ⟨Sv22,d⟩:=A9 (α:=Channel) d 1 rfl 0 rfl
 refine cR s (a3L h16 d.dom (d.envAt 0 rfl) (d.envAt 2 rfl)) (d9 call14 rfl) rfl ?_
 rintro v26 Sv23 w a h24 ⟨p18,k19,c21,rfl,h27,h20⟩ s
 have d:=(d.callN h24 h27).addE (e:=j6 c21 rv17.1.Channels) h20
 refine rn0 3 s rfl fun a s=>?_
 refine wa [.slice none ([]:List Channel).length 0] s d zeroValue29 fun b29 a w s d=>?_
 refine ws [sl p18 k19 rv17.1.Channels] s d 0 rfl rfl rfl sizeOf29 fun a w s d=>?_
 refine rz0 1 s rfl fun a s=>?_
 refine sn 2 [2,0] s d rfl rfl fun a s=>?_
 obtain ⟨rv31,h30,u⟩:=bt u
 obtain ⟨Sv36,d⟩:=A9 (α:=Channel) d 1 rfl 0 rfl
 refine cR s (a4E h30 d.dom (d.envAt 2 rfl) (d.envAt 0 rfl)) (d9 call15 rfl) rfl ?_
 rintro v40 Sv37 w a h38 ⟨p32,k33,c35,rfl,h41,h34⟩ s
 have d:=(d.callN h38 h41).addE (e:=j6 c35 rv31) h34
 refine rz0 1 s rfl fun a s=>?_
 refine wp_seq ?_
 obtain ⟨c60,hc60,u⟩:=bt u
 obtain ⟨c82,hc82,u⟩:=bt u
 refine y9 (fun a w=>∃ Sv83,Sl 59 [(0,.bool c82)] a∧Wd ⟨w0,S0,[]⟩ Sv83 [] [] w) ?_ ?_
 ·rcases Bool.eq_false_or_eq_true (((rv4.2 == 0) && (rv17.2 == 0)) && ((rv31.length:Int) == 1)) with h84 | h84
  ·have h85:=D5 hc60 h84
   obtain ⟨x88,h86,h85⟩:=O6 h85
   obtain ⟨b95,q92,c93,h96,h89,h90,h94,h87⟩:=d.elemRV (α:=Affected) 0 rfl 0 rfl h86
   have hsv97:=s
   have hwv98:=d
   subst h96
   have s:=hsv97
   have d:=hwv98
   obtain ⟨_,_,_,_,_,rfl,rfl,rfl,rfl,rfl,⟨p99,n100,k101,rfl,h102⟩⟩:=h87
   obtain rfl:=h102.1
   have d:=d.addE (e:=SlA p99 _ k101 x88.Spans) h102
   rcases Bool.eq_false_or_eq_true c60 with h103 | h103
   ·have h104:=D5 hc82 h103
    obtain ⟨x107,h105,h104⟩:=O6 h104
    obtain ⟨q111,c112,h108,h109,h113,h106⟩:=d.elemRK (α:=Affected) 0 rfl 1 rfl h105
    obtain ⟨_,_,_,_,_,rfl,rfl,rfl,rfl,rfl,⟨p114,n115,k116,rfl,h117⟩⟩:=h106
    obtain rfl:=h117.1
    have d:=d.addE (e:=SlA p114 _ k116 x107.Spans) h117
    obtain ⟨rv121,h120,h104⟩:=O6 h104
    refine h_c [0,1,2,3,4] [] d rfl rfl (by kernel_rfl) rfl fun hC d=>?_
    refine gn 3 [0,1,2] [] s hC rfl rfl rfl fun a s=>?_
    refine gA 3 33 [3,4,5] [] s hC rfl rfl rfl rfl rfl rfl fun a s=>?_
    refine gm s 6 rfl rfl rfl hC fun a s=>?_
    refine gA 4 37 [7,8,9,10] [] s hC rfl rfl rfl rfl rfl rfl fun a s=>?_
    refine gm s 11 rfl rfl rfl hC fun a s=>?_
    have s:=s.bT 42 rfl h84
    refine gt s 12 rfl ⟨_,rfl,rfl⟩ rfl hC (fun w hC=>X3 rfl) fun a s=>?_
    refine gx s 13 rfl ⟨_,rfl,rfl⟩ rfl hC runUnderlying48 sizeOf56 rfl rfl h89 h90 fun a s=>?_
    refine gt s 14 rfl ⟨_,rfl,rfl⟩ rfl hC (fun w hC=>j5 (o':=q92+0) runUnderlying56 rfl sizeOf32 rfl rfl rfl) fun a s=>?_
    refine gt s 15 rfl ⟨_,rfl,rfl⟩ rfl hC (fun w hC=>Q0 (j:=0) (hC.ownAt 0 rfl) rfl isAgg32 sizeOf32 h94 rfl rfl) fun a s=>?_
    refine gt s 16 rfl ⟨_,rfl,rfl⟩ rfl hC (fun w hC=>a1a (hC.ownAt 4 rfl) rfl isAgg32 sizeOf32 rfl rfl) fun a s=>?_
    refine gt s 17 rfl ⟨_,rfl,rfl⟩ rfl hC (fun w hC=>a1Q (by kernel_rfl) rfl rfl (P6 runUnderlying32 (by kernel_rfl) (EqF.cons1 rfl isAgg9 rfl rfl (J3 runUnderlying9) (EqF.cons1 rfl isAgg9 rfl rfl (J3 runUnderlying9) (EqF.cons1 rfl isAgg9 rfl rfl (J3 runUnderlying9) (EqF.cons1 rfl isAgg9 rfl rfl (J3 runUnderlying9) EqF.nil)))))) fun a s=>?_
    refine gT s 18 rfl rfl hC rfl rfl h85 fun a s=>?_
    refine gm s 19 rfl rfl rfl hC fun a s=>?_
    have s:=s.bT 50 rfl h103
    refine gt s 20 rfl ⟨_,rfl,rfl⟩ rfl hC (fun w hC=>X3 rfl) fun a s=>?_
    refine gx s 21 rfl ⟨_,rfl,rfl⟩ rfl hC runUnderlying48 sizeOf56 rfl rfl h108 h109 fun a s=>?_
    refine gt s 22 rfl ⟨_,rfl,rfl⟩ rfl hC (fun w hC=>j5 (o':=q111+4) runUnderlying56 rfl sizeOf50 rfl rfl rfl) fun a s=>?_
    refine gt s 23 rfl ⟨_,rfl,rfl⟩ rfl hC (fun w hC=>K5 (j:=4) (hC.ownAt 0 rfl) rfl isAgg50 h113 rfl) fun a s=>?_
    refine gt s 24 rfl ⟨_,rfl,rfl⟩ rfl hC (fun w hC=>z8 (vs:=[(0,iv 20),(1,iv 25)]) b0g rfl rfl) fun a s=>?_
    refine ho 25 rfl ?_
    refine y7 (α:=Span) (vs:=[.agg #[iv 20,iv 25]]) (cs:=[iv 20,iv 25]) (xs:=([(⟨20,25⟩:Span)]:List Span)) s d a4R rfl rfl rfl rfl rfl rfl ⟨⟨_,_,rfl,rfl,rfl⟩,rfl⟩ rfl ⟨_,rfl,rfl⟩ rfl fun b119 a w s d=>?_
    refine h_n [1,2,3,4,5] [] d rfl rfl fun hC=>?_
    refine h_d [1,2,3,4,5,0] [] [0,1,2,3,4] [] d rfl rfl rfl rfl fun hC=>?_
    refine ho 26 rfl ?_
    refine q9 s (a7X h120 d.bdom (d.bE 1 rfl) (d.bRow 0 rfl 0 rfl)) (d9 call42 rfl) ⟨_,rfl,rfl⟩ rfl rfl ?_
    rintro v125 Sv122 w a h123 rfl s
    have d:=d.callB h123
    refine h_n [1,2,3,4,5,0] [] d rfl rfl fun hC=>?_
    refine gT s 27 rfl rfl hC rfl rfl h104 fun a s=>?_
    refine gv s 28 rfl rfl hC (fun w hC=>M7 rfl) fun a s=>?_
    refine x8 (by kernel_rfl) ?_
    exact ⟨Sv37,wj s d [] []⟩
   have h128:=D6 hc82 h103
   refine h_c [0,1,2,3,4] [] d rfl rfl (by kernel_rfl) rfl fun hC d=>?_
   refine gn 3 [0,1,2] [] s hC rfl rfl rfl fun a s=>?_
   refine gA 3 33 [3,4,5] [] s hC rfl rfl rfl rfl rfl rfl fun a s=>?_
   refine gm s 6 rfl rfl rfl hC fun a s=>?_
   refine gA 4 37 [7,8,9,10] [] s hC rfl rfl rfl rfl rfl rfl fun a s=>?_
   refine gm s 11 rfl rfl rfl hC fun a s=>?_
   have s:=s.bT 42 rfl h84
   refine gt s 12 rfl ⟨_,rfl,rfl⟩ rfl hC (fun w hC=>X3 rfl) fun a s=>?_
   refine gx s 13 rfl ⟨_,rfl,rfl⟩ rfl hC runUnderlying48 sizeOf56 rfl rfl h89 h90 fun a s=>?_
   refine gt s 14 rfl ⟨_,rfl,rfl⟩ rfl hC (fun w hC=>j5 (o':=q92+0) runUnderlying56 rfl sizeOf32 rfl rfl rfl) fun a s=>?_
   refine gt s 15 rfl ⟨_,rfl,rfl⟩ rfl hC (fun w hC=>Q0 (j:=0) (hC.ownAt 0 rfl) rfl isAgg32 sizeOf32 h94 rfl rfl) fun a s=>?_
   refine gt s 16 rfl ⟨_,rfl,rfl⟩ rfl hC (fun w hC=>a1a (hC.ownAt 4 rfl) rfl isAgg32 sizeOf32 rfl rfl) fun a s=>?_
   refine gt s 17 rfl ⟨_,rfl,rfl⟩ rfl hC (fun w hC=>a1Q (by kernel_rfl) rfl rfl (P6 runUnderlying32 (by kernel_rfl) (EqF.cons1 rfl isAgg9 rfl rfl (J3 runUnderlying9) (EqF.cons1 rfl isAgg9 rfl rfl (J3 runUnderlying9) (EqF.cons1 rfl isAgg9 rfl rfl (J3 runUnderlying9) (EqF.cons1 rfl isAgg9 rfl rfl (J3 runUnderlying9) EqF.nil)))))) fun a s=>?_
   refine gT s 18 rfl rfl hC rfl rfl h85 fun a s=>?_
   refine gm s 19 rfl rfl rfl hC fun a s=>?_
   have s:=s.bF 50 rfl h103
   refine gn 7 [20,21,22,23,24,25,26] [] s hC rfl rfl rfl fun a s=>?_
   refine gF s 27 rfl rfl hC rfl rfl h128 fun a s=>?_
   refine gv s 28 rfl rfl hC (fun w hC=>M7 rfl) fun a s=>?_
   refine x8 (by kernel_rfl) ?_
   exact ⟨Sv37,wj s d [] []⟩
  have h129:=D6 hc60 h84
  have h130:c60=false:=(Option.some.inj h129).symm
  have h131:=D6 hc82 h130
  refine h_c [0,1,2,3,4] [] d rfl rfl (by kernel_rfl) rfl fun hC d=>?_
  refine gn 3 [0,1,2] [] s hC rfl rfl rfl fun a s=>?_
  refine gA 3 33 [3,4,5] [] s hC rfl rfl rfl rfl rfl rfl fun a s=>?_
  refine gm s 6 rfl rfl rfl hC fun a s=>?_
  refine gA 4 37 [7,8,9,10] [] s hC rfl rfl rfl rfl rfl rfl fun a s=>?_
  refine gm s 11 rfl rfl rfl hC fun a s=>?_
  have s:=s.bF 42 rfl h84
  refine gn 6 [12,13,14,15,16,17] [] s hC rfl rfl rfl fun a s=>?_
  refine gF s 18 rfl rfl hC rfl rfl h129 fun a s=>?_
  refine gm s 19 rfl rfl rfl hC fun a s=>?_
  have s:=s.bF 50 rfl h130
  refine gn 7 [20,21,22,23,24,25,26] [] s hC rfl rfl rfl fun a s=>?_
  refine gF s 27 rfl rfl hC rfl rfl h131 fun a s=>?_
  refine gv s 28 rfl rfl hC (fun w hC=>M7 rfl) fun a s=>?_
  refine x8 (by kernel_rfl) ?_
  exact ⟨Sv37,wj s d [] []⟩
 rintro a w ⟨Sv83,s,d⟩
 refine tn ?_
 obtain rfl:=oi u
 exact q1 s rfl (d.ret rfl)
abbrev b2a (w0:World) (X:List Nat) (r:Dice):Rd:=fun S w v=>∃ b_0 p0_0 k0_0,v=pt b_0∧Outs X w0 S w [.box b_0 (C94 r p0_0 k0_0) 94]∧(Sq p0_0 k0_0 r.L).p S w
theorem b1Z {w0 S0 p2 k3 l1 r} (u:a9r l1=some r) (hS:Dm S0 w0) (h4:(Sq p2 k3 l1).p S0 w0):Ck Tryz.prog 11 #[sl p2 k3 l1] w0 S0 [] b2a r:=by
 refine en 6 func11 rfl hS rfl rfl rfl fun a s d=>?_
 have d:=d.addE h4
 refine sz0 1 s rfl fun a s=>?_
 refine sn0 1 s rfl fun a s=>?_
 refine sv s (z8 (vs:=[(0,sl p2 k3 l1)]) Bld94 rfl rfl) rfl fun a s=>?_
 refine wb [sl p2 k3 l1,iv 0] s d rfl fun b5 a w s d=>?_
 refine rz0 1 s rfl fun a s=>?_
 obtain rfl:=oi u
 exact q1 s rfl (d.ret ⟨b5,p2,k3,rfl,(d.outs [0] (by decide) rfl),(d.envAt 0 rfl)⟩)
abbrev a8K (w0:World) (X:List Nat) (b2:Nat) (r:(Int × Dice)):(Nat→Prop)→World→Value→Prop:=fun S w v=>∃ pq0_0 kq0_0,v=iv r.1∧Outs X w0 S w [.box b2 (C94 r.2 pq0_0 kq0_0) 94]∧(Sq pq0_0 kq0_0 r.2.L).p S w
theorem o6 {w0 S0 b2 p3 k4 d1 n6 r} (u:u6 d1 n6=some r) (hS:Dm S0 w0) (hin:Ins S0 w0 [.box b2 (C94 d1 p3 k4) 94]) (h5:(Sq p3 k4 d1.L).p S0 w0):Calls Tryz.prog 23 #[pt b2,iv n6] w0 (Ret (H8 [.box b2 (C94 d1 p3 k4) 94]) w0 S0 (a8K w0 (H8 [.box b2 (C94 d1 p3 k4) 94]) b2 r)):=by
 refine enI 45 func23 rfl hS hin rfl rfl rfl fun a s d=>?_
 have d:=d.addE h5
 refine sz0 1 s rfl fun a s=>?_
 refine wp_seq (wp_seq (y9 (fun a w=>∃ Sv7,Sl 45 [(0,pt b2),(1,iv n6),(19,.bool ((decide ((d1.L.length:Int)≤d1.At)) || (decide (n6<1))))] a∧Wd ⟨w0,S0,H8 [.box b2 (C94 d1 p3 k4) 94]⟩ Sv7 [.box b2 (C94 d1 p3 k4) 94] [Sq p3 k4 d1.L] w) ?_ ?_))
 ·refine h_c [0] [] d rfl rfl (by kernel_rfl) rfl fun hC d=>?_
  refine gn 11 [0,1,2,3,4,5,6,7,8,9,10] [0,0] s hC rfl rfl rfl fun a s=>?_
  refine gO 3 16 [11,12,13] [] s hC rfl rfl rfl rfl rfl rfl fun a s=>?_
  refine x8 (by kernel_rfl) ?_
  exact ⟨S0,wj s d [0] [0]⟩
 rintro a w ⟨Sv7,s,d⟩
 refine tn (cd s u rfl (fun u=>?_) fun u=>?_)
 ·refine sz0 1 s rfl fun a s=>?_
  obtain rfl:=oi u
  exact wp_ret (j3 (rt s rfl (d.ret ⟨p3,k4,rfl,(d.outs [0] (by decide) rfl),(d.envAt 0 rfl)⟩)))
 refine sk (wp_seq ?_)
 obtain ⟨x12,h10,u⟩:=bt u
 obtain ⟨b18,o19,q16,c17,h20,h13,h14,h15,h11⟩:=d.elemV 0 rfl h10
 have hsv21:=s
 have hwv22:=d
 subst h20
 have s:=hsv21
 have d:=hwv22
 obtain ⟨_,rfl,rfl⟩:=h11
 have d:=d.addE h15
 obtain ⟨rem24,h23,u⟩:=bt u
 refine y9 (fun a w=>∃ Sv25,Sl 45 [(0,pt b2),(1,iv n6),(5,iv rem24)] a∧Wd ⟨w0,S0,H8 [.box b2 (C94 d1 (some ⟨b18,o19,none⟩) k4) 94]⟩ Sv25 [.box b2 (C94 d1 (some ⟨b18,o19,none⟩) k4) 94] [Sq (some ⟨b18,o19,none⟩) k4 d1.L] w) ?_ ?_
 ·refine h_c [0] [0] d rfl rfl (by kernel_rfl) rfl fun hC d=>?_
  refine gn 8 [0,1,2,3,4,5,6,7] [0,0] s hC rfl rfl rfl fun a s=>?_
  refine gx s 8 rfl trivial rfl hC runUnderlying22 sizeOf3 rfl rfl h13 h14 fun a s=>?_
  refine gv s 9 rfl rfl hC (fun w hC=>F5 (j:=0) (hC.ceAt 0 rfl) rfl isAgg3 rfl) fun a s=>?_
  refine gm s 10 rfl rfl rfl hC fun a s=>?_
  refine gv s 11 rfl rfl hC (fun w hC=>b3S rfl rfl h23) fun a s=>?_
  refine gv s 12 rfl rfl hC (fun w hC=>M7 rfl) fun a s=>?_
  refine x8 (by kernel_rfl) ?_
  exact ⟨Sv7,wj s d [0] [1]⟩
 rintro a w ⟨Sv25,s,d⟩
 refine tn (sn 7 [0] s d rfl rfl fun a s=>?_)
 refine ws [sl (some ⟨b18,o19,none⟩) k4 d1.L,iv (w64 (d1.At+1))] s d 0 rfl rfl rfl sizeOf3 fun a w s d=>?_
 refine nl (wp_seq (sz0 2 s rfl fun a s=>?_))
 refine x9 (fun a w=>∃ (x30:Int) (Sv29:_),a1S d1 x30=some r∧Sl 45 [(5,iv x30)] a∧Wd ⟨w0,S0,H8 [.box b2 (C94 d1 (some ⟨b18,o19,none⟩) k4) 94]⟩ Sv29 [.box b2 [sl (some ⟨b18,o19,none⟩) k4 d1.L,iv (w64 (d1.At+1))] 94] [Sq (some ⟨b18,o19,none⟩) k4 d1.L] w) ?_ ?_
 ·refine cd s u rfl (fun u=>?_) fun u=>?_
  ·refine wp_region_lit (rn0 3 s rfl fun a s=>?_)
   obtain ⟨x33,h32,u⟩:=bt u
   refine sv s (q8 rfl h32) rfl fun a s=>?_
   exact nl ⟨x33,Sv25,u,wj s d [0] [0]⟩
  exact sk ⟨rem24,Sv25,u,wj s d [0] [0]⟩
 rintro a w ⟨x30,Sv29,u,s,d⟩
 refine tn (sz0 2 s rfl fun a s=>?_)
 obtain rfl:=oi u
 exact q1 s rfl (d.ret ⟨(some ⟨b18,o19,none⟩),k4,rfl,(d.outs [0] (by decide) rfl),(d.envAt 0 rfl)⟩)
abbrev a8L (w0:World) (X:List Nat) (b2:Nat) (r:(Int × Dice)):(Nat→Prop)→World→Value→Prop:=fun S w v=>∃ pq0_0 kq0_0,v=iv r.1∧Outs X w0 S w [.box b2 (C94 r.2 pq0_0 kq0_0) 94]∧(Sq pq0_0 kq0_0 r.2.L).p S w
theorem J6 {w0 S0 b2 p3 k4 p7 k8 d1 l6 r} (u:L9 d1 l6=some r) (hS:Dm S0 w0) (hin:Ins S0 w0 [.box b2 (C94 d1 p3 k4) 94]) (h5:(Sq p3 k4 d1.L).p S0 w0) (h9:(Sq p7 k8 l6).p S0 w0):Calls Tryz.prog 43 #[pt b2,sl p7 k8 l6] w0 (Ret (H8 [.box b2 (C94 d1 p3 k4) 94]) w0 S0 (a8L w0 (H8 [.box b2 (C94 d1 p3 k4) 94]) b2 r)):=by
 refine enI 12 func43 rfl hS hin rfl rfl rfl fun a s d=>?_
 have d:=(d.addE h5).addE h9
 refine sz0 1 s rfl fun a s=>?_
 refine sn0 4 s rfl fun a s=>?_
 obtain ⟨rv11,h10,u⟩:=bt u
 refine cR s (o6 h10 d.dom (d.ins [0] (by decide) rfl) (d.envAt 1 rfl)) (d9 call23 rfl) rfl ?_
 rintro v18 Sv15 w a h16 ⟨p12,k13,rfl,h19,h14⟩ s
 have d:=(d.callO [0] [] (by decide) rfl h16 h19).addE (e:=Sq p12 k13 rv11.2.L) h14
 obtain ⟨x23,h21,u⟩:=bt u
 obtain ⟨b29,o30,q27,c28,h31,h24,h25,h26,h22⟩:=d.elemV 1 rfl h21
 have hsv32:=s
 have hwv33:=d
 subst h31
 have s:=hsv32
 have d:=hwv33
 obtain ⟨_,rfl,rfl⟩:=h22
 have d:=d.addE h26
 refine sv s (o8 runUnderlying22 sizeOf3 rfl rfl h24.1 h24.2 h25) rfl fun a s=>?_
 refine sv s (F5 (j:=0) (d.ceAt 0 rfl) rfl isAgg3 rfl) rfl fun a s=>?_
 refine rz0 1 s rfl fun a s=>?_
 obtain rfl:=oi u
 exact q1 s rfl (d.ret ⟨p12,k13,rfl,(d.outs [0] (by decide) rfl),(d.envAt 1 rfl)⟩)
abbrev a7N (w0:World) (X:List Nat) (b2:Nat) (r:(SourceID × Dice)):(Nat→Prop)→World→Value→Prop:=fun S w v=>∃ pq0_0 kq0_0,v=V32 r.1∧Outs X w0 S w [.box b2 (C94 r.2 pq0_0 kq0_0) 94]∧(Sq pq0_0 kq0_0 r.2.L).p S w
abbrev D25t1 (b2:Nat) (b6:Nat):C8:=[(0,pt b2),(2,pt b6)]
abbrev D25t2 (b2:Nat) (b24:Nat) (b40:Nat) (b56:Nat) (b8:Nat) (rv10:(Int × Dice)) (rv26:(Int × Dice)) (rv42:(Int × Dice)) (rv58:(Int × Dice)) (x16:ByteArray) (x32:ByteArray) (x48:ByteArray) (x64:ByteArray):Vs:=[(0,3,sl (ad b8) ([(⟨#[71,82]⟩:ByteArray),(⟨#[88]⟩:ByteArray),(⟨#[55,65]⟩:ByteArray)]:List ByteArray).length ([(⟨#[71,82]⟩:ByteArray),(⟨#[88]⟩:ByteArray),(⟨#[55,65]⟩:ByteArray)]:List ByteArray)),(1,4,pt b2),(2,5,iv rv10.1),(3,6,.pointer (some ⟨b8,(0+(rv10.1).toNat * 1),none⟩)),(4,7,.string x16),(5,8,sl (ad b24) ([(⟨#[70,85,82]⟩:ByteArray),(⟨#[65]⟩:ByteArray),(⟨#[65,66,67,68,69]⟩:ByteArray),(⟨#[70,85]⟩:ByteArray)]:List ByteArray).length ([(⟨#[70,85,82]⟩:ByteArray),(⟨#[65]⟩:ByteArray),(⟨#[65,66,67,68,69]⟩:ByteArray),(⟨#[70,85]⟩:ByteArray)]:List ByteArray)),(6,9,pt b2),(7,10,iv rv26.1),(8,11,.pointer (some ⟨b24,(0+(rv26.1).toNat * 1),none⟩)),(9,12,.string x32),(10,13,sl (ad b40) ([(⟨#[]⟩:ByteArray),(⟨#[48,48]⟩:ByteArray),(⟨#[49,48]⟩:ByteArray)]:List ByteArray).length ([(⟨#[]⟩:ByteArray),(⟨#[48,48]⟩:ByteArray),(⟨#[49,48]⟩:ByteArray)]:List ByteArray)),(11,14,pt b2),(12,15,iv rv42.1),(13,16,.pointer (some ⟨b40,(0+(rv42.1).toNat * 1),none⟩)),(14,17,.string x48),(15,18,sl (ad b56) ([(⟨#[72,72,90]⟩:ByteArray),(⟨#[72,72,78]⟩:ByteArray),(⟨#[66,72,90]⟩:ByteArray)]:List ByteArray).length ([(⟨#[72,72,90]⟩:ByteArray),(⟨#[72,72,78]⟩:ByteArray),(⟨#[66,72,90]⟩:ByteArray)]:List ByteArray)),(16,19,pt b2),(17,20,iv rv58.1),(18,21,.pointer (some ⟨b56,(0+(rv58.1).toNat * 1),none⟩)),(19,22,.string x64),(20,23,.agg #[.string x16,.string x32,.string x48,.string x64])]
abbrev D25t3:List Value:=Z7
abbrev D25t4:List ByteArray:=([(⟨#[71,82]⟩:ByteArray),(⟨#[88]⟩:ByteArray),(⟨#[55,65]⟩:ByteArray)]:List ByteArray)
abbrev D25t5:List Value:=Z8
abbrev D25t6:List ByteArray:=([(⟨#[70,85,82]⟩:ByteArray),(⟨#[65]⟩:ByteArray),(⟨#[65,66,67,68,69]⟩:ByteArray),(⟨#[70,85]⟩:ByteArray)]:List ByteArray)
abbrev D25t7:List Value:=Z9
abbrev D25t8:List ByteArray:=([(⟨#[]⟩:ByteArray),(⟨#[48,48]⟩:ByteArray),(⟨#[49,48]⟩:ByteArray)]:List ByteArray)
abbrev D25t9:List Value:=Z10
abbrev D25t10:List ByteArray:=([(⟨#[72,72,90]⟩:ByteArray),(⟨#[72,72,78]⟩:ByteArray),(⟨#[66,72,90]⟩:ByteArray)]:List ByteArray)
abbrev a9J:List ByteArray:=([(⟨#[]⟩:ByteArray),(⟨#[48,48]⟩:ByteArray),(⟨#[49,48]⟩:ByteArray)]:List ByteArray)
abbrev a9I:List ByteArray:=([(⟨#[71,82]⟩:ByteArray),(⟨#[88]⟩:ByteArray),(⟨#[55,65]⟩:ByteArray)]:List ByteArray)
abbrev a9H:List ByteArray:=([(⟨#[72,72,90]⟩:ByteArray),(⟨#[72,72,78]⟩:ByteArray),(⟨#[66,72,90]⟩:ByteArray)]:List ByteArray)
abbrev a9G:List ByteArray:=([(⟨#[70,85,82]⟩:ByteArray),(⟨#[65]⟩:ByteArray),(⟨#[65,66,67,68,69]⟩:ByteArray),(⟨#[70,85]⟩:ByteArray)]:List ByteArray)
theorem a7M {w0 S0 b2 p3 k4 d1 r} (u:a2p d1=some r) (hS:Dm S0 w0) (hin:Ins S0 w0 [.box b2 (C94 d1 p3 k4) 94]) (h5:(Sq p3 k4 d1.L).p S0 w0):Calls Tryz.prog 25 #[pt b2] w0 (Ret (H8 [.box b2 (C94 d1 p3 k4) 94]) w0 S0 (a7N w0 (H8 [.box b2 (C94 d1 p3 k4) 94]) b2 r)):=by
 refine enI 24 func25 rfl hS hin rfl rfl rfl fun a s d=>?_
 have d:=d.addE h5
 refine sr (wa Z3 s d zeroValue32 fun b6 a w s d=>?_)
 refine nl (wp_seq ?_)
 obtain ⟨rv10,h9,u⟩:=bt u
 obtain ⟨x16,h14,u⟩:=bt u
 obtain ⟨rv26,h25,u⟩:=bt u
 obtain ⟨x32,h30,u⟩:=bt u
 obtain ⟨rv42,h41,u⟩:=bt u
 obtain ⟨x48,h46,u⟩:=bt u
 obtain ⟨rv58,h57,u⟩:=bt u
 obtain ⟨x64,h62,u⟩:=bt u
 refine y9 (fun a w=>∃ Sv71 k60 p59,Sl 24 [(2,pt b6)] a∧Wd ⟨w0,S0,H8 [.box b2 (C94 d1 p3 k4) 94]⟩ Sv71 [.box b2 (C94 rv58.2 p59 k60) 94,.box b6 [.string x16,.string x32,.string x48,.string x64] 32] [Sq p59 k60 rv58.2.L] w) ?_ ?_
 ·refine a7Z (n:=22) (Φ:=fun l a w=>∃ b24 b40 b56 b8 k12 k28 k44 k60 p11 p27 p43 p59 S,SlF 24 (D25t1 b2 b6) (D25t2 b2 b24 b40 b56 b8 rv10 rv26 rv42 rv58 x16 x32 x48 x64) l a∧Wd ⟨w0,S0,H8 [.box b2 (C94 d1 p3 k4) 94]⟩ S [((bif l 21 then .box b6 [.string x16,.string x32,.string x48,.string x64] 32 else .box b6 Z3 32):Res),((bif l 17 then .box b2 (C94 rv58.2 p59 k60) 94 else (bif l 12 then .box b2 (C94 rv42.2 p43 k44) 94 else (bif l 7 then .box b2 (C94 rv26.2 p27 k28) 94 else (bif l 2 then .box b2 (C94 rv10.2 p11 k12) 94 else .box b2 (C94 d1 p3 k4) 94)))):Res),((bif l 0 then .row (ad b8) a9I.length a9I.length Z7 9 1 else emp):Res),((bif l 5 then .row (ad b24) a9G.length a9G.length Z8 9 1 else emp):Res),((bif l 10 then .row (ad b40) a9J.length a9J.length Z9 9 1 else emp):Res),((bif l 15 then .row (ad b56) a9H.length a9H.length Z10 9 1 else emp):Res)] [Sq p3 k4 d1.L,a5A (l 0) (j6 Z7 a9I),a5A (l 2) (Sq p11 k12 rv10.2.L),a5A (l 5) (j6 Z8 a9G),a5A (l 7) (Sq p27 k28 rv26.2.L),a5A (l 10) (j6 Z9 a9J),a5A (l 12) (Sq p43 k44 rv42.2.L),a5A (l 15) (j6 Z10 a9H),a5A (l 17) (Sq p59 k60 rv58.2.L)] w) [1,1,2,3,4,1,1,3,4,5,1,1,4,5,6,1,1,5,6,7,8,9] (by kernel_rfl) rfl (by kernel_rfl) ?_ (Y1.succ (Y1.succ (Y1.succ (Y1.succ (Y1.succ (Y1.succ (Y1.succ (Y1.succ (Y1.succ (Y1.succ (Y1.succ (Y1.succ (Y1.succ (Y1.succ (Y1.succ (Y1.succ (Y1.succ (Y1.succ (Y1.succ (Y1.succ (Y1.succ (Y1.succ Y1.zero ?_) ?_) ?_) ?_) ?_) ?_) ?_) ?_) ?_) ?_) ?_) ?_) ?_) ?_) ?_) ?_) ?_) ?_) ?_) ?_) ?_) ?_) ?_
  ·obtain ⟨b24,b40,b56,b8,k12,k28,k44,k60,p11,p27,p43,p59,_⟩:∃ (b24:Nat) (b40:Nat) (b56:Nat) (b8:Nat) (k12:Nat) (k28:Nat) (k44:Nat) (k60:Nat) (p11:Option Addr) (p27:Option Addr) (p43:Option Addr) (p59:Option Addr),True:=⟨0,0,0,0,0,0,0,0,none,none,none,none,trivial⟩
   have d:=((d.drew).emp).emp
   have d:=((d.emp).emp).noE (Sq p59 k60 rv58.2.L)
   have d:=((d.noE (j6 Z10 a9H)).noE (Sq p43 k44 rv42.2.L)).noE (j6 Z9 a9J)
   have d:=((d.noE (Sq p27 k28 rv26.2.L)).noE (j6 Z8 a9G)).noE (Sq p11 k12 rv10.2.L)
   have d:=d.noE (j6 Z7 a9I)
   exact ⟨b24,b40,b56,b8,k12,k28,k44,k60,p11,p27,p43,p59,S0,SlF.init (s.wk rfl) (by kernel_rfl),d.gt [4,5,0,1,2,3] [8,0,1,2,3,4,5,6,7] rfl rfl⟩
  ·intro l hi hp hc a w ⟨b24,b40,b56,b8,k12,k28,k44,k60,p11,p27,p43,p59,S,hS,d⟩
   refine a4y rfl ?_
   have s:=hS.open_ .nil
   refine y7 (α:=ByteArray) (vs:=D25t3) (cs:=D25t3) (xs:=D25t4) s d El124 rfl rfl rfl rfl rfl rfl ⟨⟨_,rfl,rfl⟩,⟨⟨_,rfl,rfl⟩,⟨⟨_,rfl,rfl⟩,rfl⟩⟩⟩ rfl trivial rfl fun b8 a w s d=>?_
   have h_3:=a3A hc 3 hi rfl
   have d:=d.opt 0 rfl true
   exact nl ⟨b24,b40,b56,b8,k12,k28,k44,k60,p11,p27,p43,p59,S,hS.close .nil s rfl (.here (.same (.same (.neg h_3 rfl (.same (.same (.same (.same (.same (.same (.same (.same (.same (.same (.same (.same (.same (.same (.same (.same (.same .nil))))))))))))))))))))) 0 rfl,d.gt [1,2,0,4,5,6] [2,0,4,5,6,7,8,9,10] rfl rfl⟩
  ·intro l hi hp hc a w ⟨b24,b40,b56,b8,k12,k28,k44,k60,p11,p27,p43,p59,S,hS,d⟩
   refine a1z hS (.b (t:=0) rfl .nil) rfl rfl trivial (X3 rfl) (rfl) 1 rfl fun a hS=>⟨b24,b40,b56,b8,k12,k28,k44,k60,p11,p27,p43,p59,S,hS,d⟩
  ·intro l hi hp hc a w ⟨b24,b40,b56,b8,k12,k28,k44,k60,p11,p27,p43,p59,S,hS,d⟩
   have h_7:=a3A hc 7 hi rfl
   have h_12:=a3A hc 12 h_7 rfl
   have h_17:=a3A hc 17 h_12 rfl
   have d:=d.fixR 1 (r':=.box b2 (C94 d1 p3 k4) 94) rfl ((bF h_17).trans ((bF h_12).trans ((bF h_7).trans ((bF hi)))))
   have h_1:=hp 1 rfl
   refine a4y rfl ?_
   have s:=hS.open_ (.v (t:=4) 1 rfl h_1 .nil)
   refine cR s (o6 h9 d.dom (d.ins [1] (by decide) rfl) (d.envAt 0 rfl)) (d9 call23 rfl) rfl ?_
   rintro v105 Sv102 w a h103 ⟨p11,k12,rfl,h106,h13⟩ s
   have d:=((d.callO [1] [0,2,3,4,5] (by decide) rfl h103 h106).addE (e:=Sq p11 k12 rv10.2.L) h13).fixR 0 (r':=(bif l 17 then .box b2 (C94 rv58.2 p59 k60) 94 else (bif l 12 then .box b2 (C94 rv42.2 p43 k44) 94 else (bif l 7 then .box b2 (C94 rv26.2 p27 k28) 94 else .box b2 (C94 rv10.2 p11 k12) 94)))) rfl ((bF h_17).trans ((bF h_12).trans ((bF h_7)))).symm
   have d:=d.opt 0 rfl true
   exact nl ⟨b24,b40,b56,b8,k12,k28,k44,k60,p11,p27,p43,p59,Sv102,hS.close (.v (t:=4) 1 rfl h_1 .nil) s rfl (.same (.same (.here (.same (.same (.same (.same (.same (.same (.same (.same (.same (.same (.same (.same (.same (.same (.same (.same (.same (.same .nil))))))))))))))))))))) 2 rfl,d.gt [1,0,2,3,4,5] [2,3,0,5,6,7,8,9,10] rfl rfl⟩
  ·intro l hi hp hc a w ⟨b24,b40,b56,b8,k12,k28,k44,k60,p11,p27,p43,p59,S,hS,d⟩
   have hw0:=d
   have h_0:=hp 0 rfl
   have d:=(d.fixR 2 (r':=.row (ad b8) a9I.length a9I.length Z7 9 1) rfl ((bT h_0))).yes 1 rfl h_0
   have h_2:=hp 2 rfl
   obtain ⟨c21,h17,h22,h15⟩:=d.elemRX (α:=ByteArray) 2 rfl 0 rfl h14
   obtain ⟨_,rfl,rfl⟩:=h15
   refine a1z hS (.v (t:=3) 0 rfl h_0 (.v (t:=5) 2 rfl h_2 .nil)) rfl rfl trivial (o8 runUnderlying124 sizeOf9 rfl rfl h17.1 h17.2 rfl) (rfl) 3 rfl fun a hS=>⟨b24,b40,b56,b8,k12,k28,k44,k60,p11,p27,p43,p59,S,hS,hw0⟩
  ·intro l hi hp hc a w ⟨b24,b40,b56,b8,k12,k28,k44,k60,p11,p27,p43,p59,S,hS,d⟩
   have hw0:=d
   have h_3:=hp 3 rfl
   have h_0:=hc 3 0 rfl h_3
   have d:=(d.fixR 2 (r':=.row (ad b8) a9I.length a9I.length Z7 9 1) rfl ((bT h_0))).yes 1 rfl h_0
   obtain ⟨c21,h17,h22,h15⟩:=d.elemRX (α:=ByteArray) 2 rfl 0 rfl h14
   obtain ⟨_,rfl,rfl⟩:=h15
   refine a1z hS (.v (t:=6) 3 rfl h_3 .nil) rfl rfl trivial (K5 (j:=0) (d.ownAt 2 rfl) rfl isAgg9 h22 rfl) (rfl) 4 rfl fun a hS=>⟨b24,b40,b56,b8,k12,k28,k44,k60,p11,p27,p43,p59,S,hS,hw0⟩
  ·intro l hi hp hc a w ⟨b24,b40,b56,b8,k12,k28,k44,k60,p11,p27,p43,p59,S,hS,d⟩
   refine a4y rfl ?_
   have s:=hS.open_ .nil
   refine y7 (α:=ByteArray) (vs:=D25t5) (cs:=D25t5) (xs:=D25t6) s d El124 rfl rfl rfl rfl rfl rfl ⟨⟨_,rfl,rfl⟩,⟨⟨_,rfl,rfl⟩,⟨⟨_,rfl,rfl⟩,⟨⟨_,rfl,rfl⟩,rfl⟩⟩⟩⟩ rfl trivial rfl fun b24 a w s d=>?_
   have h_8:=a3A hc 8 hi rfl
   have d:=d.opt 0 rfl true
   exact nl ⟨b24,b40,b56,b8,k12,k28,k44,k60,p11,p27,p43,p59,S,hS.close .nil s rfl (.same (.same (.same (.same (.same (.here (.same (.same (.neg h_8 rfl (.same (.same (.same (.same (.same (.same (.same (.same (.same (.same (.same (.same .nil))))))))))))))))))))) 5 rfl,d.gt [1,2,3,0,5,6] [2,3,4,0,6,7,8,9,10] rfl rfl⟩
  ·intro l hi hp hc a w ⟨b24,b40,b56,b8,k12,k28,k44,k60,p11,p27,p43,p59,S,hS,d⟩
   refine a1z hS (.b (t:=0) rfl .nil) rfl rfl trivial (X3 rfl) (rfl) 6 rfl fun a hS=>⟨b24,b40,b56,b8,k12,k28,k44,k60,p11,p27,p43,p59,S,hS,d⟩
  ·intro l hi hp hc a w ⟨b24,b40,b56,b8,k12,k28,k44,k60,p11,p27,p43,p59,S,hS,d⟩
   have h_12:=a3A hc 12 hi rfl
   have h_17:=a3A hc 17 h_12 rfl
   have h_2:=hp 2 rfl
   have d:=(d.fixR 1 (r':=.box b2 (C94 rv10.2 p11 k12) 94) rfl ((bF h_17).trans ((bF h_12).trans ((bF hi).trans ((bT h_2)))))).yes 2 rfl h_2
   have h_6:=hp 6 rfl
   refine a4y rfl ?_
   have s:=hS.open_ (.v (t:=9) 6 rfl h_6 .nil)
   refine cR s (o6 h25 d.dom (d.ins [1] (by decide) rfl) (d.envAt 0 rfl)) (d9 call23 rfl) rfl ?_
   rintro v117 Sv114 w a h115 ⟨p27,k28,rfl,h118,h29⟩ s
   have d:=((d.callO [1] [0,2,3,4,5] (by decide) rfl h115 h118).addE (e:=Sq p27 k28 rv26.2.L) h29).fixR 0 (r':=(bif l 17 then .box b2 (C94 rv58.2 p59 k60) 94 else (bif l 12 then .box b2 (C94 rv42.2 p43 k44) 94 else .box b2 (C94 rv26.2 p27 k28) 94))) rfl ((bF h_17).trans ((bF h_12))).symm
   have d:=d.opt 0 rfl true
   exact nl ⟨b24,b40,b56,b8,k12,k28,k44,k60,p11,p27,p43,p59,Sv114,hS.close (.v (t:=9) 6 rfl h_6 .nil) s rfl (.same (.same (.same (.same (.same (.same (.same (.here (.same (.same (.same (.same (.same (.same (.same (.same (.same (.same (.same (.same (.same .nil))))))))))))))))))))) 7 rfl,d.gt [1,0,2,3,4,5] [3,4,5,6,0,8,9,10,11] rfl rfl⟩
  ·intro l hi hp hc a w ⟨b24,b40,b56,b8,k12,k28,k44,k60,p11,p27,p43,p59,S,hS,d⟩
   have hw0:=d
   have h_5:=hp 5 rfl
   have d:=(d.fixR 3 (r':=.row (ad b24) a9G.length a9G.length Z8 9 1) rfl ((bT h_5))).yes 3 rfl h_5
   have h_7:=hp 7 rfl
   obtain ⟨c37,h33,h38,h31⟩:=d.elemRX (α:=ByteArray) 3 rfl 0 rfl h30
   obtain ⟨_,rfl,rfl⟩:=h31
   refine a1z hS (.v (t:=8) 5 rfl h_5 (.v (t:=10) 7 rfl h_7 .nil)) rfl rfl trivial (o8 runUnderlying124 sizeOf9 rfl rfl h33.1 h33.2 rfl) (rfl) 8 rfl fun a hS=>⟨b24,b40,b56,b8,k12,k28,k44,k60,p11,p27,p43,p59,S,hS,hw0⟩
  ·intro l hi hp hc a w ⟨b24,b40,b56,b8,k12,k28,k44,k60,p11,p27,p43,p59,S,hS,d⟩
   have hw0:=d
   have h_8:=hp 8 rfl
   have h_5:=hc 8 5 rfl h_8
   have d:=(d.fixR 3 (r':=.row (ad b24) a9G.length a9G.length Z8 9 1) rfl ((bT h_5))).yes 3 rfl h_5
   obtain ⟨c37,h33,h38,h31⟩:=d.elemRX (α:=ByteArray) 3 rfl 0 rfl h30
   obtain ⟨_,rfl,rfl⟩:=h31
   refine a1z hS (.v (t:=11) 8 rfl h_8 .nil) rfl rfl trivial (K5 (j:=0) (d.ownAt 3 rfl) rfl isAgg9 h38 rfl) (rfl) 9 rfl fun a hS=>⟨b24,b40,b56,b8,k12,k28,k44,k60,p11,p27,p43,p59,S,hS,hw0⟩
  ·intro l hi hp hc a w ⟨b24,b40,b56,b8,k12,k28,k44,k60,p11,p27,p43,p59,S,hS,d⟩
   refine a4y rfl ?_
   have s:=hS.open_ .nil
   refine y7 (α:=ByteArray) (vs:=D25t7) (cs:=D25t7) (xs:=D25t8) s d El124 rfl rfl rfl rfl rfl rfl ⟨⟨_,rfl,rfl⟩,⟨⟨_,rfl,rfl⟩,⟨⟨_,rfl,rfl⟩,rfl⟩⟩⟩ rfl trivial rfl fun b40 a w s d=>?_
   have h_13:=a3A hc 13 hi rfl
   have d:=d.opt 0 rfl true
   exact nl ⟨b24,b40,b56,b8,k12,k28,k44,k60,p11,p27,p43,p59,S,hS.close .nil s rfl (.same (.same (.same (.same (.same (.same (.same (.same (.same (.same (.here (.same (.same (.neg h_13 rfl (.same (.same (.same (.same (.same (.same (.same .nil))))))))))))))))))))) 10 rfl,d.gt [1,2,3,4,0,6] [2,3,4,5,6,0,8,9,10] rfl rfl⟩
  ·intro l hi hp hc a w ⟨b24,b40,b56,b8,k12,k28,k44,k60,p11,p27,p43,p59,S,hS,d⟩
   refine a1z hS (.b (t:=0) rfl .nil) rfl rfl trivial (X3 rfl) (rfl) 11 rfl fun a hS=>⟨b24,b40,b56,b8,k12,k28,k44,k60,p11,p27,p43,p59,S,hS,d⟩
  ·intro l hi hp hc a w ⟨b24,b40,b56,b8,k12,k28,k44,k60,p11,p27,p43,p59,S,hS,d⟩
   have h_17:=a3A hc 17 hi rfl
   have h_7:=hp 7 rfl
   have d:=(d.fixR 1 (r':=.box b2 (C94 rv26.2 p27 k28) 94) rfl ((bF h_17).trans ((bF hi).trans ((bT h_7))))).yes 4 rfl h_7
   have h_11:=hp 11 rfl
   refine a4y rfl ?_
   have s:=hS.open_ (.v (t:=14) 11 rfl h_11 .nil)
   refine cR s (o6 h41 d.dom (d.ins [1] (by decide) rfl) (d.envAt 0 rfl)) (d9 call23 rfl) rfl ?_
   rintro v129 Sv126 w a h127 ⟨p43,k44,rfl,h130,h45⟩ s
   have d:=((d.callO [1] [0,2,3,4,5] (by decide) rfl h127 h130).addE (e:=Sq p43 k44 rv42.2.L) h45).fixR 0 (r':=(bif l 17 then .box b2 (C94 rv58.2 p59 k60) 94 else .box b2 (C94 rv42.2 p43 k44) 94)) rfl ((bF h_17)).symm
   have d:=d.opt 0 rfl true
   exact nl ⟨b24,b40,b56,b8,k12,k28,k44,k60,p11,p27,p43,p59,Sv126,hS.close (.v (t:=14) 11 rfl h_11 .nil) s rfl (.same (.same (.same (.same (.same (.same (.same (.same (.same (.same (.same (.same (.here (.same (.same (.same (.same (.same (.same (.same (.same .nil))))))))))))))))))))) 12 rfl,d.gt [1,0,2,3,4,5] [3,4,5,6,7,8,0,10,11] rfl rfl⟩
  ·intro l hi hp hc a w ⟨b24,b40,b56,b8,k12,k28,k44,k60,p11,p27,p43,p59,S,hS,d⟩
   have hw0:=d
   have h_10:=hp 10 rfl
   have d:=(d.fixR 4 (r':=.row (ad b40) a9J.length a9J.length Z9 9 1) rfl ((bT h_10))).yes 5 rfl h_10
   have h_12:=hp 12 rfl
   obtain ⟨c53,h49,h54,h47⟩:=d.elemRX (α:=ByteArray) 4 rfl 0 rfl h46
   obtain ⟨_,rfl,rfl⟩:=h47
   refine a1z hS (.v (t:=13) 10 rfl h_10 (.v (t:=15) 12 rfl h_12 .nil)) rfl rfl trivial (o8 runUnderlying124 sizeOf9 rfl rfl h49.1 h49.2 rfl) (rfl) 13 rfl fun a hS=>⟨b24,b40,b56,b8,k12,k28,k44,k60,p11,p27,p43,p59,S,hS,hw0⟩
  ·intro l hi hp hc a w ⟨b24,b40,b56,b8,k12,k28,k44,k60,p11,p27,p43,p59,S,hS,d⟩
   have hw0:=d
   have h_13:=hp 13 rfl
   have h_10:=hc 13 10 rfl h_13
   have d:=(d.fixR 4 (r':=.row (ad b40) a9J.length a9J.length Z9 9 1) rfl ((bT h_10))).yes 5 rfl h_10
   obtain ⟨c53,h49,h54,h47⟩:=d.elemRX (α:=ByteArray) 4 rfl 0 rfl h46
   obtain ⟨_,rfl,rfl⟩:=h47
   refine a1z hS (.v (t:=16) 13 rfl h_13 .nil) rfl rfl trivial (K5 (j:=0) (d.ownAt 4 rfl) rfl isAgg9 h54 rfl) (rfl) 14 rfl fun a hS=>⟨b24,b40,b56,b8,k12,k28,k44,k60,p11,p27,p43,p59,S,hS,hw0⟩
  ·intro l hi hp hc a w ⟨b24,b40,b56,b8,k12,k28,k44,k60,p11,p27,p43,p59,S,hS,d⟩
   refine a4y rfl ?_
   have s:=hS.open_ .nil
   refine y7 (α:=ByteArray) (vs:=D25t9) (cs:=D25t9) (xs:=D25t10) s d El124 rfl rfl rfl rfl rfl rfl ⟨⟨_,rfl,rfl⟩,⟨⟨_,rfl,rfl⟩,⟨⟨_,rfl,rfl⟩,rfl⟩⟩⟩ rfl trivial rfl fun b56 a w s d=>?_
   have h_18:=a3A hc 18 hi rfl
   have d:=d.opt 0 rfl true
   exact nl ⟨b24,b40,b56,b8,k12,k28,k44,k60,p11,p27,p43,p59,S,hS.close .nil s rfl (.same (.same (.same (.same (.same (.same (.same (.same (.same (.same (.same (.same (.same (.same (.same (.here (.same (.same (.neg h_18 rfl (.same (.same .nil))))))))))))))))))))) 15 rfl,d.gt [1,2,3,4,5,0] [2,3,4,5,6,7,8,0,10] rfl rfl⟩
  ·intro l hi hp hc a w ⟨b24,b40,b56,b8,k12,k28,k44,k60,p11,p27,p43,p59,S,hS,d⟩
   refine a1z hS (.b (t:=0) rfl .nil) rfl rfl trivial (X3 rfl) (rfl) 16 rfl fun a hS=>⟨b24,b40,b56,b8,k12,k28,k44,k60,p11,p27,p43,p59,S,hS,d⟩
  ·intro l hi hp hc a w ⟨b24,b40,b56,b8,k12,k28,k44,k60,p11,p27,p43,p59,S,hS,d⟩
   have h_12:=hp 12 rfl
   have d:=(d.fixR 1 (r':=.box b2 (C94 rv42.2 p43 k44) 94) rfl ((bF hi).trans ((bT h_12)))).yes 6 rfl h_12
   have h_16:=hp 16 rfl
   refine a4y rfl ?_
   have s:=hS.open_ (.v (t:=19) 16 rfl h_16 .nil)
   refine cR s (o6 h57 d.dom (d.ins [1] (by decide) rfl) (d.envAt 0 rfl)) (d9 call23 rfl) rfl ?_
   rintro v141 Sv138 w a h139 ⟨p59,k60,rfl,h142,h61⟩ s
   have d:=((d.callO [1] [0,2,3,4,5] (by decide) rfl h139 h142).addE (e:=Sq p59 k60 rv58.2.L) h61).opt 0 rfl true
   exact nl ⟨b24,b40,b56,b8,k12,k28,k44,k60,p11,p27,p43,p59,Sv138,hS.close (.v (t:=19) 16 rfl h_16 .nil) s rfl (.same (.same (.same (.same (.same (.same (.same (.same (.same (.same (.same (.same (.same (.same (.same (.same (.same (.here (.same (.same (.same .nil))))))))))))))))))))) 17 rfl,d.gt [1,0,2,3,4,5] [3,4,5,6,7,8,9,10,0] rfl rfl⟩
  ·intro l hi hp hc a w ⟨b24,b40,b56,b8,k12,k28,k44,k60,p11,p27,p43,p59,S,hS,d⟩
   have hw0:=d
   have h_15:=hp 15 rfl
   have d:=(d.fixR 5 (r':=.row (ad b56) a9H.length a9H.length Z10 9 1) rfl ((bT h_15))).yes 7 rfl h_15
   have h_17:=hp 17 rfl
   obtain ⟨c69,h65,h70,h63⟩:=d.elemRX (α:=ByteArray) 5 rfl 0 rfl h62
   obtain ⟨_,rfl,rfl⟩:=h63
   refine a1z hS (.v (t:=18) 15 rfl h_15 (.v (t:=20) 17 rfl h_17 .nil)) rfl rfl trivial (o8 runUnderlying124 sizeOf9 rfl rfl h65.1 h65.2 rfl) (rfl) 18 rfl fun a hS=>⟨b24,b40,b56,b8,k12,k28,k44,k60,p11,p27,p43,p59,S,hS,hw0⟩
  ·intro l hi hp hc a w ⟨b24,b40,b56,b8,k12,k28,k44,k60,p11,p27,p43,p59,S,hS,d⟩
   have hw0:=d
   have h_18:=hp 18 rfl
   have h_15:=hc 18 15 rfl h_18
   have d:=(d.fixR 5 (r':=.row (ad b56) a9H.length a9H.length Z10 9 1) rfl ((bT h_15))).yes 7 rfl h_15
   obtain ⟨c69,h65,h70,h63⟩:=d.elemRX (α:=ByteArray) 5 rfl 0 rfl h62
   obtain ⟨_,rfl,rfl⟩:=h63
   refine a1z hS (.v (t:=21) 18 rfl h_18 .nil) rfl rfl trivial (K5 (j:=0) (d.ownAt 5 rfl) rfl isAgg9 h70 rfl) (rfl) 19 rfl fun a hS=>⟨b24,b40,b56,b8,k12,k28,k44,k60,p11,p27,p43,p59,S,hS,hw0⟩
  ·intro l hi hp hc a w ⟨b24,b40,b56,b8,k12,k28,k44,k60,p11,p27,p43,p59,S,hS,d⟩
   have h_19:=hp 19 rfl
   have h_14:=hp 14 rfl
   have h_9:=hp 9 rfl
   have h_4:=hp 4 rfl
   refine a1z hS (.v (t:=7) 4 rfl h_4 (.v (t:=12) 9 rfl h_9 (.v (t:=17) 14 rfl h_14 (.v (t:=22) 19 rfl h_19 .nil)))) rfl rfl trivial (z8 (vs:=[(0,.string x16),(1,.string x32),(2,.string x48),(3,.string x64)]) Bld32 rfl rfl) (rfl) 20 rfl fun a hS=>⟨b24,b40,b56,b8,k12,k28,k44,k60,p11,p27,p43,p59,S,hS,d⟩
  ·intro l hi hp hc a w ⟨b24,b40,b56,b8,k12,k28,k44,k60,p11,p27,p43,p59,S,hS,d⟩
   have d:=d.fixR 0 (r':=.box b6 Z3 32) rfl ((bF hi))
   have h_20:=hp 20 rfl
   refine a4y rfl ?_
   have s:=hS.open_ (.b (t:=2) rfl (.v (t:=23) 20 rfl h_20 .nil))
   refine ws [.string x16,.string x32,.string x48,.string x64] s d 0 rfl rfl rfl sizeOf32 fun a w s d=>?_
   exact nl ⟨b24,b40,b56,b8,k12,k28,k44,k60,p11,p27,p43,p59,S,hS.close0 (.b (t:=2) rfl (.v (t:=23) 20 rfl h_20 .nil)) s rfl,d.gt [0,1,2,3,4,5] [0,1,2,3,4,5,6,7,8] rfl rfl⟩
  intro l a w hl ⟨b24,b40,b56,b8,k12,k28,k44,k60,p11,p27,p43,p59,S,hS,d⟩
  have d:=((d.yes 8 rfl (hl 17 (by decide))).fixR 1 (r':=.box b2 (C94 rv58.2 p59 k60) 94) rfl (bT (hl 17 (by decide)))).fixR 0 (r':=.box b6 [.string x16,.string x32,.string x48,.string x64] 32) rfl (bT (hl 21 (by decide)))
  have s:=hS.on (.b (t:=2) rfl .nil)
  exact ⟨S,k60,p59,wj s d [1,0] [0]⟩
 rintro a w ⟨Sv71,k60,p59,s,d⟩
 refine tn ?_
 obtain rfl:=oi u
 exact wp_ret (a6w s rfl (F7 d 1 rfl rfl isAgg32 sizeOf32 rfl) (d.ret ⟨p59,k60,rfl,(d.outs [0] (by decide) rfl),(d.envAt 0 rfl)⟩))
theorem M5 {w0 S0 n1 lo2 hi3 r} (u:Q9 n1 lo2 hi3=some r) (hS:Dm S0 w0):Ck Tryz.prog 64 #[iv n1,iv lo2,iv hi3] w0 S0 [] l7 r:=by
 refine en 15 func64 rfl hS rfl rfl rfl fun a s d=>?_
 refine sz0 1 s rfl fun a s=>?_
 refine sn0 4 s rfl fun a s=>?_
 refine rA 4 10 [] s d rfl rfl rfl rfl rfl fun a s=>?_
 refine rz0 1 s rfl fun a s=>?_
 obtain rfl:=oi u
 exact q1 s rfl (d.ret rfl)
theorem a8U {w0 S0 a1 b2 r} (u:a5O a1 b2=some r) (hS:Dm S0 w0):Ck Tryz.prog 138 #[iv a1,iv b2] w0 S0 [] J7 r:=by
 refine en 12 func138 rfl hS rfl rfl rfl fun a s d=>?_
 refine sz0 1 s rfl fun a s=>?_
 refine wp_seq ?_
 obtain ⟨e21,h32,u⟩:=bt u
 refine x9 (fun a w=>∃ Sv22,Sl 12 [(0,iv e21)] a∧Wd ⟨w0,S0,[]⟩ Sv22 [] [] w) ?_ ?_
 ·refine wp_block (u7 (fun sv3 a w=>∃ Sv13,Sl 12 [(0,iv sv3.1),(1,iv sv3.2)] a∧Wd ⟨w0,S0,[]⟩ Sv13 [] [] w) (a1,b2) h32 ⟨S0,wj s d [] []⟩ ?_)
  clear h32
  repeat clear u
  rintro sv3 a w tv19 ⟨Sv13,s,d⟩ u hd18
  refine wp_seq (sz0 2 s rfl fun a s=>?_)
  refine cd s u rfl (fun u=>?_) fun u=>?_
  ·refine sk (wp_block ?_)
   obtain ⟨rem29,h28,u⟩:=bt u
   refine y9 (fun a w=>∃ Sv30,Sl 12 [(0,iv sv3.2),(1,iv rem29)] a∧Wd ⟨w0,S0,[]⟩ Sv30 [] [] w) ?_ ?_
   ·refine h_c [] [] d rfl rfl (by kernel_rfl) rfl fun hC d=>?_
    refine gn 3 [0,1,2] [] s hC rfl rfl rfl fun a s=>?_
    refine gv s 3 rfl rfl hC (fun w hC=>b3S rfl rfl h28) fun a s=>?_
    refine gn 2 [4,5] [] s hC rfl rfl rfl fun a s=>?_
    refine x8 (by kernel_rfl) ?_
    exact ⟨Sv13,wj s d [] []⟩
   rintro a w ⟨Sv30,s,d⟩
   exact l9 (tn ⟨_,io u,Sv30,wj s d [] []⟩)
  refine wp_exit (j4 (j4 (o9 ?_)))
  obtain rfl:=oi u
  have h31:=hd18 _ rfl
  subst h31
  exact tn ⟨Sv13,wj s d [] []⟩
 rintro a w ⟨Sv22,s,d⟩
 refine tn (sz0 2 s rfl fun a s=>?_)
 obtain rfl:=oi u
 exact q1 s rfl (d.ret rfl)
abbrev b2e (w0:World) (X:List Nat) (r:(Rate × Int)):Rd:=fun S w v=>v=.tuple #[V34 r.1,iv r.2]
theorem b2d {w0 S0 num1 den2 r} (u:a7C num1 den2=some r) (hS:Dm S0 w0):Ck Tryz.prog 120 #[iv num1,iv den2] w0 S0 [] b2e r:=by
 refine en 26 func120 rfl hS rfl rfl rfl fun a s d=>?_
 refine sr (wa [iv 0,iv 0] s d zeroValue34 fun b3 a w s d=>?_)
 refine rz0 1 s rfl fun a s=>?_
 refine wp_seq (sn0 1 s rfl fun a s=>?_)
 obtain ⟨rv5,h4,u⟩:=bt u
 refine cV s d (M5 h4 d.bdom) (d9 call64 rfl) rfl fun a w s d=>?_
 refine rn0 2 s rfl fun a s=>?_
 obtain ⟨c21,hc21,u⟩:=bt u
 refine o7 4 (fun a w=>∃ Sv22,Sl 26 [(0,iv num1),(1,iv den2),(4,pt b3),(14,.bool c21)] a∧Wd ⟨w0,S0,[]⟩ Sv22 [.box b3 [iv 0,iv 0] 34] [] w) ?_ ?_
 ·rcases Bool.eq_false_or_eq_true (!rv5) with h20 | h20
  ·have s:=s.bT 10 rfl h20
   have u:=D5 hc21 h20
   refine rn0 4 s rfl fun a s=>?_
   refine wpList_nil ?_
   obtain rfl:=oi u
   exact tn ⟨S0,wj s d [0] []⟩
  have s:=s.bF 10 rfl h20
  have u:=D6 hc21 h20
  refine y8 s (X3 rfl) ⟨_,rfl,rfl⟩ rfl rfl fun a s=>?_
  obtain ⟨rv24,h23,u⟩:=bt u
  refine q9 s (M5 h23 d.bdom) (d9 call64 rfl) ⟨_,rfl,rfl⟩ rfl rfl ?_
  rintro v28 Sv25 w a h26 rfl s
  have d:=d.callB h26
  refine rn0 2 s rfl fun a s=>?_
  refine wpList_nil ?_
  obtain rfl:=oi u
  exact tn ⟨S0,wj s d [0] []⟩
 rintro a w ⟨Sv22,s,d⟩
 refine nl (cd s u rfl (fun u=>?_) fun u=>?_)
 ·refine sr (sv s (z8 (vs:=[]) Bld34 rfl rfl) rfl fun a s=>?_)
  refine ws [iv 0,iv 0] s d 0 rfl rfl rfl sizeOf34 fun a w s d=>?_
  refine rz0 1 s rfl fun a s=>?_
  obtain rfl:=oi u
  exact wp_ret (j3 (a1p s rfl (F7 d 0 rfl rfl isAgg34 sizeOf34 rfl) (H7 rfl) (d.ret rfl)))
 refine sk (sn0 2 s rfl fun a s=>?_)
 obtain ⟨rv34,h33,u⟩:=bt u
 refine cV s d (a8U h33 d.bdom) (d9 call138 rfl) rfl fun a w s d=>?_
 refine rz0 1 s rfl fun a s=>?_
 refine wp_seq ?_
 obtain ⟨quo42,h41,u⟩:=bt u
 obtain ⟨quo44,h43,u⟩:=bt u
 refine y9 (fun a w=>∃ Sv45,Sl 26 [(4,pt b3),(5,iv 0)] a∧Wd ⟨w0,S0,[]⟩ Sv45 [.box b3 [iv quo42,iv quo44] 34] [] w) ?_ ?_
 ·refine h_c [] [] d rfl rfl (by kernel_rfl) rfl fun hC d=>?_
  refine gn 2 [0,1] [] s hC rfl rfl rfl fun a s=>?_
  refine gv s 2 rfl rfl hC (fun w hC=>y_quoM rfl rfl h41) fun a s=>?_
  refine gn 2 [3,4] [] s hC rfl rfl rfl fun a s=>?_
  refine gv s 5 rfl rfl hC (fun w hC=>y_quoM rfl rfl h43) fun a s=>?_
  refine gv s 6 rfl rfl hC (fun w hC=>z8 (vs:=[(0,iv quo42),(1,iv quo44)]) Bld34 rfl rfl) fun a s=>?_
  refine ho 7 rfl ?_
  refine ws [iv quo42,iv quo44] s d 0 rfl rfl rfl sizeOf34 fun a w s d=>?_
  refine h_n [] [] d rfl rfl fun hC=>?_
  refine gv s 8 rfl rfl hC (fun w hC=>M7 rfl) fun a s=>?_
  refine x8 (by kernel_rfl) ?_
  exact ⟨Sv22,wj s d [0] []⟩
 rintro a w ⟨Sv45,s,d⟩
 refine tn ?_
 obtain rfl:=oi u
 exact wp_ret (a1p s rfl (F7 d 0 rfl rfl isAgg34 sizeOf34 rfl) (H7 rfl) (d.ret rfl))
abbrev a8N (w0:World) (X:List Nat) (b2:Nat) (r:(Rate × Dice)):(Nat→Prop)→World→Value→Prop:=fun S w v=>∃ pq0_0 kq0_0,v=V34 r.1∧Outs X w0 S w [.box b2 (C94 r.2 pq0_0 kq0_0) 94]∧(Sq pq0_0 kq0_0 r.2.L).p S w
theorem a8M {w0 S0 b2 p3 k4 d1 r} (u:a3B d1=some r) (hS:Dm S0 w0) (hin:Ins S0 w0 [.box b2 (C94 d1 p3 k4) 94]) (h5:(Sq p3 k4 d1.L).p S0 w0):Calls Tryz.prog 82 #[pt b2] w0 (Ret (H8 [.box b2 (C94 d1 p3 k4) 94]) w0 S0 (a8N w0 (H8 [.box b2 (C94 d1 p3 k4) 94]) b2 r)):=by
 refine enI 16 func82 rfl hS hin rfl rfl rfl fun a s d=>?_
 have d:=d.addE h5
 refine sr (wa [iv 0,iv 0] s d zeroValue34 fun b6 a w s d=>?_)
 refine nl (sn0 1 s rfl fun a s=>?_)
 refine y7 (α:=Int) (vs:=Z11) (cs:=Z11) (xs:=([1,3,20,100,40,4096,7]:List Int)) s d a5w rfl rfl rfl rfl rfl rfl ⟨⟨_,rfl,rfl⟩,⟨⟨_,rfl,rfl⟩,⟨⟨_,rfl,rfl⟩,⟨⟨_,rfl,rfl⟩,⟨⟨_,rfl,rfl⟩,⟨⟨_,rfl,rfl⟩,⟨⟨_,rfl,rfl⟩,rfl⟩⟩⟩⟩⟩⟩⟩ rfl trivial rfl fun b8 a w s d=>?_
 obtain ⟨rv10,h9,u⟩:=bt u
 obtain ⟨Sv14,d⟩:=A9 (α:=Int) d 0 rfl 0 rfl
 refine cR s (J6 h9 d.dom (d.ins [1] (by decide) rfl) (d.envAt 2 rfl) (d.envAt 0 rfl)) (d9 call43 rfl) rfl ?_
 rintro v18 Sv15 w a h16 ⟨p11,k12,rfl,h19,h13⟩ s
 have d:=(d.callO [1] [0] (by decide) rfl h16 h19).addE (e:=Sq p11 k12 rv10.2.L) h13
 refine mv s rfl rfl fun a s=>?_
 refine y7 (α:=Int) (vs:=Z12) (cs:=Z12) (xs:=([1,1,1,3,7,4096]:List Int)) s d a5w rfl rfl rfl rfl rfl rfl ⟨⟨_,rfl,rfl⟩,⟨⟨_,rfl,rfl⟩,⟨⟨_,rfl,rfl⟩,⟨⟨_,rfl,rfl⟩,⟨⟨_,rfl,rfl⟩,⟨⟨_,rfl,rfl⟩,rfl⟩⟩⟩⟩⟩⟩ rfl trivial rfl fun b22 a w s d=>?_
 obtain ⟨rv24,h23,u⟩:=bt u
 obtain ⟨Sv28,d⟩:=A9 (α:=Int) d 0 rfl 0 rfl
 refine cR s (J6 h23 d.dom (d.ins [0] (by decide) rfl) (d.envAt 2 rfl) (d.envAt 0 rfl)) (d9 call43 rfl) rfl ?_
 rintro v32 Sv29 w a h30 ⟨p25,k26,rfl,h33,h27⟩ s
 have d:=(d.callO [0] [1] (by decide) rfl h30 h33).addE (e:=Sq p25 k26 rv24.2.L) h27
 obtain ⟨rv36,h35,u⟩:=bt u
 refine cV s d (b2d h35 d.bdom) (d9 call120 rfl) rfl fun a w s d=>?_
 refine rn0 3 s rfl fun a s=>?_
 refine wa [iv 0,iv 0] s d zeroValue34 fun b43 a w s d=>?_
 refine ws (C34 rv36.1) s d 0 rfl rfl rfl sizeOf34 fun a w s d=>?_
 refine rz0 1 s rfl fun a s=>?_
 refine sn 1 [0] s d rfl rfl fun a s=>?_
 refine ws (C34 rv36.1) s d 2 rfl rfl rfl sizeOf34 fun a w s d=>?_
 refine nl ?_
 obtain rfl:=oi u
 exact wp_ret (a6w s rfl (F7 d 2 rfl rfl isAgg34 sizeOf34 rfl) (d.ret ⟨p25,k26,rfl,(d.outs [1] (by decide) rfl),(d.envAt 0 rfl)⟩))
abbrev a8j (w0:World) (X:List Nat) (b2:Nat) (r:(Stage × Dice)):(Nat→Prop)→World→Value→Prop:=fun S w v=>∃ p0_7 k0_7 c0_7 pq0_0 kq0_0,v=V138 r.1 p0_7 k0_7∧Outs X w0 S w [.row p0_7 r.1.Taps.length k0_7 c0_7 3 1,.box b2 (C94 r.2 pq0_0 kq0_0) 94]∧(j6 c0_7 r.1.Taps).p S w∧(Sq pq0_0 kq0_0 r.2.L).p S w
theorem a8i {w0 S0 b2 p3 k4 d1 r} (u:a1A d1=some r) (hS:Dm S0 w0) (hin:Ins S0 w0 [.box b2 (C94 d1 p3 k4) 94]) (h5:(Sq p3 k4 d1.L).p S0 w0):Calls Tryz.prog 84 #[pt b2] w0 (Ret (H8 [.box b2 (C94 d1 p3 k4) 94]) w0 S0 (a8j w0 (H8 [.box b2 (C94 d1 p3 k4) 94]) b2 r)):=by
 refine enI 77 func84 rfl hS hin rfl rfl rfl fun a s d=>?_
 have d:=d.addE h5
 refine sr (wa Z0 s d zeroValue138 fun b6 a w s d=>?_)
 refine nl (wp_seq (sn0 1 s rfl fun a s=>?_))
 obtain ⟨rv8,h7,u⟩:=bt u
 refine cR s (o6 h7 d.dom (d.ins [1] (by decide) rfl) (d.envAt 0 rfl)) (d9 call23 rfl) rfl ?_
 rintro v15 Sv12 w a h13 ⟨p9,k10,rfl,h16,h11⟩ s
 have d:=(d.callO [1] [0] (by decide) rfl h13 h16).addE (e:=Sq p9 k10 rv8.2.L) h11
 refine nl (wp_block (sz0 2 s rfl fun a s=>?_))
 refine cd s u rfl (fun u=>?_) fun u=>?_
 ·refine sn0 1 s rfl fun a s=>?_
  obtain ⟨rv212,h211,u⟩:=bt u
  refine cR s (o6 h211 d.dom (d.ins [0] (by decide) rfl) (d.envAt 0 rfl)) (d9 call23 rfl) rfl ?_
  rintro v219 Sv216 w a h217 ⟨p213,k214,rfl,h220,h215⟩ s
  have d:=(d.callO [0] [1] (by decide) rfl h217 h220).addE (e:=Sq p213 k214 rv212.2.L) h215
  refine sv s (b0X rfl rfl) rfl fun a s=>?_
  refine sv s (z8 (vs:=[(0,iv (w64 (1+rv212.1)))]) a5v rfl rfl) rfl fun a s=>?_
  refine mv s rfl rfl fun a s=>?_
  obtain ⟨rv223,h222,u⟩:=bt u
  refine cR s (o6 h222 d.dom (d.ins [0] (by decide) rfl) (d.envAt 0 rfl)) (d9 call23 rfl) rfl ?_
  rintro v230 Sv227 w a h228 ⟨p224,k225,rfl,h231,h226⟩ s
  have d:=(d.callO [0] [1] (by decide) rfl h228 h231).addE (e:=Sq p224 k225 rv223.2.L) h226
  refine sv s (b0X rfl rfl) rfl fun a s=>?_
  refine sv s (z8 (vs:=[(0,iv (w64 (1+rv223.1)))]) a5v rfl rfl) rfl fun a s=>?_
  refine sv s (z8 (vs:=[(0,iv 0),(1,.agg #[iv (w64 (1+rv212.1)),iv 0,iv 0]),(2,.agg #[iv (w64 (1+rv223.1)),iv 0,iv 0])]) b3l rfl rfl) rfl fun a s=>?_
  refine ws [iv 0,iv (w64 (1+rv212.1)),iv 0,iv 0,iv (w64 (1+rv223.1)),iv 0,iv 0,.slice none ([]:List Int).length 0,iv 0,iv 0] s d 1 rfl rfl rfl sizeOf138 fun a w s d=>?_
  refine nl ?_
  obtain rfl:=oi u
  have d:=d.nilRow Int 3
  exact wp_ret (r9 (j3 (a6w s rfl (F7 d 2 rfl rfl isAgg138 sizeOf138 rfl) (d.ret ⟨none,0,[],p224,k225,rfl,(d.outs [0,1] (by decide) rfl),(d.envAt 0 rfl),(d.envAt 1 rfl)⟩))))
 refine sz0 2 s rfl fun a s=>?_
 refine cd s u rfl (fun u=>?_) fun u=>?_
 ·refine sn0 1 s rfl fun a s=>?_
  obtain ⟨rv308,h307,u⟩:=bt u
  refine cR s (o6 h307 d.dom (d.ins [0] (by decide) rfl) (d.envAt 0 rfl)) (d9 call23 rfl) rfl ?_
  rintro v315 Sv312 w a h313 ⟨p309,k310,rfl,h316,h311⟩ s
  have d:=(d.callO [0] [1] (by decide) rfl h313 h316).addE (e:=Sq p309 k310 rv308.2.L) h311
  refine rn0 2 s rfl fun a s=>?_
  obtain ⟨rv319,h318,u⟩:=bt u
  refine cR s (o6 h318 d.dom (d.ins [0] (by decide) rfl) (d.envAt 0 rfl)) (d9 call23 rfl) rfl ?_
  rintro v326 Sv323 w a h324 ⟨p320,k321,rfl,h327,h322⟩ s
  have d:=(d.callO [0] [1] (by decide) rfl h324 h327).addE (e:=Sq p320 k321 rv319.2.L) h322
  refine rn0 2 s rfl fun a s=>?_
  obtain ⟨rv330,h329,u⟩:=bt u
  refine cR s (o6 h329 d.dom (d.ins [0] (by decide) rfl) (d.envAt 0 rfl)) (d9 call23 rfl) rfl ?_
  rintro v337 Sv334 w a h335 ⟨p331,k332,rfl,h338,h333⟩ s
  have d:=(d.callO [0] [1] (by decide) rfl h335 h338).addE (e:=Sq p331 k332 rv330.2.L) h333
  refine sv s (z8 (vs:=[(0,iv (w64 (rv308.1 - 4))),(1,iv (w64 (rv319.1 - 4))),(2,iv rv330.1)]) a5v rfl rfl) rfl fun a s=>?_
  refine mv s rfl rfl fun a s=>?_
  refine y7 (α:=Int) (vs:=Z13) (cs:=Z13) (xs:=([1,2,(-3),1048576]:List Int)) s d a5w rfl rfl rfl rfl rfl rfl ⟨⟨_,rfl,rfl⟩,⟨⟨_,rfl,rfl⟩,⟨⟨_,rfl,rfl⟩,⟨⟨_,rfl,rfl⟩,rfl⟩⟩⟩⟩ rfl trivial rfl fun b341 a w s d=>?_
  obtain ⟨rv343,h342,u⟩:=bt u
  obtain ⟨Sv347,d⟩:=A9 (α:=Int) d 0 rfl 0 rfl
  refine cR s (J6 h342 d.dom (d.ins [0] (by decide) rfl) (d.envAt 2 rfl) (d.envAt 0 rfl)) (d9 call43 rfl) rfl ?_
  rintro v351 Sv348 w a h349 ⟨p344,k345,rfl,h352,h346⟩ s
  have d:=(d.callO [0] [1] (by decide) rfl h349 h352).addE (e:=Sq p344 k345 rv343.2.L) h346
  refine mv s rfl rfl fun a s=>?_
  obtain ⟨rv355,h354,u⟩:=bt u
  refine cR s (o6 h354 d.dom (d.ins [0] (by decide) rfl) (d.envAt 0 rfl)) (d9 call23 rfl) rfl ?_
  rintro v362 Sv359 w a h360 ⟨p356,k357,rfl,h363,h358⟩ s
  have d:=(d.callO [0] [1] (by decide) rfl h360 h363).addE (e:=Sq p356 k357 rv355.2.L) h358
  refine rn0 2 s rfl fun a s=>?_
  refine y7 (α:=Int) (vs:=Z14) (cs:=Z14) (xs:=([0,1,1048576]:List Int)) s d a5w rfl rfl rfl rfl rfl rfl ⟨⟨_,rfl,rfl⟩,⟨⟨_,rfl,rfl⟩,⟨⟨_,rfl,rfl⟩,rfl⟩⟩⟩ rfl trivial rfl fun b366 a w s d=>?_
  obtain ⟨rv368,h367,u⟩:=bt u
  obtain ⟨Sv372,d⟩:=A9 (α:=Int) d 0 rfl 0 rfl
  refine cR s (J6 h367 d.dom (d.ins [0] (by decide) rfl) (d.envAt 2 rfl) (d.envAt 0 rfl)) (d9 call43 rfl) rfl ?_
  rintro v376 Sv373 w a h374 ⟨p369,k370,rfl,h377,h371⟩ s
  have d:=(d.callO [0] [1] (by decide) rfl h374 h377).addE (e:=Sq p369 k370 rv368.2.L) h371
  refine sv s (z8 (vs:=[(0,iv rv343.1),(1,iv (w64 (rv355.1 - 4))),(2,iv rv368.1)]) a5v rfl rfl) rfl fun a s=>?_
  refine sv s (z8 (vs:=[(0,iv 1),(1,.agg #[iv (w64 (rv308.1 - 4)),iv (w64 (rv319.1 - 4)),iv rv330.1]),(2,.agg #[iv rv343.1,iv (w64 (rv355.1 - 4)),iv rv368.1])]) b3l rfl rfl) rfl fun a s=>?_
  refine ws [iv 1,iv (w64 (rv308.1 - 4)),iv (w64 (rv319.1 - 4)),iv rv330.1,iv rv343.1,iv (w64 (rv355.1 - 4)),iv rv368.1,.slice none ([]:List Int).length 0,iv 0,iv 0] s d 1 rfl rfl rfl sizeOf138 fun a w s d=>?_
  refine nl ?_
  obtain rfl:=oi u
  have d:=d.nilRow Int 3
  exact wp_ret (r9 (j3 (a6w s rfl (F7 d 2 rfl rfl isAgg138 sizeOf138 rfl) (d.ret ⟨none,0,[],p369,k370,rfl,(d.outs [0,1] (by decide) rfl),(d.envAt 0 rfl),(d.envAt 1 rfl)⟩))))
 refine wp_skip (l9 (tn (sn0 1 s rfl fun a s=>?_)))
 obtain ⟨rv380,h379,u⟩:=bt u
 refine cR s (o6 h379 d.dom (d.ins [0] (by decide) rfl) (d.envAt 0 rfl)) (d9 call23 rfl) rfl ?_
 rintro v387 Sv384 w a h385 ⟨p381,k382,rfl,h388,h383⟩ s
 have d:=(d.callO [0] [1] (by decide) rfl h385 h388).addE (e:=Sq p381 k382 rv380.2.L) h383
 refine sv s (b0X rfl rfl) rfl fun a s=>?_
 refine y7 (α:=Int) (vs:=[iv (w64 (1+rv380.1))]) (cs:=[iv (w64 (1+rv380.1))]) (xs:=([(w64 (1+rv380.1))]:List Int)) s d a5w rfl rfl rfl rfl rfl rfl ⟨⟨_,rfl,rfl⟩,rfl⟩ rfl trivial rfl fun b391 a w s d=>?_
 refine mv s rfl rfl fun a s=>?_
 refine y7 (α:=Int) (vs:=Z15) (cs:=Z15) (xs:=([1,1,2,5]:List Int)) s d a5w rfl rfl rfl rfl rfl rfl ⟨⟨_,rfl,rfl⟩,⟨⟨_,rfl,rfl⟩,⟨⟨_,rfl,rfl⟩,⟨⟨_,rfl,rfl⟩,rfl⟩⟩⟩⟩ rfl trivial rfl fun b393 a w s d=>?_
 obtain ⟨rv395,h394,u⟩:=bt u
 obtain ⟨Sv399,d⟩:=A9 (α:=Int) d 0 rfl 0 rfl
 refine cR s (J6 h394 d.dom (d.ins [1] (by decide) rfl) (d.envAt 3 rfl) (d.envAt 0 rfl)) (d9 call43 rfl) rfl ?_
 rintro v403 Sv400 w a h401 ⟨p396,k397,rfl,h404,h398⟩ s
 have d:=(d.callO [1] [0,2] (by decide) rfl h401 h404).addE (e:=Sq p396 k397 rv395.2.L) h398
 refine mv s rfl rfl fun a s=>?_
 obtain ⟨rv407,h406,u⟩:=bt u
 refine cR s (o6 h406 d.dom (d.ins [0] (by decide) rfl) (d.envAt 0 rfl)) (d9 call23 rfl) rfl ?_
 rintro v414 Sv411 w a h412 ⟨p408,k409,rfl,h415,h410⟩ s
 have d:=(d.callO [0] [1,2] (by decide) rfl h412 h415).addE (e:=Sq p408 k409 rv407.2.L) h410
 refine sv s (z8 (vs:=[(0,iv 2),(3,sl (ad b391) ([(w64 (1+rv380.1))]:List Int).length ([(w64 (1+rv380.1))]:List Int)),(4,iv rv395.1),(5,iv rv407.1)]) b3l rfl rfl) rfl fun a s=>?_
 refine wa Z0 s d zeroValue138 fun b417 a w s d=>?_
 refine ws [iv 2,iv 0,iv 0,iv 0,iv 0,iv 0,iv 0,sl (ad b391) ([(w64 (1+rv380.1))]:List Int).length ([(w64 (1+rv380.1))]:List Int),iv rv395.1,iv rv407.1] s d 0 rfl rfl rfl sizeOf138 fun a w s d=>?_
 refine nl (wp_seq (sn0 1 s rfl fun a s=>?_))
 obtain ⟨rv419,h418,u⟩:=bt u
 refine cR s (o6 h418 d.dom (d.ins [1] (by decide) rfl) (d.envAt 0 rfl)) (d9 call23 rfl) rfl ?_
 rintro v426 Sv423 w a h424 ⟨p420,k421,rfl,h427,h422⟩ s
 have d:=(d.callO [1] [0,2,3] (by decide) rfl h424 h427).addE (e:=Sq p420 k421 rv419.2.L) h422
 refine rz0 1 s rfl fun a s=>?_
 obtain ⟨e529,h623,u⟩:=bt u
 refine x9 (fun a w=>∃ p530 k531 c532 p533 k534 Sv535,Sl 77 [(0,pt b2),(2,pt b6),(3,pt b417)] a∧Wd ⟨w0,S0,H8 [.box b2 (C94 d1 p3 k4) 94]⟩ Sv535 [.box b2 [sl p530 k531 e529.1,iv e529.2.1] 94,.box b6 Z0 138,.box b417 [iv 2,iv 0,iv 0,iv 0,iv 0,iv 0,iv 0,sl p533 k534 e529.2.2,iv rv395.1,iv rv407.1] 138,.row p533 e529.2.2.length k534 c532 3 1] [Sq p530 k531 e529.1,Sq none 0 ([]:List Int),j6 c532 e529.2.2] w) ?_ ?_
 ·refine wp_block ?_
  have d:=d.addE (e:=SlA (α:=Int) none 0 0 []) M8
  refine u7 (fun sv429 a w=>∃ p492 k493 c494 p495 k496 Sv497,Sl 77 [(0,pt b2),(2,pt b6),(3,pt b417),(4,iv sv429.2.2.2)] a∧Wd ⟨w0,S0,H8 [.box b2 (C94 d1 p3 k4) 94]⟩ Sv497 [.box b2 [sl p492 k493 sv429.1,iv sv429.2.1] 94,.box b6 Z0 138,.box b417 [iv 2,iv 0,iv 0,iv 0,iv 0,iv 0,iv 0,sl p495 k496 sv429.2.2.1,iv rv395.1,iv rv407.1] 138,.row p495 sv429.2.2.1.length k496 c494 3 1] [Sq p492 k493 sv429.1,Sq none 0 ([]:List Int),j6 c494 sv429.2.2.1] w) (rv419.2.L,rv419.2.At,([(w64 (1+rv380.1))]:List Int),rv419.1) h623 ⟨p420,k421,[iv (w64 (1+rv380.1))],(ad b391),([(w64 (1+rv380.1))]:List Int).length,Sv423,wj s d [0,3,1,2] [1,0,6]⟩ ?_
  clear h623
  repeat clear u
  rintro sv429 a w tv527 ⟨p492,k493,c494,p495,k496,Sv497,s,d⟩ u hd526
  refine wp_seq (sz0 2 s rfl fun a s=>?_)
  refine cd s u rfl (fun u=>?_) fun u=>?_
  ·refine sk (wp_seq (wp_block (sn0 1 s rfl fun a s=>?_)))
   obtain ⟨rv564,h563,u⟩:=bt u
   refine cR s (o6 h563 d.dom (d.ins [0] (by decide) rfl) (d.envAt 0 rfl)) (d9 call23 rfl) rfl ?_
   rintro v571 Sv568 w a h569 ⟨p565,k566,rfl,h572,h567⟩ s
   have d:=(d.callO [0] [1,2,3] (by decide) rfl h569 h572).addE (e:=Sq p565 k566 rv564.2.L) h567
   refine rz0 1 s rfl fun a s=>?_
   refine wp_region_lit (mv s rfl rfl fun a s=>?_)
   refine y7 (α:=Int) (vs:=[iv rv564.1]) (cs:=[iv rv564.1]) (xs:=([rv564.1]:List Int)) s d a5w rfl rfl rfl rfl rfl rfl ⟨⟨_,rfl,rfl⟩,rfl⟩ rfl trivial rfl fun b575 a w s d=>?_
   refine rn 2 [3] s d rfl rfl fun a s=>?_
   obtain ⟨l577,h576,u⟩:=bt u
   refine I4 (α:=Int) s d a5w 0 rfl rfl rfl 0 rfl 4 rfl 4 rfl h576 rfl trivial ?_
   intro p578 k579 c580 a w s d
   refine mv s rfl rfl fun a s=>?_
   refine y7 (α:=Int) (vs:=[iv rv564.1]) (cs:=[iv rv564.1]) (xs:=([rv564.1]:List Int)) s d a5w rfl rfl rfl rfl rfl rfl ⟨⟨_,rfl,rfl⟩,rfl⟩ rfl trivial rfl fun b582 a w s d=>?_
   obtain ⟨l584,h583,u⟩:=bt u
   refine I4 (α:=Int) s d a5w 1 rfl rfl rfl 1 rfl 0 rfl 0 rfl h583 rfl trivial ?_
   intro p585 k586 c587 a w s d
   refine sv s (j5 (o':=7) runUnderlying138 rfl sizeOf22 rfl rfl rfl) rfl fun a s=>?_
   refine ws [iv 2,iv 0,iv 0,iv 0,iv 0,iv 0,iv 0,sl p585 k586 l584,iv rv395.1,iv rv407.1] s d 4 rfl rfl rfl sizeOf22 fun a w s d=>?_
   refine wpList_nil ?_
   refine l9 (tn (wp_region_lit (rn0 2 s rfl fun a s=>?_)))
   obtain ⟨i589,h588,u⟩:=bt u
   refine sv s (q8 rfl h588) rfl fun a s=>?_
   exact nl ⟨_,io u,p565,k566,c587,p585,k586,Sv568,wj s d [2,3,4,1] [4,6,0]⟩
  refine wp_exit (j4 (j4 (o9 ?_)))
  obtain rfl:=oi u
  have h590:=hd526 _ rfl
  subst h590
  exact tn ⟨p492,k493,c494,p495,k496,Sv497,wj s d [0,1,2,3] [0,1,2]⟩
 rintro a w ⟨p530,k531,c532,p533,k534,Sv535,s,d⟩
 refine tn (wp_seq (sn0 1 s rfl fun a s=>?_))
 obtain ⟨rv592,h591,u⟩:=bt u
 refine cR s (o6 h591 d.dom (d.ins [0] (by decide) rfl) (d.envAt 0 rfl)) (d9 call23 rfl) rfl ?_
 rintro v599 Sv596 w a h597 ⟨p593,k594,rfl,h600,h595⟩ s
 have d:=(d.callO [0] [1,2,3] (by decide) rfl h597 h600).addE (e:=Sq p593 k594 rv592.2.L) h595
 refine rz0 1 s rfl fun a s=>?_
 refine x9 (fun a w=>∃ (x614:(List Int)) (c610 p611 k612 Sv613:_),a3c rv395 rv407 rv592 x614=some r∧Sl 77 [(2,pt b6),(3,pt b417)] a∧Wd ⟨w0,S0,H8 [.box b2 (C94 d1 p3 k4) 94]⟩ Sv613 [.box b2 (C94 rv592.2 p593 k594) 94,.box b6 Z0 138,.box b417 [iv 2,iv 0,iv 0,iv 0,iv 0,iv 0,iv 0,sl p611 k612 x614,iv rv395.1,iv rv407.1] 138,.row p611 x614.length k612 c610 3 1] [Sq p593 k594 rv592.2.L,Sq none 0 ([]:List Int),j6 c610 x614] w) ?_ ?_
 ·refine cd s u rfl (fun u=>?_) fun u=>?_
  ·refine wp_region_lit (rn 2 [2] s d rfl rfl fun a s=>?_)
   refine y7 (α:=Int) (vs:=[iv 3]) (cs:=[iv 3]) (xs:=([3]:List Int)) s d a5w rfl rfl rfl rfl rfl rfl ⟨⟨_,rfl,rfl⟩,rfl⟩ rfl trivial rfl fun b617 a w s d=>?_
   obtain ⟨l619,h618,u⟩:=bt u
   refine I4 (α:=Int) s d a5w 4 rfl rfl rfl 4 rfl 0 rfl 0 rfl h618 rfl trivial ?_
   intro p620 k621 c622 a w s d
   refine sv s (j5 (o':=7) runUnderlying138 rfl sizeOf22 rfl rfl rfl) rfl fun a s=>?_
   refine ws [iv 2,iv 0,iv 0,iv 0,iv 0,iv 0,iv 0,sl p620 k621 l619,iv rv395.1,iv rv407.1] s d 3 rfl rfl rfl sizeOf22 fun a w s d=>?_
   exact nl ⟨l619,c622,p620,k621,Sv596,u,wj s d [1,2,3,4] [2,4,0]⟩
  exact sk ⟨e529.2.2,c532,p533,k534,Sv596,u,wj s d [0,1,2,3] [0,2,3]⟩
 rintro a w ⟨x614,c610,p611,k612,Sv613,u,s,d⟩
 refine tn (sn 1 [2] s d rfl rfl fun a s=>?_)
 refine ws [iv 2,iv 0,iv 0,iv 0,iv 0,iv 0,iv 0,sl p611 k612 x614,iv rv395.1,iv rv407.1] s d 1 rfl rfl rfl sizeOf138 fun a w s d=>?_
 refine nl ?_
 obtain rfl:=oi u
 exact wp_ret (a6w s rfl (F7 d 1 rfl rfl isAgg138 sizeOf138 rfl) (d.ret ⟨p611,k612,c610,p593,k594,rfl,(d.outs [3,0] (by decide) rfl),(d.envAt 2 rfl),(d.envAt 0 rfl)⟩))
abbrev a6I (w0:World) (X:List Nat) (b2:Nat) (r:(Response × Dice)):(Nat→Prop)→World→Value→Prop:=fun S w v=>∃ p0_0 k0_0 c0_0 pq0_0 kq0_0,v=.agg #[sl p0_0 k0_0 r.1.Stages]∧Outs X w0 S w [.row p0_0 r.1.Stages.length k0_0 c0_0 138 10,.box b2 (C94 r.2 pq0_0 kq0_0) 94]∧(j6 c0_0 r.1.Stages).p S w∧(Sq pq0_0 kq0_0 r.2.L).p S w
abbrev b2x:List Value:=[.slice none ([]:List Stage).length 0]
theorem a4b {w0 S0 b2 p3 k4 d1 r} (u:U5 d1=some r) (hS:Dm S0 w0) (hin:Ins S0 w0 [.box b2 (C94 d1 p3 k4) 94]) (h5:(Sq p3 k4 d1.L).p S0 w0):Calls Tryz.prog 46 #[pt b2] w0 (Ret (H8 [.box b2 (C94 d1 p3 k4) 94]) w0 S0 (a6I w0 (H8 [.box b2 (C94 d1 p3 k4) 94]) b2 r)):=by
 refine enI 31 func46 rfl hS hin rfl rfl rfl fun a s d=>?_
 have d:=d.addE h5
 refine sr (wa b2x s d zeroValue39 fun b6 a w s d=>?_)
 refine nl (sr (wa b2x s d zeroValue39 fun b7 a w s d=>?_))
 refine nl (sz0 1 s rfl fun a s=>?_)
 refine wp_seq (sn0 1 s rfl fun a s=>?_)
 obtain ⟨rv9,h8,u⟩:=bt u
 refine cR s (o6 h8 d.dom (d.ins [2] (by decide) rfl) (d.envAt 0 rfl)) (d9 call23 rfl) rfl ?_
 rintro v16 Sv13 w a h14 ⟨p10,k11,rfl,h17,h12⟩ s
 have d:=(d.callO [2] [0,1] (by decide) rfl h14 h17).addE (e:=Sq p10 k11 rv9.2.L) h12
 refine rz0 1 s rfl fun a s=>?_
 obtain ⟨e134,h212,u⟩:=bt u
 refine x9 (fun a w=>∃ p135 k136 c137 p138 k139 Sv140,Sl 31 [(2,pt b6),(3,pt b7)] a∧Wd ⟨w0,S0,H8 [.box b2 (C94 d1 p3 k4) 94]⟩ Sv140 [.box b2 [sl p135 k136 e134.1,iv e134.2.1] 94,.box b6 b2x 39,.box b7 [sl p138 k139 e134.2.2] 39,.row p138 e134.2.2.length k139 c137 138 10] [Sq p135 k136 e134.1,Sq none 0 ([]:List Stage),j6 c137 e134.2.2] w) ?_ ?_
 ·refine wp_block ?_
  have d:=(d.nilRow Stage 138).addE (e:=SlA (α:=Stage) none 0 0 []) M8
  refine u7 (fun sv19 a w=>∃ p92 k93 c94 p95 k96 Sv97,Sl 31 [(0,pt b2),(2,pt b6),(3,pt b7),(4,iv sv19.2.2.2.1),(5,iv sv19.2.2.2.2)] a∧Wd ⟨w0,S0,H8 [.box b2 (C94 d1 p3 k4) 94]⟩ Sv97 [.box b2 [sl p92 k93 sv19.1,iv sv19.2.1] 94,.box b6 b2x 39,.box b7 [sl p95 k96 sv19.2.2.1] 39,.row p95 sv19.2.2.1.length k96 c94 138 10] [Sq p92 k93 sv19.1,Sq none 0 ([]:List Stage),j6 c94 sv19.2.2.1] w) (rv9.2.L,rv9.2.At,([]:List Stage),1,rv9.1) h212 ⟨p10,k11,[],none,0,Sv13,wj s d [1,3,2,0] [2,0,1]⟩ ?_
  clear h212
  repeat clear u
  rintro sv19 a w tv132 ⟨p92,k93,c94,p95,k96,Sv97,s,d⟩ u hd131
  refine wp_seq (sz0 2 s rfl fun a s=>?_)
  refine cd s u rfl (fun u=>?_) fun u=>?_
  ·refine sk (wp_seq (wp_block (sn0 1 s rfl fun a s=>?_)))
   obtain ⟨rv174,h173,u⟩:=bt u
   refine cR s (a8i h173 d.dom (d.ins [0] (by decide) rfl) (d.envAt 0 rfl)) (d9 call84 rfl) rfl ?_
   rintro v185 Sv182 w a h183 ⟨p175,k176,c178,p179,k180,rfl,h186,h177,h181⟩ s
   have d:=((d.callO [0] [1,2,3] (by decide) rfl h183 h186).addE (e:=j6 c178 rv174.1.Taps) h177).addE (e:=Sq p179 k180 rv174.2.L) h181
   refine wa Z0 s d zeroValue138 fun b188 a w s d=>?_
   refine ws (a1y rv174.1 p175 k176) s d 0 rfl rfl rfl sizeOf138 fun a w s d=>?_
   refine nl (wp_seq (sz 3 [0] s d rfl rfl fun a s=>?_))
   refine x9 (fun a w=>∃ (n194:Int) (Sv193:_),U1 sv19 rv174 n194=some tv132∧Sl 31 [(0,pt b2),(2,pt b6),(3,pt b7),(4,iv n194),(5,iv sv19.2.2.2.2),(6,pt b188)] a∧Wd ⟨w0,S0,H8 [.box b2 (C94 d1 p3 k4) 94]⟩ Sv193 [.box b2 (C94 rv174.2 p179 k180) 94,.box b6 b2x 39,.box b7 [sl p95 k96 sv19.2.2.1] 39,.box b188 (a1y rv174.1 p175 k176) 138,.row p95 sv19.2.2.1.length k96 c94 138 10,.row p175 rv174.1.Taps.length k176 c178 3 1] [Sq p179 k180 rv174.2.L,Sq none 0 ([]:List Stage),j6 c94 sv19.2.2.1,j6 c178 rv174.1.Taps] w) ?_ ?_
   ·refine cd s u rfl (fun u=>?_) fun u=>?_
    ·refine sn 4 [0] s d rfl rfl fun a s=>?_
     obtain ⟨n207,h206,u⟩:=bt u
     refine sv s (q8 rfl h206) rfl fun a s=>?_
     refine nl (sz0 2 s rfl fun a s=>?_)
     refine cd s u rfl (fun u=>?_) fun u=>?_
     ·refine wp_exit (j4 (j4 (b4B rfl (j4 (j4 (o9 ?_))))))
      obtain rfl:=oi u
      have h210:=hd131 _ rfl
      subst h210
      exact tn ⟨p179,k180,c94,p95,k96,Sv182,wj s d [2,3,4,5] [0,3,4]⟩
     exact sk ⟨n207,Sv182,u,wj s d [2,3,4,0,5,1] [0,3,4,1]⟩
    exact sk ⟨sv19.2.2.2.1,Sv182,u,wj s d [2,3,4,0,5,1] [0,3,4,1]⟩
   rintro a w ⟨n194,Sv193,u,s,d⟩
   refine tn (wp_region_lit (rn 3 [2,3] s d rfl rfl fun a s=>?_))
   obtain ⟨Sv197,d⟩:=A9 (α:=Int) d 5 rfl 3 rfl
   refine y7 (α:=Stage) (vs:=[V138 rv174.1 p175 k176]) (cs:=(a1y rv174.1 p175 k176)) (xs:=([rv174.1]:List Stage)) s d El37 rfl rfl rfl rfl rfl rfl ⟨⟨_,_,_,_,_,_,_,_,_,_,rfl,rfl,rfl,rfl,rfl,rfl,rfl,rfl,⟨_,_,_,rfl,d.envAt 0 rfl⟩,rfl,rfl⟩,rfl⟩ rfl trivial rfl fun b196 a w s d=>?_
   obtain ⟨l199,h198,u⟩:=bt u
   refine I4 (α:=Stage) s d El37 5 rfl rfl rfl 4 rfl 0 rfl 0 rfl h198 rfl trivial ?_
   intro p200 k201 c202 a w s d
   refine sv s (j5 (o':=0) runUnderlying39 rfl sizeOf37 rfl rfl rfl) rfl fun a s=>?_
   refine ws [sl p200 k201 l199] s d 3 rfl rfl rfl sizeOf37 fun a w s d=>?_
   refine wpList_nil ?_
   refine l9 (tn (wp_region_lit (rn0 2 s rfl fun a s=>?_)))
   obtain ⟨i204,h203,u⟩:=bt u
   refine sv s (q8 rfl h203) rfl fun a s=>?_
   exact nl ⟨_,io u,p179,k180,c202,p200,k201,Sv197,wj s d [1,2,3,5] [3,4,0]⟩
  refine wp_exit (j4 (j4 (o9 ?_)))
  obtain rfl:=oi u
  have h211:=hd131 _ rfl
  subst h211
  exact tn ⟨p92,k93,c94,p95,k96,Sv97,wj s d [0,1,2,3] [0,1,2]⟩
 rintro a w ⟨p135,k136,c137,p138,k139,Sv140,s,d⟩
 refine tn (sn 1 [2] s d rfl rfl fun a s=>?_)
 refine ws [sl p138 k139 e134.2.2] s d 1 rfl rfl rfl sizeOf39 fun a w s d=>?_
 refine nl ?_
 obtain rfl:=oi u
 exact wp_ret (a6w s rfl (F7 d 1 rfl rfl isAgg39 sizeOf39 rfl) (d.ret ⟨p138,k139,c137,p135,k136,rfl,(d.outs [3,0] (by decide) rfl),(d.envAt 2 rfl),(d.envAt 0 rfl)⟩))
abbrev a8h (w0:World) (X:List Nat) (b2:Nat) (r:(Epoch × Dice)):(Nat→Prop)→World→Value→Prop:=fun S w v=>∃ p0_7 k0_7 c0_7 pq0_0 kq0_0,v=V41 r.1 p0_7 k0_7∧Outs X w0 S w [.row p0_7 r.1.Response.Stages.length k0_7 c0_7 138 10,.box b2 (C94 r.2 pq0_0 kq0_0) 94]∧(j6 c0_7 r.1.Response.Stages).p S w∧(Sq pq0_0 kq0_0 r.2.L).p S w
abbrev D44t1 (b2:Nat) (b31:Nat) (b6:Nat) (fromv19:Int):C8:=[(0,pt b2),(2,pt b6),(3,iv fromv19),(4,pt b31)]
abbrev D44t2 (b2:Nat) (b38:Nat) (b50:Nat) (b56:Nat) (fromv19:Int) (rv21:(Rate × Dice)) (rv33:(Int × Dice)) (rv40:(Int × Dice)) (rv45:(Int × Dice)) (rv52:(Int × Dice)):Vs:=[(0,12,iv fromv19),(1,13,iv fromv19),(2,14,pt b2),(3,15,iv rv33.1),(4,16,iv (w64 (1+rv33.1))),(5,17,iv (w64 (1000 * (w64 (1+rv33.1))))),(6,18,iv (w64 (fromv19+(w64 (1000 * (w64 (1+rv33.1))))))),(7,19,V34 rv21.1),(8,20,pt b2),(9,21,sl (ad b38) ([0,500,(-1048576),1048576]:List Int).length ([0,500,(-1048576),1048576]:List Int)),(10,22,iv rv40.1),(11,23,pt b2),(12,24,iv rv45.1),(13,25,pt b2),(14,26,sl (ad b50) ([0,(-200),(-16384)]:List Int).length ([0,(-200),(-16384)]:List Int)),(15,27,iv rv52.1),(16,28,.agg #[iv rv40.1,iv rv45.1,iv rv52.1]),(17,29,.agg #[iv fromv19,iv (w64 (fromv19+(w64 (1000 * (w64 (1+rv33.1)))))),iv rv21.1.Num,iv rv21.1.Den,iv rv40.1,iv rv45.1,iv rv52.1,.slice none ([]:List Stage).length 0]),(18,5,pt b56)]
abbrev D44t3:List Value:=Z16
abbrev D44t4:List Int:=([0,500,(-1048576),1048576]:List Int)
abbrev D44t5:List Value:=Z17
abbrev D44t6:List Int:=([0,(-200),(-16384)]:List Int)
abbrev b2w (fromv19:Int) (rv33:(Int × Dice)) (rv21:(Rate × Dice)) (rv40:(Int × Dice)) (rv45:(Int × Dice)) (rv52:(Int × Dice)):List Value:=[iv fromv19,iv (w64 (fromv19+(w64 (1000 * (w64 (1+rv33.1)))))),iv rv21.1.Num,iv rv21.1.Den,iv rv40.1,iv rv45.1,iv rv52.1,.slice none ([]:List Stage).length 0]
abbrev a5m:List Int:=([0,500,(-1048576),1048576]:List Int)
theorem a8g {w0 S0 b2 p3 k4 d1 r} (u:a2Q d1=some r) (hS:Dm S0 w0) (hin:Ins S0 w0 [.box b2 (C94 d1 p3 k4) 94]) (h5:(Sq p3 k4 d1.L).p S0 w0):Calls Tryz.prog 44 #[pt b2] w0 (Ret (H8 [.box b2 (C94 d1 p3 k4) 94]) w0 S0 (a8h w0 (H8 [.box b2 (C94 d1 p3 k4) 94]) b2 r)):=by
 refine enI 37 func44 rfl hS hin rfl rfl rfl fun a s d=>?_
 have d:=d.addE h5
 refine sr (wa Z1 s d zeroValue41 fun b6 a w s d=>?_)
 refine nl (sn0 1 s rfl fun a s=>?_)
 obtain ⟨rv8,h7,u⟩:=bt u
 refine cR s (o6 h7 d.dom (d.ins [1] (by decide) rfl) (d.envAt 0 rfl)) (d9 call23 rfl) rfl ?_
 rintro v15 Sv12 w a h13 ⟨p9,k10,rfl,h16,h11⟩ s
 have d:=(d.callO [1] [0] (by decide) rfl h13 h16).addE (e:=Sq p9 k10 rv8.2.L) h11
 refine rn0 2 s rfl fun a s=>?_
 obtain ⟨fromv19,h18,u⟩:=bt u
 refine sv s (q8 rfl h18) rfl fun a s=>?_
 refine nl (sn0 1 s rfl fun a s=>?_)
 obtain ⟨rv21,h20,u⟩:=bt u
 refine cR s (a8M h20 d.dom (d.ins [0] (by decide) rfl) (d.envAt 0 rfl)) (d9 call82 rfl) rfl ?_
 rintro v28 Sv25 w a h26 ⟨p22,k23,rfl,h29,h24⟩ s
 have d:=(d.callO [0] [1] (by decide) rfl h26 h29).addE (e:=Sq p22 k23 rv21.2.L) h24
 refine wa [iv 0,iv 0] s d zeroValue34 fun b31 a w s d=>?_
 refine ws (C34 rv21.1) s d 0 rfl rfl rfl sizeOf34 fun a w s d=>?_
 refine nl (wp_seq ?_)
 obtain ⟨rv33,h32,u⟩:=bt u
 obtain ⟨rv40,h39,u⟩:=bt u
 obtain ⟨rv45,h44,u⟩:=bt u
 obtain ⟨rv52,h51,u⟩:=bt u
 refine y9 (fun a w=>∃ Sv57 b56 k54 p53,Sl 37 [(0,pt b2),(2,pt b6),(5,pt b56)] a∧Wd ⟨w0,S0,H8 [.box b2 (C94 d1 p3 k4) 94]⟩ Sv57 [.box b2 (C94 rv52.2 p53 k54) 94,.box b6 Z1 41,.box b56 (b2w fromv19 rv33 rv21 rv40 rv45 rv52) 41] [Sq p53 k54 rv52.2.L,Sq none 0 ([]:List Stage)] w) ?_ ?_
 ·refine a7Z (n:=20) (Φ:=fun l a w=>∃ b38 b50 b56 k35 k42 k47 k54 p34 p41 p46 p53 S,SlF 37 (D44t1 b2 b31 b6 fromv19) (D44t2 b2 b38 b50 b56 fromv19 rv21 rv33 rv40 rv45 rv52) l a∧Wd ⟨w0,S0,H8 [.box b2 (C94 d1 p3 k4) 94]⟩ S [.box b31 (C34 rv21.1) 34,((bif l 15 then .box b2 (C94 rv52.2 p53 k54) 94 else (bif l 12 then .box b2 (C94 rv45.2 p46 k47) 94 else (bif l 10 then .box b2 (C94 rv40.2 p41 k42) 94 else (bif l 3 then .box b2 (C94 rv33.2 p34 k35) 94 else .box b2 (C94 rv21.2 p22 k23) 94)))):Res),.box b6 Z1 41,((bif l 10 then emp else (bif l 9 then .row (ad b38) a5m.length a5m.length Z16 3 1 else emp)):Res),((bif l 15 then emp else (bif l 14 then .row (ad b50) ([0,(-200),(-16384)]:List Int).length ([0,(-200),(-16384)]:List Int).length Z17 3 1 else emp)):Res),((bif l 19 then .box b56 (b2w fromv19 rv33 rv21 rv40 rv45 rv52) 41 else (bif l 18 then .box b56 Z1 41 else emp)):Res)] [Sq p22 k23 rv21.2.L,Sq p9 k10 rv8.2.L,Sq p3 k4 d1.L,a5A (l 3) (Sq p34 k35 rv33.2.L),a5A (l 9) (j6 Z16 a5m),a5A (l 10) (Sq (ad b38) a5m.length a5m),a5A (l 10) (Sq p41 k42 rv40.2.L),a5A (l 12) (Sq p46 k47 rv45.2.L),a5A (l 14) (j6 Z17 ([0,(-200),(-16384)]:List Int)),a5A (l 15) (Sq (ad b50) ([0,(-200),(-16384)]:List Int).length ([0,(-200),(-16384)]:List Int)),a5A (l 15) (Sq p53 k54 rv52.2.L)] w) [1,1,1,2,3,4,5,1,1,1,3,1,4,1,1,5,6,7,1,8] (by kernel_rfl) rfl (by kernel_rfl) ?_ (Y1.succ (Y1.succ (Y1.succ (Y1.succ (Y1.succ (Y1.succ (Y1.succ (Y1.succ (Y1.succ (Y1.succ (Y1.succ (Y1.succ (Y1.succ (Y1.succ (Y1.succ (Y1.succ (Y1.succ (Y1.succ (Y1.succ (Y1.succ Y1.zero ?_) ?_) ?_) ?_) ?_) ?_) ?_) ?_) ?_) ?_) ?_) ?_) ?_) ?_) ?_) ?_) ?_) ?_) ?_) ?_) ?_
  ·obtain ⟨b38,b50,b56,k35,k42,k47,k54,p34,p41,p46,p53,_⟩:∃ (b38:Nat) (b50:Nat) (b56:Nat) (k35:Nat) (k42:Nat) (k47:Nat) (k54:Nat) (p34:Option Addr) (p41:Option Addr) (p46:Option Addr) (p53:Option Addr),True:=⟨0,0,0,0,0,0,0,none,none,none,none,trivial⟩
   have d:=((d.drew).emp).emp
   have d:=((d.emp).noE (Sq p53 k54 rv52.2.L)).noE (Sq (ad b50) ([0,(-200),(-16384)]:List Int).length ([0,(-200),(-16384)]:List Int))
   have d:=((d.noE (j6 Z17 ([0,(-200),(-16384)]:List Int))).noE (Sq p46 k47 rv45.2.L)).noE (Sq p41 k42 rv40.2.L)
   have d:=((d.noE (Sq (ad b38) a5m.length a5m)).noE (j6 Z16 a5m)).noE (Sq p34 k35 rv33.2.L)
   exact ⟨b38,b50,b56,k35,k42,k47,k54,p34,p41,p46,p53,Sv25,SlF.init (s.wk rfl) (by kernel_rfl),d.gt [3,4,5,0,1,2] [8,9,10,0,1,2,3,4,5,6,7] rfl rfl⟩
  ·intro l hi hp hc a w ⟨b38,b50,b56,k35,k42,k47,k54,p34,p41,p46,p53,S,hS,d⟩
   refine a1z hS (.b (t:=3) rfl .nil) rfl rfl trivial (X3 rfl) (rfl) 0 rfl fun a hS=>⟨b38,b50,b56,k35,k42,k47,k54,p34,p41,p46,p53,S,hS,d⟩
  ·intro l hi hp hc a w ⟨b38,b50,b56,k35,k42,k47,k54,p34,p41,p46,p53,S,hS,d⟩
   refine a1z hS (.b (t:=3) rfl .nil) rfl rfl trivial (X3 rfl) (rfl) 1 rfl fun a hS=>⟨b38,b50,b56,k35,k42,k47,k54,p34,p41,p46,p53,S,hS,d⟩
  ·intro l hi hp hc a w ⟨b38,b50,b56,k35,k42,k47,k54,p34,p41,p46,p53,S,hS,d⟩
   refine a1z hS (.b (t:=0) rfl .nil) rfl rfl trivial (X3 rfl) (rfl) 2 rfl fun a hS=>⟨b38,b50,b56,k35,k42,k47,k54,p34,p41,p46,p53,S,hS,d⟩
  ·intro l hi hp hc a w ⟨b38,b50,b56,k35,k42,k47,k54,p34,p41,p46,p53,S,hS,d⟩
   have h_10:=a3A hc 10 hi rfl
   have h_12:=a3A hc 12 h_10 rfl
   have h_15:=a3A hc 15 h_12 rfl
   have d:=d.fixR 1 (r':=.box b2 (C94 rv21.2 p22 k23) 94) rfl ((bF h_15).trans ((bF h_12).trans ((bF h_10).trans ((bF hi)))))
   have h_2:=hp 2 rfl
   refine a4y rfl ?_
   have s:=hS.open_ (.v (t:=14) 2 rfl h_2 .nil)
   refine cR s (o6 h32 d.dom (d.ins [1] (by decide) rfl) (d.envAt 0 rfl)) (d9 call23 rfl) rfl ?_
   rintro v93 Sv90 w a h91 ⟨p34,k35,rfl,h94,h36⟩ s
   have d:=((d.callO [1] [0,2,3,4,5] (by decide) rfl h91 h94).addE (e:=Sq p34 k35 rv33.2.L) h36).fixR 0 (r':=(bif l 15 then .box b2 (C94 rv52.2 p53 k54) 94 else (bif l 12 then .box b2 (C94 rv45.2 p46 k47) 94 else (bif l 10 then .box b2 (C94 rv40.2 p41 k42) 94 else .box b2 (C94 rv33.2 p34 k35) 94)))) rfl ((bF h_15).trans ((bF h_12).trans ((bF h_10)))).symm
   have d:=d.opt 0 rfl true
   exact nl ⟨b38,b50,b56,k35,k42,k47,k54,p34,p41,p46,p53,Sv90,hS.close (.v (t:=14) 2 rfl h_2 .nil) s rfl (.same (.same (.same (.here (.same (.same (.same (.same (.same (.same (.same (.same (.same (.same (.same (.same (.same (.same (.same .nil))))))))))))))))))) 3 rfl,d.gt [1,0,2,3,4,5] [2,3,4,0,6,7,8,9,10,11,12] rfl rfl⟩
  ·intro l hi hp hc a w ⟨b38,b50,b56,k35,k42,k47,k54,p34,p41,p46,p53,S,hS,d⟩
   have h_3:=hp 3 rfl
   refine a1z hS (.v (t:=15) 3 rfl h_3 .nil) rfl rfl trivial (b0X rfl rfl) (rfl) 4 rfl fun a hS=>⟨b38,b50,b56,k35,k42,k47,k54,p34,p41,p46,p53,S,hS,d⟩
  ·intro l hi hp hc a w ⟨b38,b50,b56,k35,k42,k47,k54,p34,p41,p46,p53,S,hS,d⟩
   have h_4:=hp 4 rfl
   refine a1z hS (.v (t:=16) 4 rfl h_4 .nil) rfl rfl trivial (y_mul rfl rfl) (rfl) 5 rfl fun a hS=>⟨b38,b50,b56,k35,k42,k47,k54,p34,p41,p46,p53,S,hS,d⟩
  ·intro l hi hp hc a w ⟨b38,b50,b56,k35,k42,k47,k54,p34,p41,p46,p53,S,hS,d⟩
   have h_5:=hp 5 rfl
   have h_1:=hp 1 rfl
   refine a1z hS (.v (t:=13) 1 rfl h_1 (.v (t:=17) 5 rfl h_5 .nil)) rfl rfl trivial (b0X rfl rfl) (rfl) 6 rfl fun a hS=>⟨b38,b50,b56,k35,k42,k47,k54,p34,p41,p46,p53,S,hS,d⟩
  ·intro l hi hp hc a w ⟨b38,b50,b56,k35,k42,k47,k54,p34,p41,p46,p53,S,hS,d⟩
   refine a1z hS (.b (t:=4) rfl .nil) rfl rfl trivial (a1a (d.ownAt 0 rfl) rfl isAgg34 sizeOf34 rfl rfl) (rfl) 7 rfl fun a hS=>⟨b38,b50,b56,k35,k42,k47,k54,p34,p41,p46,p53,S,hS,d⟩
  ·intro l hi hp hc a w ⟨b38,b50,b56,k35,k42,k47,k54,p34,p41,p46,p53,S,hS,d⟩
   refine a1z hS (.b (t:=0) rfl .nil) rfl rfl trivial (X3 rfl) (rfl) 8 rfl fun a hS=>⟨b38,b50,b56,k35,k42,k47,k54,p34,p41,p46,p53,S,hS,d⟩
  ·intro l hi hp hc a w ⟨b38,b50,b56,k35,k42,k47,k54,p34,p41,p46,p53,S,hS,d⟩
   refine a4y rfl ?_
   have s:=hS.open_ .nil
   refine y7 (α:=Int) (vs:=D44t3) (cs:=D44t3) (xs:=D44t4) s d a5w rfl rfl rfl rfl rfl rfl ⟨⟨_,rfl,rfl⟩,⟨⟨_,rfl,rfl⟩,⟨⟨_,rfl,rfl⟩,⟨⟨_,rfl,rfl⟩,rfl⟩⟩⟩⟩ rfl trivial rfl fun b38 a w s d=>?_
   have h_10:=a3A hc 10 hi rfl
   have d:=((d.fixR 0 (r':=(bif l 10 then emp else .row (ad b38) a5m.length a5m.length Z16 3 1)) rfl ((bF h_10)).symm).opt 0 rfl true).noL h_10 (Sq (ad b38) a5m.length a5m)
   exact nl ⟨b38,b50,b56,k35,k42,k47,k54,p34,p41,p46,p53,S,hS.close .nil s rfl (.same (.same (.same (.same (.same (.same (.same (.same (.same (.here (.same (.same (.same (.same (.same (.same (.same (.same (.same .nil))))))))))))))))))) 9 rfl,d.gt [1,2,3,0,5,6] [3,4,5,6,1,0,9,10,11,12,13] rfl rfl⟩
  ·intro l hi hp hc a w ⟨b38,b50,b56,k35,k42,k47,k54,p34,p41,p46,p53,S,hS,d⟩
   have h_12:=a3A hc 12 hi rfl
   have h_15:=a3A hc 15 h_12 rfl
   have h_3:=hp 3 rfl
   have d:=d.fixR 1 (r':=.box b2 (C94 rv33.2 p34 k35) 94) rfl ((bF h_15).trans ((bF h_12).trans ((bF hi).trans ((bT h_3)))))
   have h_9:=hp 9 rfl
   have d:=((d.fixR 3 (r':=.row (ad b38) a5m.length a5m.length Z16 3 1) rfl ((bF hi).trans ((bT h_9)))).yes 3 rfl h_3).yes 5 rfl h_9
   have h_8:=hp 8 rfl
   refine a4y rfl ?_
   have s:=hS.open_ (.v (t:=20) 8 rfl h_8 (.v (t:=21) 9 rfl h_9 .nil))
   obtain ⟨Sv103,d⟩:=A9 (α:=Int) d 3 rfl 0 rfl
   refine cR s (J6 h39 d.dom (d.ins [1] (by decide) rfl) (d.envAt 2 rfl) (d.envAt 0 rfl)) (d9 call43 rfl) rfl ?_
   rintro v107 Sv104 w a h105 ⟨p41,k42,rfl,h108,h43⟩ s
   have d:=((d.callO [1] [0,2,3,4] (by decide) rfl h105 h108).addE (e:=Sq p41 k42 rv40.2.L) h43).fixR 0 (r':=(bif l 15 then .box b2 (C94 rv52.2 p53 k54) 94 else (bif l 12 then .box b2 (C94 rv45.2 p46 k47) 94 else .box b2 (C94 rv40.2 p41 k42) 94))) rfl ((bF h_15).trans ((bF h_12))).symm
   have d:=((d.emp).opt 1 rfl true).opt 1 rfl true
   exact nl ⟨b38,b50,b56,k35,k42,k47,k54,p34,p41,p46,p53,Sv104,hS.close (.v (t:=20) 8 rfl h_8 (.v (t:=21) 9 rfl h_9 .nil)) s rfl (.same (.same (.same (.same (.same (.same (.same (.same (.same (.same (.here (.same (.same (.same (.same (.same (.same (.same (.same .nil))))))))))))))))))) 10 rfl,d.gt [2,1,3,0,4,5] [6,7,8,9,10,1,0,13,14,15,16] rfl rfl⟩
  ·intro l hi hp hc a w ⟨b38,b50,b56,k35,k42,k47,k54,p34,p41,p46,p53,S,hS,d⟩
   refine a1z hS (.b (t:=0) rfl .nil) rfl rfl trivial (X3 rfl) (rfl) 11 rfl fun a hS=>⟨b38,b50,b56,k35,k42,k47,k54,p34,p41,p46,p53,S,hS,d⟩
  ·intro l hi hp hc a w ⟨b38,b50,b56,k35,k42,k47,k54,p34,p41,p46,p53,S,hS,d⟩
   have h_15:=a3A hc 15 hi rfl
   have h_10:=hp 10 rfl
   have d:=(d.fixR 1 (r':=.box b2 (C94 rv40.2 p41 k42) 94) rfl ((bF h_15).trans ((bF hi).trans ((bT h_10))))).yes 6 rfl h_10
   have h_11:=hp 11 rfl
   refine a4y rfl ?_
   have s:=hS.open_ (.v (t:=23) 11 rfl h_11 .nil)
   refine cR s (o6 h44 d.dom (d.ins [1] (by decide) rfl) (d.envAt 0 rfl)) (d9 call23 rfl) rfl ?_
   rintro v119 Sv116 w a h117 ⟨p46,k47,rfl,h120,h48⟩ s
   have d:=((d.callO [1] [0,2,3,4,5] (by decide) rfl h117 h120).addE (e:=Sq p46 k47 rv45.2.L) h48).fixR 0 (r':=(bif l 15 then .box b2 (C94 rv52.2 p53 k54) 94 else .box b2 (C94 rv45.2 p46 k47) 94)) rfl ((bF h_15)).symm
   have d:=d.opt 0 rfl true
   exact nl ⟨b38,b50,b56,k35,k42,k47,k54,p34,p41,p46,p53,Sv116,hS.close (.v (t:=23) 11 rfl h_11 .nil) s rfl (.same (.same (.same (.same (.same (.same (.same (.same (.same (.same (.same (.same (.here (.same (.same (.same (.same (.same (.same .nil))))))))))))))))))) 12 rfl,d.gt [1,0,2,3,4,5] [3,4,5,6,7,8,9,0,11,12,13] rfl rfl⟩
  ·intro l hi hp hc a w ⟨b38,b50,b56,k35,k42,k47,k54,p34,p41,p46,p53,S,hS,d⟩
   refine a1z hS (.b (t:=0) rfl .nil) rfl rfl trivial (X3 rfl) (rfl) 13 rfl fun a hS=>⟨b38,b50,b56,k35,k42,k47,k54,p34,p41,p46,p53,S,hS,d⟩
  ·intro l hi hp hc a w ⟨b38,b50,b56,k35,k42,k47,k54,p34,p41,p46,p53,S,hS,d⟩
   refine a4y rfl ?_
   have s:=hS.open_ .nil
   refine y7 (α:=Int) (vs:=D44t5) (cs:=D44t5) (xs:=D44t6) s d a5w rfl rfl rfl rfl rfl rfl ⟨⟨_,rfl,rfl⟩,⟨⟨_,rfl,rfl⟩,⟨⟨_,rfl,rfl⟩,rfl⟩⟩⟩ rfl trivial rfl fun b50 a w s d=>?_
   have h_15:=a3A hc 15 hi rfl
   have d:=((d.fixR 0 (r':=(bif l 15 then emp else .row (ad b50) ([0,(-200),(-16384)]:List Int).length ([0,(-200),(-16384)]:List Int).length Z17 3 1)) rfl ((bF h_15)).symm).opt 0 rfl true).noL h_15 (Sq (ad b50) ([0,(-200),(-16384)]:List Int).length ([0,(-200),(-16384)]:List Int))
   exact nl ⟨b38,b50,b56,k35,k42,k47,k54,p34,p41,p46,p53,S,hS.close .nil s rfl (.same (.same (.same (.same (.same (.same (.same (.same (.same (.same (.same (.same (.same (.same (.here (.same (.same (.same (.same .nil))))))))))))))))))) 14 rfl,d.gt [1,2,3,4,0,6] [3,4,5,6,7,8,9,10,1,0,13] rfl rfl⟩
  ·intro l hi hp hc a w ⟨b38,b50,b56,k35,k42,k47,k54,p34,p41,p46,p53,S,hS,d⟩
   have h_12:=hp 12 rfl
   have d:=d.fixR 1 (r':=.box b2 (C94 rv45.2 p46 k47) 94) rfl ((bF hi).trans ((bT h_12)))
   have h_14:=hp 14 rfl
   have d:=((d.fixR 4 (r':=.row (ad b50) ([0,(-200),(-16384)]:List Int).length ([0,(-200),(-16384)]:List Int).length Z17 3 1) rfl ((bF hi).trans ((bT h_14)))).yes 7 rfl h_12).yes 9 rfl h_14
   have h_13:=hp 13 rfl
   refine a4y rfl ?_
   have s:=hS.open_ (.v (t:=25) 13 rfl h_13 (.v (t:=26) 14 rfl h_14 .nil))
   obtain ⟨Sv129,d⟩:=A9 (α:=Int) d 4 rfl 0 rfl
   refine cR s (J6 h51 d.dom (d.ins [1] (by decide) rfl) (d.envAt 2 rfl) (d.envAt 0 rfl)) (d9 call43 rfl) rfl ?_
   rintro v133 Sv130 w a h131 ⟨p53,k54,rfl,h134,h55⟩ s
   have d:=((d.callO [1] [0,2,3,4] (by decide) rfl h131 h134).addE (e:=Sq p53 k54 rv52.2.L) h55).emp
   have d:=(d.opt 1 rfl true).opt 1 rfl true
   exact nl ⟨b38,b50,b56,k35,k42,k47,k54,p34,p41,p46,p53,Sv130,hS.close (.v (t:=25) 13 rfl h_13 (.v (t:=26) 14 rfl h_14 .nil)) s rfl (.same (.same (.same (.same (.same (.same (.same (.same (.same (.same (.same (.same (.same (.same (.same (.here (.same (.same (.same .nil))))))))))))))))))) 15 rfl,d.gt [2,1,3,4,0,5] [6,7,8,9,10,11,12,13,14,1,0] rfl rfl⟩
  ·intro l hi hp hc a w ⟨b38,b50,b56,k35,k42,k47,k54,p34,p41,p46,p53,S,hS,d⟩
   have h_15:=hp 15 rfl
   have h_12:=hp 12 rfl
   have h_10:=hp 10 rfl
   refine a1z hS (.v (t:=22) 10 rfl h_10 (.v (t:=24) 12 rfl h_12 (.v (t:=27) 15 rfl h_15 .nil))) rfl rfl trivial (z8 (vs:=[(0,iv rv40.1),(1,iv rv45.1),(2,iv rv52.1)]) Bld36 rfl rfl) (rfl) 16 rfl fun a hS=>⟨b38,b50,b56,k35,k42,k47,k54,p34,p41,p46,p53,S,hS,d⟩
  ·intro l hi hp hc a w ⟨b38,b50,b56,k35,k42,k47,k54,p34,p41,p46,p53,S,hS,d⟩
   have h_16:=hp 16 rfl
   have h_7:=hp 7 rfl
   have h_6:=hp 6 rfl
   have h_0:=hp 0 rfl
   refine a1z hS (.v (t:=12) 0 rfl h_0 (.v (t:=18) 6 rfl h_6 (.v (t:=19) 7 rfl h_7 (.v (t:=28) 16 rfl h_16 .nil)))) rfl rfl trivial (z8 (vs:=[(0,iv fromv19),(1,iv (w64 (fromv19+(w64 (1000 * (w64 (1+rv33.1))))))),(2,V34 rv21.1),(3,.agg #[iv rv40.1,iv rv45.1,iv rv52.1])]) Bld41 rfl rfl) (rfl) 17 rfl fun a hS=>⟨b38,b50,b56,k35,k42,k47,k54,p34,p41,p46,p53,S,hS,d⟩
  ·intro l hi hp hc a w ⟨b38,b50,b56,k35,k42,k47,k54,p34,p41,p46,p53,S,hS,d⟩
   refine a4y rfl ?_
   have s:=hS.open_ .nil
   refine wa Z1 s d zeroValue41 fun b56 a w s d=>?_
   have h_19:=a3A hc 19 hi rfl
   have d:=d.fixR 0 (r':=(bif l 19 then .box b56 (b2w fromv19 rv33 rv21 rv40 rv45 rv52) 41 else .box b56 Z1 41)) rfl ((bF h_19)).symm
   exact nl ⟨b38,b50,b56,k35,k42,k47,k54,p34,p41,p46,p53,S,hS.close .nil s rfl (.same (.same (.same (.same (.same (.same (.same (.same (.same (.same (.same (.same (.same (.same (.same (.same (.same (.same (.here .nil))))))))))))))))))) 18 rfl,d.gt [1,2,3,4,5,0] [0,1,2,3,4,5,6,7,8,9,10] rfl rfl⟩
  ·intro l hi hp hc a w ⟨b38,b50,b56,k35,k42,k47,k54,p34,p41,p46,p53,S,hS,d⟩
   have h_18:=hp 18 rfl
   have d:=d.fixR 5 (r':=.box b56 Z1 41) rfl ((bF hi).trans ((bT h_18)))
   have h_17:=hp 17 rfl
   refine a4y rfl ?_
   have s:=hS.open_ (.v (t:=5) 18 rfl h_18 (.v (t:=29) 17 rfl h_17 .nil))
   refine ws (b2w fromv19 rv33 rv21 rv40 rv45 rv52) s d 5 rfl rfl rfl sizeOf41 fun a w s d=>?_
   exact nl ⟨b38,b50,b56,k35,k42,k47,k54,p34,p41,p46,p53,S,hS.close0 (.v (t:=5) 18 rfl h_18 (.v (t:=29) 17 rfl h_17 .nil)) s rfl,d.gt [0,1,2,3,4,5] [0,1,2,3,4,5,6,7,8,9,10] rfl rfl⟩
  intro l a w hl ⟨b38,b50,b56,k35,k42,k47,k54,p34,p41,p46,p53,S,hS,d⟩
  have d:=((d.yes 10 rfl (hl 15 (by decide))).fixR 1 (r':=.box b2 (C94 rv52.2 p53 k54) 94) rfl (bT (hl 15 (by decide)))).fixR 5 (r':=.box b56 (b2w fromv19 rv33 rv21 rv40 rv45 rv52) 41) rfl (bT (hl 19 (by decide)))
  have s:=hS.on (.b (t:=0) rfl (.b (t:=2) rfl (.v (t:=5) 18 rfl (hl 18 (by decide)) .nil)))
  have d:=d.addE (e:=SlA (α:=Stage) none 0 0 []) M8
  exact ⟨S,b56,k54,p53,wj s d [1,2,5] [1,0]⟩
 rintro a w ⟨Sv57,b56,k54,p53,s,d⟩
 refine tn (wp_seq (sn0 1 s rfl fun a s=>?_))
 obtain ⟨rv137,h136,u⟩:=bt u
 refine cR s (o6 h136 d.dom (d.ins [0] (by decide) rfl) (d.envAt 0 rfl)) (d9 call23 rfl) rfl ?_
 rintro v144 Sv141 w a h142 ⟨p138,k139,rfl,h145,h140⟩ s
 have d:=(d.callO [0] [1,2] (by decide) rfl h142 h145).addE (e:=Sq p138 k139 rv137.2.L) h140
 refine rz0 1 s rfl fun a s=>?_
 refine x9 (fun a w=>∃ (x169:(List Int)) (x170:Int) (x171:(List Stage)) (p163 k164 c165 p166 k167 Sv168:_),a3b fromv19 rv21 rv33 rv40 rv45 rv52 x169 x170 x171=some r∧Sl 37 [(2,pt b6),(5,pt b56)] a∧Wd ⟨w0,S0,H8 [.box b2 (C94 d1 p3 k4) 94]⟩ Sv168 [.box b2 [sl p163 k164 x169,iv x170] 94,.box b6 Z1 41,.box b56 [iv fromv19,iv (w64 (fromv19+(w64 (1000 * (w64 (1+rv33.1)))))),iv rv21.1.Num,iv rv21.1.Den,iv rv40.1,iv rv45.1,iv rv52.1,sl p166 k167 x171] 41,.row p166 x171.length k167 c165 138 10] [Sq p163 k164 x169,Sq none 0 ([]:List Stage),j6 c165 x171] w) ?_ ?_
 ·refine cd s u rfl (fun u=>?_) fun u=>?_
  ·refine wp_region_lit (mv s rfl rfl fun a s=>?_)
   obtain ⟨rv174,h173,u⟩:=bt u
   refine cR s (a4b h173 d.dom (d.ins [0] (by decide) rfl) (d.envAt 0 rfl)) (d9 call46 rfl) rfl ?_
   rintro v185 Sv182 w a h183 ⟨p175,k176,c178,p179,k180,rfl,h186,h177,h181⟩ s
   have d:=((d.callO [0] [1,2] (by decide) rfl h183 h186).addE (e:=j6 c178 rv174.1.Stages) h177).addE (e:=Sq p179 k180 rv174.2.L) h181
   refine sv s (j5 (o':=7) runUnderlying41 rfl sizeOf39 rfl rfl rfl) rfl fun a s=>?_
   refine ws [iv fromv19,iv (w64 (fromv19+(w64 (1000 * (w64 (1+rv33.1)))))),iv rv21.1.Num,iv rv21.1.Den,iv rv40.1,iv rv45.1,iv rv52.1,sl p175 k176 rv174.1.Stages] s d 3 rfl rfl rfl sizeOf39 fun a w s d=>?_
   exact nl ⟨rv174.2.L,rv174.2.At,rv174.1.Stages,p179,k180,c178,p175,k176,Sv182,u,wj s d [1,2,3,0] [0,4,1]⟩
  refine sk ?_
  have d:=d.nilRow Stage 138
  exact ⟨rv137.2.L,rv137.2.At,([]:List Stage),p138,k139,[],none,0,Sv141,u,wj s d [1,2,3,0] [1,3,0]⟩
 rintro a w ⟨x169,x170,x171,p163,k164,c165,p166,k167,Sv168,u,s,d⟩
 refine tn (sn 1 [2] s d rfl rfl fun a s=>?_)
 refine ws [iv fromv19,iv (w64 (fromv19+(w64 (1000 * (w64 (1+rv33.1)))))),iv rv21.1.Num,iv rv21.1.Den,iv rv40.1,iv rv45.1,iv rv52.1,sl p166 k167 x171] s d 1 rfl rfl rfl sizeOf41 fun a w s d=>?_
 refine nl ?_
 obtain rfl:=oi u
 exact wp_ret (a6w s rfl (F7 d 1 rfl rfl isAgg41 sizeOf41 rfl) (d.ret ⟨p166,k167,c165,p163,k164,rfl,(d.outs [3,0] (by decide) rfl),(d.envAt 2 rfl),(d.envAt 0 rfl)⟩))
abbrev b1i (w0:World) (X:List Nat) (r:Response):Rd:=fun S w v=>∃ p0_0 k0_0 c0_0,v=.agg #[sl p0_0 k0_0 r.Stages]∧Outs X w0 S w [.row p0_0 r.Stages.length k0_0 c0_0 138 10]∧(j6 c0_0 r.Stages).p S w
abbrev E83_0:List Value:=[.slice none ([]:List Stage).length 0]
theorem b1h {w0 S0 p2 k3 r1 r} (u:a8p r1=some r) (hS:Dm S0 w0) (h4:(Sq p2 k3 r1.Stages).p S0 w0):Ck Tryz.prog 83 #[.agg #[sl p2 k3 r1.Stages]] w0 S0 [] b1i r:=by
 refine en 29 func83 rfl hS rfl rfl rfl fun a s d=>?_
 have d:=d.addE h4
 refine sr (wb [sl p2 k3 r1.Stages] s d rfl fun b5 a w s d=>?_)
 refine wa E83_0 s d zeroValue39 fun b6 a w s d=>?_
 refine nl (sr (wa E83_0 s d zeroValue39 fun b7 a w s d=>?_))
 refine nl (wp_seq (sz0 1 s rfl fun a s=>?_))
 obtain ⟨e122,h194,u⟩:=bt u
 refine x9 (fun a w=>∃ c123 p124 k125 Sv126,Sl 29 [(2,pt b6),(3,pt b7)] a∧Wd ⟨w0,S0,[]⟩ Sv126 [.box b6 E83_0 39,.box b7 [sl p124 k125 e122] 39,.row p124 e122.length k125 c123 138 10] [Sq none 0 ([]:List Stage),j6 c123 e122] w) ?_ ?_
 ·refine wp_block ?_
  have d:=(d.nilRow Stage 138).addE (e:=SlA (α:=Stage) none 0 0 []) M8
  refine u7 (fun sv8 a w=>∃ c81 p82 k83 Sv84,Sl 29 [(1,pt b5),(2,pt b6),(3,pt b7),(4,iv sv8.2)] a∧Wd ⟨w0,S0,[]⟩ Sv84 [.box b5 [sl p2 k3 r1.Stages] 39,.box b6 E83_0 39,.box b7 [sl p82 k83 sv8.1] 39,.row p82 sv8.1.length k83 c81 138 10] [Sq p2 k3 r1.Stages,Sq none 0 ([]:List Stage),j6 c81 sv8.1] w) (([]:List Stage),0) h194 ⟨[],none,0,S0,wj s d [3,2,1,0] [2,0,1]⟩ ?_
  clear h194
  repeat clear u
  rintro sv8 a w tv120 ⟨c81,p82,k83,Sv84,s,d⟩ u hd119
  refine wp_seq (sz 5 [0] s d rfl rfl fun a s=>?_)
  refine cd s u rfl (fun u=>?_) fun u=>?_
  ·refine sk (wp_seq (wp_block (sn 3 [0] s d rfl rfl fun a s=>?_)))
   obtain ⟨x162,h160,u⟩:=bt u
   obtain ⟨b168,o169,q166,c167,h170,h163,h164,h165,h161⟩:=d.elemV 0 rfl h160
   have hsv171:=s
   have hwv172:=d
   subst h170
   have s:=hsv171
   have d:=hwv172
   obtain ⟨_,_,_,_,_,_,_,_,_,_,rfl,rfl,rfl,rfl,rfl,rfl,rfl,rfl,⟨p173,n174,k175,rfl,h176⟩,rfl,rfl⟩:=h161
   obtain rfl:=h176.1
   have d:=(d.addE (e:=SlA p173 _ k175 x162.Taps) h176).addE h165
   refine sv s (o8 runUnderlying37 sizeOf138 rfl rfl h163.1 h163.2 h164) rfl fun a s=>?_
   refine sv s (D9 (j:=0) (d.ceAt 0 rfl) rfl isAgg138 sizeOf138 rfl rfl) rfl fun a s=>?_
   refine wa Z0 s d zeroValue138 fun b177 a w s d=>?_
   refine ws (a1y x162 p173 k175) s d 0 rfl rfl rfl sizeOf138 fun a w s d=>?_
   refine nl (sn 2 [0] s d rfl rfl fun a s=>?_)
   obtain ⟨l179,h178,u⟩:=bt u
   have d:=d.nilRow Int 3
   refine P9 (α:=Int) s d a5w 0 rfl rfl rfl 0 rfl 2 rfl h178 rfl trivial ?_
   intro p180 k181 c182 a w s d
   refine sv s (j5 (o':=7) runUnderlying138 rfl sizeOf22 rfl rfl rfl) rfl fun a s=>?_
   refine ws (a1y ⟨x162.Kind,x162.Num,x162.Den,l179,x162.Factor,x162.Shift⟩ p180 k181) s d 1 rfl rfl rfl sizeOf22 fun a w s d=>?_
   refine nl (wp_region_lit (rn 3 [4,1] s d rfl rfl fun a s=>?_))
   obtain ⟨Sv185,d⟩:=A9 (α:=Int) d 0 rfl 0 rfl
   refine y7 (α:=Stage) (vs:=[V138 ⟨x162.Kind,x162.Num,x162.Den,l179,x162.Factor,x162.Shift⟩ p180 k181]) (cs:=(a1y ⟨x162.Kind,x162.Num,x162.Den,l179,x162.Factor,x162.Shift⟩ p180 k181)) (xs:=([(⟨x162.Kind,x162.Num,x162.Den,l179,x162.Factor,x162.Shift⟩:Stage)]:List Stage)) s d El37 rfl rfl rfl rfl rfl rfl ⟨⟨_,_,_,_,_,_,_,_,_,_,rfl,rfl,rfl,rfl,rfl,rfl,rfl,rfl,⟨_,_,_,rfl,d.envAt 0 rfl⟩,rfl,rfl⟩,rfl⟩ rfl trivial rfl fun b184 a w s d=>?_
   obtain ⟨l187,h186,u⟩:=bt u
   refine I4 (α:=Stage) s d El37 5 rfl rfl rfl 8 rfl 0 rfl 0 rfl h186 rfl trivial ?_
   intro p188 k189 c190 a w s d
   refine sv s (j5 (o':=0) runUnderlying39 rfl sizeOf37 rfl rfl rfl) rfl fun a s=>?_
   refine ws [sl p188 k189 l187] s d 4 rfl rfl rfl sizeOf37 fun a w s d=>?_
   refine wpList_nil ?_
   refine l9 (tn (wp_region_lit (rn0 2 s rfl fun a s=>?_)))
   obtain ⟨i192,h191,u⟩:=bt u
   refine sv s (q8 rfl h191) rfl fun a s=>?_
   exact nl ⟨_,io u,c190,p188,k189,Sv185,wj s d [2,3,4,5] [7,8,0]⟩
  refine wp_exit (j4 (j4 (o9 ?_)))
  obtain rfl:=oi u
  have h193:=hd119 _ rfl
  subst h193
  exact tn ⟨c81,p82,k83,Sv84,wj s d [1,2,3] [1,2]⟩
 rintro a w ⟨c123,p124,k125,Sv126,s,d⟩
 refine tn (sn 1 [1] s d rfl rfl fun a s=>?_)
 refine ws [sl p124 k125 e122] s d 0 rfl rfl rfl sizeOf39 fun a w s d=>?_
 refine nl ?_
 obtain rfl:=oi u
 exact wp_ret (a6w s rfl (F7 d 0 rfl rfl isAgg39 sizeOf39 rfl) (d.ret ⟨p124,k125,c123,rfl,(d.outs [2] (by decide) rfl),(d.envAt 1 rfl)⟩))
theorem Y8 {w0 S0 p2 k3 e1 r} (u:T9 e1=some r) (hS:Dm S0 w0) (h4:(Sq p2 k3 e1.Response.Stages).p S0 w0):Ck Tryz.prog 45 #[V41 e1 p2 k3] w0 S0 [] a3y r:=by
 refine en 8 func45 rfl hS rfl rfl rfl fun a s d=>?_
 have d:=d.addE h4
 refine sr (wb (C41 e1 p2 k3) s d rfl fun b5 a w s d=>?_)
 refine wa Z1 s d zeroValue41 fun b6 a w s d=>?_
 refine nl (sn 2 [1] s d rfl rfl fun a s=>?_)
 obtain ⟨rv8,h7,u⟩:=bt u
 refine cR s (b1h h7 d.dom (d.envAt 0 rfl)) (d9 call83 rfl) rfl ?_
 rintro v16 Sv13 w a h14 ⟨p9,k10,c12,rfl,h17,h11⟩ s
 have d:=(d.callN h14 h17).addE (e:=j6 c12 rv8.Stages) h11
 refine sv s (j5 (o':=7) runUnderlying41 rfl sizeOf39 rfl rfl rfl) rfl fun a s=>?_
 refine ws (C41 ⟨e1.From,e1.To,e1.Rate,e1.Position,rv8⟩ p9 k10) s d 2 rfl rfl rfl sizeOf39 fun a w s d=>?_
 refine nl (sn 1 [2] s d rfl rfl fun a s=>?_)
 refine ws (C41 ⟨e1.From,e1.To,e1.Rate,e1.Position,rv8⟩ p9 k10) s d 1 rfl rfl rfl sizeOf41 fun a w s d=>?_
 refine nl ?_
 obtain rfl:=oi u
 exact wp_ret (a6w s rfl (F7 d 1 rfl rfl isAgg41 sizeOf41 rfl) (d.ret ⟨p9,k10,c12,rfl,(d.outs [0] (by decide) rfl),(d.envAt 0 rfl)⟩))
abbrev a7L (w0:World) (X:List Nat) (b2:Nat) (r:(Change × Dice)):(Nat→Prop)→World→Value→Prop:=fun S w v=>∃ p0_13 k0_13 c0_13 pq0_0 kq0_0,v=V43 r.1 p0_13 k0_13∧Outs X w0 S w [.row p0_13 r.1.Epoch.Response.Stages.length k0_13 c0_13 138 10,.box b2 (C94 r.2 pq0_0 kq0_0) 94]∧(j6 c0_13 r.1.Epoch.Response.Stages).p S w∧(Sq pq0_0 kq0_0 r.2.L).p S w
theorem a0L {w0 S0 b2 p3 k4 p7 k8 d1 inv6 r} (u:U4 d1 inv6=some r) (hS:Dm S0 w0) (hin:Ins S0 w0 [.box b2 (C94 d1 p3 k4) 94]) (h5:(Sq p3 k4 d1.L).p S0 w0) (h9:(Sq p7 k8 inv6.Channels).p S0 w0):Calls Tryz.prog 13 #[pt b2,.agg #[sl p7 k8 inv6.Channels]] w0 (Ret (H8 [.box b2 (C94 d1 p3 k4) 94]) w0 S0 (a7L w0 (H8 [.box b2 (C94 d1 p3 k4) 94]) b2 r)):=by
 refine enI 94 func13 rfl hS hin rfl rfl rfl fun a s d=>?_
 have d:=(d.addE h5).addE h9
 refine sr (wb [sl p7 k8 inv6.Channels] s d rfl fun b10 a w s d=>?_)
 refine wa Z18 s d zeroValue43 fun b11 a w s d=>?_
 refine nl (sn0 1 s rfl fun a s=>?_)
 refine y7 (α:=Int) (vs:=Z19) (cs:=Z19) (xs:=([0,0,1,2]:List Int)) s d a5w rfl rfl rfl rfl rfl rfl ⟨⟨_,rfl,rfl⟩,⟨⟨_,rfl,rfl⟩,⟨⟨_,rfl,rfl⟩,⟨⟨_,rfl,rfl⟩,rfl⟩⟩⟩⟩ rfl trivial rfl fun b13 a w s d=>?_
 obtain ⟨rv15,h14,u⟩:=bt u
 obtain ⟨Sv19,d⟩:=A9 (α:=Int) d 0 rfl 0 rfl
 refine cR s (J6 h14 d.dom (d.ins [2] (by decide) rfl) (d.envAt 3 rfl) (d.envAt 0 rfl)) (d9 call43 rfl) rfl ?_
 rintro v23 Sv20 w a h21 ⟨p16,k17,rfl,h24,h18⟩ s
 have d:=(d.callO [2] [0,1] (by decide) rfl h21 h24).addE (e:=Sq p16 k17 rv15.2.L) h18
 refine mv s rfl rfl fun a s=>?_
 obtain ⟨rv27,h26,u⟩:=bt u
 refine cR s (a7M h26 d.dom (d.ins [0] (by decide) rfl) (d.envAt 0 rfl)) (d9 call25 rfl) rfl ?_
 rintro v34 Sv31 w a h32 ⟨p28,k29,rfl,h35,h30⟩ s
 have d:=(d.callO [0] [1,2] (by decide) rfl h32 h35).addE (e:=Sq p28 k29 rv27.2.L) h30
 refine sv s (z8 (vs:=[(0,iv rv15.1),(1,V32 rv27.1)]) Bld43 rfl rfl) rfl fun a s=>?_
 refine wa Z18 s d zeroValue43 fun b37 a w s d=>?_
 refine ws [iv rv15.1,.string rv27.1.Network,.string rv27.1.Station,.string rv27.1.Location,.string rv27.1.Channel,iv 0,iv 0,iv 0,iv 0,iv 0,iv 0,iv 0,iv 0,.slice none ([]:List Stage).length 0] s d 0 rfl rfl rfl sizeOf43 fun a w s d=>?_
 refine nl (wp_seq (sz 3 [0] s d rfl rfl fun a s=>?_))
 refine x9 (fun a w=>∃ (x60:(List Int)) (x61:Int) (x62:Int) (x63:Int) (x64:Int) (x65:Int) (x66:Int) (x67:Int) (x68:Int) (x69:Int) (x70:(List Stage)) (p54 k55 c56 p57 k58 Sv59:_),X6 inv6 rv15 rv27 x60 x61 x62 x63 x64 x65 x66 x67 x68 x69 x70=some r∧Sl 94 [(0,pt b2),(3,pt b10),(4,pt b11),(5,pt b37)] a∧Wd ⟨w0,S0,H8 [.box b2 (C94 d1 p3 k4) 94]⟩ Sv59 [.box b2 [sl p54 k55 x60,iv x61] 94,.box b10 [sl p7 k8 inv6.Channels] 29,.box b11 Z18 43,.box b37 [iv rv15.1,.string rv27.1.Network,.string rv27.1.Station,.string rv27.1.Location,.string rv27.1.Channel,iv x62,iv x63,iv x64,iv x65,iv x66,iv x67,iv x68,iv x69,sl p57 k58 x70] 43,.row p57 x70.length k58 c56 138 10] [Sq p54 k55 x60,Sq p7 k8 inv6.Channels,Sq none 0 ([]:List Stage),j6 c56 x70] w) ?_ ?_
 ·refine cd s u rfl (fun u=>?_) fun u=>?_
  ·refine sn0 1 s rfl fun a s=>?_
   obtain ⟨rv980,h979,u⟩:=bt u
   refine cR s (a8g h979 d.dom (d.ins [1] (by decide) rfl) (d.envAt 0 rfl)) (d9 call44 rfl) rfl ?_
   rintro v991 Sv988 w a h989 ⟨p981,k982,c984,p985,k986,rfl,h992,h983,h987⟩ s
   have d:=((d.callO [1] [0,2,3] (by decide) rfl h989 h992).addE (e:=j6 c984 rv980.1.Response.Stages) h983).addE (e:=Sq p985 k986 rv980.2.L) h987
   refine sv s (j5 (o':=6) runUnderlying43 rfl sizeOf41 rfl rfl rfl) rfl fun a s=>?_
   refine ws [iv rv15.1,.string rv27.1.Network,.string rv27.1.Station,.string rv27.1.Location,.string rv27.1.Channel,iv 0,iv rv980.1.From,iv rv980.1.To,iv rv980.1.Rate.Num,iv rv980.1.Rate.Den,iv rv980.1.Position.X,iv rv980.1.Position.Y,iv rv980.1.Position.Z,sl p981 k982 rv980.1.Response.Stages] s d 2 rfl rfl rfl sizeOf41 fun a w s d=>?_
   refine nl (wp_region_lit (rn 4 [2] s d rfl rfl fun a s=>?_))
   refine ws [iv rv15.1,.string rv27.1.Network,.string rv27.1.Station,.string rv27.1.Location,.string rv27.1.Channel,iv rv980.1.From,iv rv980.1.From,iv rv980.1.To,iv rv980.1.Rate.Num,iv rv980.1.Rate.Den,iv rv980.1.Position.X,iv rv980.1.Position.Y,iv rv980.1.Position.Z,sl p981 k982 rv980.1.Response.Stages] s d 2 rfl rfl rfl sizeOf3 fun a w s d=>?_
   refine nl ?_
   have d:=d.addE (e:=SlA (α:=Stage) none 0 0 []) M8
   exact ⟨rv980.2.L,rv980.2.At,rv980.1.From,rv980.1.From,rv980.1.To,rv980.1.Rate.Num,rv980.1.Rate.Den,rv980.1.Position.X,rv980.1.Position.Y,rv980.1.Position.Z,rv980.1.Response.Stages,p985,k986,c984,p981,k982,Sv988,u,wj s d [1,4,3,2,0] [1,7,0,2]⟩
  refine sk ?_
  have d:=(d.nilRow Stage 138).addE (e:=SlA (α:=Stage) none 0 0 []) M8
  exact ⟨rv27.2.L,rv27.2.At,0,0,0,0,0,0,0,0,([]:List Stage),p28,k29,[],none,0,Sv31,u,wj s d [2,4,3,1,0] [2,6,0,1]⟩
 rintro a w ⟨x60,x61,x62,x63,x64,x65,x66,x67,x68,x69,x70,p54,k55,c56,p57,k58,Sv59,u,s,d⟩
 refine tn (wp_seq (sn 3 [1] s d rfl rfl fun a s=>?_))
 obtain ⟨n72,h71,u⟩:=bt u
 refine sv s (q8 rfl h71) rfl fun a s=>?_
 refine nl (sn0 3 s rfl fun a s=>?_)
 obtain ⟨c85,hc85,u⟩:=bt u
 refine o7 4 (fun a w=>∃ p86 k87 Sv88,Sl 94 [(0,pt b2),(3,pt b10),(4,pt b11),(5,pt b37),(6,iv n72),(35,.bool c85.2.2)] a∧Wd ⟨w0,S0,H8 [.box b2 (C94 d1 p3 k4) 94]⟩ Sv88 [.box b2 [sl p86 k87 c85.1,iv c85.2.1] 94,.box b10 [sl p7 k8 inv6.Channels] 29,.box b11 Z18 43,.box b37 [iv rv15.1,.string rv27.1.Network,.string rv27.1.Station,.string rv27.1.Location,.string rv27.1.Channel,iv x62,iv x63,iv x64,iv x65,iv x66,iv x67,iv x68,iv x69,sl p57 k58 x70] 43,.row p57 x70.length k58 c56 138 10] [Sq p86 k87 c85.1,Sq p7 k8 inv6.Channels,Sq none 0 ([]:List Stage),j6 c56 x70] w) ?_ ?_
 ·rcases Bool.eq_false_or_eq_true (decide (0<n72)) with h84 | h84
  ·have s:=s.bT 31 rfl h84
   have u:=D5 hc85 h84
   refine y8 s (X3 rfl) ⟨_,rfl,rfl⟩ rfl rfl fun a s=>?_
   obtain ⟨rv90,h89,u⟩:=bt u
   refine q9 s (o6 h89 d.dom (d.ins [0] (by decide) rfl) (d.envAt 0 rfl)) (d9 call23 rfl) ⟨_,rfl,rfl⟩ rfl rfl ?_
   rintro v97 Sv94 w a h95 ⟨p91,k92,rfl,h98,h93⟩ s
   have d:=(d.callO [0] [1,2,3,4] (by decide) rfl h95 h98).addE (e:=Sq p91 k92 rv90.2.L) h93
   refine rn0 2 s rfl fun a s=>?_
   refine wpList_nil ?_
   obtain rfl:=oi u
   exact tn ⟨p91,k92,Sv94,wj s d [0,1,2,3,4] [0,2,3,4]⟩
  have s:=s.bF 31 rfl h84
  have u:=D6 hc85 h84
  refine rn0 4 s rfl fun a s=>?_
  refine wpList_nil ?_
  obtain rfl:=oi u
  exact tn ⟨p54,k55,Sv59,wj s d [0,1,2,3,4] [0,1,2,3]⟩
 rintro a w ⟨p86,k87,Sv88,s,d⟩
 refine nl (x9 (fun a w=>∃ (x297:(List Int)) (x298:Int) (x299:ByteArray) (x300:ByteArray) (x301:ByteArray) (x302:ByteArray) (x303:Int) (x304:Int) (x305:Int) (x306:Int) (x307:Int) (x308:Int) (x309:Int) (x310:Int) (x311:(List Stage)) (p291 k292 c293 p294 k295 Sv296:_),a0H rv15 x297 x298 x299 x300 x301 x302 x303 x304 x305 x306 x307 x308 x309 x310 x311=some r∧Sl 94 [(4,pt b11),(5,pt b37)] a∧Wd ⟨w0,S0,H8 [.box b2 (C94 d1 p3 k4) 94]⟩ Sv296 [.box b2 [sl p291 k292 x297,iv x298] 94,.box b11 Z18 43,.box b37 [iv rv15.1,.string x299,.string x300,.string x301,.string x302,iv x303,iv x304,iv x305,iv x306,iv x307,iv x308,iv x309,iv x310,sl p294 k295 x311] 43,.row p294 x311.length k295 c293 138 10] [Sq p291 k292 x297,Sq none 0 ([]:List Stage),j6 c293 x311] w) ?_ ?_)
 ·refine cd s u rfl (fun u=>?_) fun u=>?_
  ·refine wp_seq ?_
   obtain ⟨rv314,h313,u⟩:=bt u
   obtain ⟨x320,h318,u⟩:=bt u
   obtain ⟨b326,o327,q324,c325,h328,h321,h322,h323,h319⟩:=d.elemV 1 rfl h318
   have hsv329:=s
   have hwv330:=d
   subst h328
   have s:=hsv329
   have d:=hwv330
   obtain ⟨_,_,_,_,_,rfl,rfl,rfl,rfl,rfl,⟨p331,n332,k333,rfl,h334⟩⟩:=h319
   obtain rfl:=h334.1
   have d:=(d.addE (e:=SlA p331 _ k333 x320.Epochs) h334).addE h323
   refine y9 (fun a w=>∃ Sv336 b335 k316 p315,Sl 94 [(0,pt b2),(4,pt b11),(5,pt b37),(7,pt b335)] a∧Wd ⟨w0,S0,H8 [.box b2 (C94 d1 p3 k4) 94]⟩ Sv336 [.box b2 (C94 rv314.2 p315 k316) 94,.box b11 Z18 43,.box b37 [iv rv15.1,.string rv27.1.Network,.string rv27.1.Station,.string rv27.1.Location,.string rv27.1.Channel,iv x62,iv x63,iv x64,iv x65,iv x66,iv x67,iv x68,iv x69,sl p57 k58 x70] 43,.box b335 (C73 x320 p331 k333) 73,.row p57 x70.length k58 c56 138 10] [Sq p315 k316 rv314.2.L,Sq none 0 ([]:List Stage),Sq p331 k333 x320.Epochs,j6 c56 x70] w) ?_ ?_
   ·refine h_c [1,2,3,4] [0] d rfl rfl (by kernel_rfl) rfl fun hC d=>?_
    refine gn 4 [0,1,2,3] [0] s hC rfl rfl rfl fun a s=>?_
    refine a4O (rs:=[4,7]) (by kernel_rfl) rfl ?_
    refine U8.cons rfl ?_ ?_
    ·refine cR s (o6 h313 d.dom (d.ins [0] (by decide) rfl) (d.envAt 2 rfl)) (d9 call23 rfl) rfl ?_
     rintro v340 Sv337 w a h338 ⟨p315,k316,rfl,h341,h317⟩ s
     have d:=(d.callO [0] [1,2,3,4] (by decide) rfl h338 h341).addE (e:=Sq p315 k316 rv314.2.L) h317
     refine h_n [1,2,3,4] [1] d rfl rfl fun hC=>?_
     refine gx s 5 rfl trivial rfl hC runUnderlying27 sizeOf73 rfl rfl h321 h322 fun a s=>?_
     refine gv s 6 rfl rfl hC (fun w hC=>D9 (j:=0) (hC.ceAt 0 rfl) rfl isAgg73 sizeOf73 rfl rfl) fun a s=>?_
     refine ho 7 rfl ?_
     refine wa Z2 s d zeroValue73 fun b335 a w s d=>?_
     refine h_n [2,3,4,5] [1] d rfl rfl fun hC=>?_
     refine ho 8 rfl ?_
     refine ws (C73 x320 p331 k333) s d 0 rfl rfl rfl sizeOf73 fun a w s d=>?_
     refine h_n [2,3,4,5] [1] d rfl rfl fun hC=>?_
     refine x8 (by kernel_rfl) ?_
     exact ⟨Sv337,b335,k316,p315,wj s d [1,3,4,0,5] [0,5,2,6]⟩
    refine U8.cons rfl ?_ ?_
    ·refine wa Z2 s d zeroValue73 fun b335 a w s d=>?_
     refine h_n [2,3,4,5] [0] d rfl rfl fun hC=>?_
     refine ho 4 rfl ?_
     refine cR s (o6 h313 d.dom (d.ins [1] (by decide) rfl) (d.envAt 2 rfl)) (d9 call23 rfl) rfl ?_
     rintro v346 Sv343 w a h344 ⟨p315,k316,rfl,h347,h317⟩ s
     have d:=(d.callO [1] [0,2,3,4,5] (by decide) rfl h344 h347).addE (e:=Sq p315 k316 rv314.2.L) h317
     refine h_n [2,3,4,5] [1] d rfl rfl fun hC=>?_
     refine gx s 5 rfl trivial rfl hC runUnderlying27 sizeOf73 rfl rfl h321 h322 fun a s=>?_
     refine gv s 6 rfl rfl hC (fun w hC=>D9 (j:=0) (hC.ceAt 0 rfl) rfl isAgg73 sizeOf73 rfl rfl) fun a s=>?_
     refine ho 8 rfl ?_
     refine ws (C73 x320 p331 k333) s d 1 rfl rfl rfl sizeOf73 fun a w s d=>?_
     refine h_n [2,3,4,5] [1] d rfl rfl fun hC=>?_
     refine x8 (by kernel_rfl) ?_
     exact ⟨Sv343,b335,k316,p315,wj s d [0,3,4,1,5] [0,5,2,6]⟩
    exact U8.nil
   rintro a w ⟨Sv336,b335,k316,p315,s,d⟩
   refine tn (sn 3 [3] s d rfl rfl fun a s=>?_)
   refine ws (C43 ⟨rv15.1,x320.Source,x62,⟨x63,x64,⟨x65,x66⟩,⟨x67,x68,x69⟩,⟨x70⟩⟩⟩ p57 k58) s d 2 rfl rfl rfl sizeOf32 fun a w s d=>?_
   refine nl (sz 3 [2] s d rfl rfl fun a s=>?_)
   refine x9 (fun a w=>∃ (x522:(List Int)) (x523:Int) (x524:Int) (x525:Int) (x526:Int) (x527:Int) (x528:Int) (x529:Int) (x530:Int) (x531:Int) (x532:(List Stage)) (p516 k517 c518 p519 k520 Sv521:_),a0I rv15 x320 x522 x523 x524 x525 x526 x527 x528 x529 x530 x531 x532=some r∧Sl 94 [(4,pt b11),(5,pt b37)] a∧Wd ⟨w0,S0,H8 [.box b2 (C94 d1 p3 k4) 94]⟩ Sv521 [.box b2 [sl p516 k517 x522,iv x523] 94,.box b11 Z18 43,.box b37 (C43 ⟨rv15.1,x320.Source,x524,⟨x525,x526,⟨x527,x528⟩,⟨x529,x530,x531⟩,⟨x532⟩⟩⟩ p519 k520) 43,.row p519 x532.length k520 c518 138 10] [Sq p516 k517 x522,Sq none 0 ([]:List Stage),j6 c518 x532] w) ?_ ?_
   ·refine cd s u rfl (fun u=>?_) fun u=>?_
    ·refine wp_seq ?_
     obtain ⟨rv535,h534,u⟩:=bt u
     obtain ⟨x541,h539,u⟩:=bt u
     obtain ⟨b547,o548,q545,c546,h549,h542,h543,h544,h540⟩:=d.elemV 2 rfl h539
     have hsv550:=s
     have hwv551:=d
     subst h549
     have s:=hsv550
     have d:=hwv551
     obtain ⟨_,_,_,_,_,_,_,_,rfl,rfl,rfl,rfl,rfl,rfl,rfl,rfl,⟨p552,n553,k554,rfl,h555⟩⟩:=h540
     obtain rfl:=h555.1
     have d:=(d.addE (e:=SlA p552 _ k554 x541.Response.Stages) h555).addE h544
     refine y9 (fun a w=>∃ Sv557 b556 k537 p536,Sl 94 [(0,pt b2),(4,pt b11),(5,pt b37),(8,pt b556)] a∧Wd ⟨w0,S0,H8 [.box b2 (C94 d1 p3 k4) 94]⟩ Sv557 [.box b2 (C94 rv535.2 p536 k537) 94,.box b11 Z18 43,.box b37 (C43 ⟨rv15.1,x320.Source,x62,⟨x63,x64,⟨x65,x66⟩,⟨x67,x68,x69⟩,⟨x70⟩⟩⟩ p57 k58) 43,.box b556 (C41 x541 p552 k554) 41,.row p57 x70.length k58 c56 138 10] [Sq p536 k537 rv535.2.L,Sq none 0 ([]:List Stage),Sq p552 k554 x541.Response.Stages,j6 c56 x70] w) ?_ ?_
     ·refine h_c [1,2,3,4] [0] d rfl rfl (by kernel_rfl) rfl fun hC d=>?_
      refine gn 6 [0,1,2,3,4,5] [2,2] s hC rfl rfl rfl fun a s=>?_
      refine a4O (rs:=[6,9]) (by kernel_rfl) rfl ?_
      refine U8.cons rfl ?_ ?_
      ·refine cR s (o6 h534 d.dom (d.ins [0] (by decide) rfl) (d.envAt 2 rfl)) (d9 call23 rfl) rfl ?_
       rintro v561 Sv558 w a h559 ⟨p536,k537,rfl,h562,h538⟩ s
       have d:=(d.callO [0] [1,2,3,4] (by decide) rfl h559 h562).addE (e:=Sq p536 k537 rv535.2.L) h538
       refine h_n [1,2,3,4] [1] d rfl rfl fun hC=>?_
       refine gx s 7 rfl trivial rfl hC runUnderlying71 sizeOf41 rfl rfl h542 h543 fun a s=>?_
       refine gv s 8 rfl rfl hC (fun w hC=>D9 (j:=0) (hC.ceAt 0 rfl) rfl isAgg41 sizeOf41 rfl rfl) fun a s=>?_
       refine ho 9 rfl ?_
       refine wa Z1 s d zeroValue41 fun b556 a w s d=>?_
       refine h_n [2,3,4,5] [1] d rfl rfl fun hC=>?_
       refine ho 10 rfl ?_
       refine ws (C41 x541 p552 k554) s d 0 rfl rfl rfl sizeOf41 fun a w s d=>?_
       refine h_n [2,3,4,5] [1] d rfl rfl fun hC=>?_
       refine x8 (by kernel_rfl) ?_
       exact ⟨Sv558,b556,k537,p536,wj s d [1,2,3,0,5] [0,4,2,6]⟩
      refine U8.cons rfl ?_ ?_
      ·refine wa Z1 s d zeroValue41 fun b556 a w s d=>?_
       refine h_n [2,3,4,5] [0] d rfl rfl fun hC=>?_
       refine ho 6 rfl ?_
       refine cR s (o6 h534 d.dom (d.ins [1] (by decide) rfl) (d.envAt 2 rfl)) (d9 call23 rfl) rfl ?_
       rintro v567 Sv564 w a h565 ⟨p536,k537,rfl,h568,h538⟩ s
       have d:=(d.callO [1] [0,2,3,4,5] (by decide) rfl h565 h568).addE (e:=Sq p536 k537 rv535.2.L) h538
       refine h_n [2,3,4,5] [1] d rfl rfl fun hC=>?_
       refine gx s 7 rfl trivial rfl hC runUnderlying71 sizeOf41 rfl rfl h542 h543 fun a s=>?_
       refine gv s 8 rfl rfl hC (fun w hC=>D9 (j:=0) (hC.ceAt 0 rfl) rfl isAgg41 sizeOf41 rfl rfl) fun a s=>?_
       refine ho 10 rfl ?_
       refine ws (C41 x541 p552 k554) s d 1 rfl rfl rfl sizeOf41 fun a w s d=>?_
       refine h_n [2,3,4,5] [1] d rfl rfl fun hC=>?_
       refine x8 (by kernel_rfl) ?_
       exact ⟨Sv564,b556,k537,p536,wj s d [0,2,3,1,5] [0,4,2,6]⟩
      exact U8.nil
     rintro a w ⟨Sv557,b556,k537,p536,s,d⟩
     refine tn (sn 3 [3] s d rfl rfl fun a s=>?_)
     refine ws (C43 ⟨rv15.1,x320.Source,x541.From,⟨x63,x64,⟨x65,x66⟩,⟨x67,x68,x69⟩,⟨x70⟩⟩⟩ p57 k58) s d 2 rfl rfl rfl sizeOf3 fun a w s d=>?_
     refine nl (sn 4 [2] s d rfl rfl fun a s=>?_)
     obtain ⟨c600,hc600,u⟩:=bt u
     refine o7 4 (fun a w=>∃ p601 k602 Sv603,Sl 94 [(0,pt b2),(4,pt b11),(5,pt b37),(8,pt b556),(68,.bool c600.2.2)] a∧Wd ⟨w0,S0,H8 [.box b2 (C94 d1 p3 k4) 94]⟩ Sv603 [.box b2 [sl p601 k602 c600.1,iv c600.2.1] 94,.box b11 Z18 43,.box b37 (C43 ⟨rv15.1,x320.Source,x541.From,⟨x63,x64,⟨x65,x66⟩,⟨x67,x68,x69⟩,⟨x70⟩⟩⟩ p57 k58) 43,.box b556 (C41 x541 p552 k554) 41,.row p57 x70.length k58 c56 138 10] [Sq p601 k602 c600.1,Sq none 0 ([]:List Stage),Sq p552 k554 x541.Response.Stages,j6 c56 x70] w) ?_ ?_
     ·rcases Bool.eq_false_or_eq_true (rv15.1 == 2) with h599 | h599
      ·have s:=s.bT 64 rfl h599
       have u:=D5 hc600 h599
       refine y8 s (X3 rfl) ⟨_,rfl,rfl⟩ rfl rfl fun a s=>?_
       obtain ⟨rv605,h604,u⟩:=bt u
       refine q9 s (o6 h604 d.dom (d.ins [0] (by decide) rfl) (d.envAt 0 rfl)) (d9 call23 rfl) ⟨_,rfl,rfl⟩ rfl rfl ?_
       rintro v612 Sv609 w a h610 ⟨p606,k607,rfl,h613,h608⟩ s
       have d:=(d.callO [0] [1,2,3,4] (by decide) rfl h610 h613).addE (e:=Sq p606 k607 rv605.2.L) h608
       refine rn0 2 s rfl fun a s=>?_
       refine wpList_nil ?_
       obtain rfl:=oi u
       exact tn ⟨p606,k607,Sv609,wj s d [0,1,2,3,4] [0,2,3,4]⟩
      have s:=s.bF 64 rfl h599
      have u:=D6 hc600 h599
      refine rn0 4 s rfl fun a s=>?_
      refine wpList_nil ?_
      obtain rfl:=oi u
      exact tn ⟨p536,k537,Sv557,wj s d [0,1,2,3,4] [0,1,2,3]⟩
     rintro a w ⟨p601,k602,Sv603,s,d⟩
     refine nl (x9 (fun a w=>∃ (x702:(List Int)) (x703:Int) (x704:Int) (x705:Int) (x706:Int) (x707:Int) (x708:Int) (x709:Int) (x710:Int) (x711:(List Stage)) (p696 k697 c698 p699 k700 Sv701:_),X7 rv15 x320 x541 x702 x703 x704 x705 x706 x707 x708 x709 x710 x711=some r∧Sl 94 [(4,pt b11),(5,pt b37)] a∧Wd ⟨w0,S0,H8 [.box b2 (C94 d1 p3 k4) 94]⟩ Sv701 [.box b2 [sl p696 k697 x702,iv x703] 94,.box b11 Z18 43,.box b37 (C43 ⟨rv15.1,x320.Source,x541.From,⟨x704,x705,⟨x706,x707⟩,⟨x708,x709,x710⟩,⟨x711⟩⟩⟩ p699 k700) 43,.row p699 x711.length k700 c698 138 10] [Sq p696 k697 x702,Sq none 0 ([]:List Stage),j6 c698 x711] w) ?_ ?_)
     ·refine cd s u rfl (fun u=>?_) fun u=>?_
      ·refine sn 1 [3] s d rfl rfl fun a s=>?_
       obtain ⟨rv714,h713,u⟩:=bt u
       refine cR s (Y8 h713 d.dom (d.envAt 2 rfl)) (d9 call45 rfl) rfl ?_
       rintro v722 Sv719 w a h720 ⟨p715,k716,c718,rfl,h723,h717⟩ s
       have d:=(d.callN h720 h723).addE (e:=j6 c718 rv714.Response.Stages) h717
       refine wa Z1 s d zeroValue41 fun b725 a w s d=>?_
       refine ws (C41 rv714 p715 k716) s d 0 rfl rfl rfl sizeOf41 fun a w s d=>?_
       refine nl (wp_seq (sn0 1 s rfl fun a s=>?_))
       obtain ⟨rv727,h726,u⟩:=bt u
       refine cR s (o6 h726 d.dom (d.ins [2] (by decide) rfl) (d.envAt 1 rfl)) (d9 call23 rfl) rfl ?_
       rintro v734 Sv731 w a h732 ⟨p728,k729,rfl,h735,h730⟩ s
       have d:=(d.callO [2] [0,1,3,4,5,6] (by decide) rfl h732 h735).addE (e:=Sq p728 k729 rv727.2.L) h730
       refine nl (wp_block (sz0 2 s rfl fun a s=>?_))
       refine x9 (fun a w=>∃ (x844:(List Int)) (x845:Int) (x846:Int) (x847:Int) (x848:(List Stage)) (p838 k839 c840 p841 k842 Sv843:_),a0J rv15 x320 x541 rv714 x844 x845 x846 x847 x848=some r∧Sl 94 [(4,pt b11),(5,pt b37),(9,pt b725)] a∧Wd ⟨w0,S0,H8 [.box b2 (C94 d1 p3 k4) 94]⟩ Sv843 [.box b2 [sl p838 k839 x844,iv x845] 94,.box b11 Z18 43,.box b37 (C43 ⟨rv15.1,x320.Source,x541.From,⟨x63,x64,⟨x65,x66⟩,⟨x67,x68,x69⟩,⟨x70⟩⟩⟩ p57 k58) 43,.box b725 (C41 ⟨rv714.From,x846,rv714.Rate,⟨x847,rv714.Position.Y,rv714.Position.Z⟩,⟨x848⟩⟩ p841 k842) 41,.row p57 x70.length k58 c56 138 10,.row p841 x848.length k842 c840 138 10] [Sq p838 k839 x844,Sq none 0 ([]:List Stage),j6 c56 x70,j6 c840 x848] w) ?_ ?_
       ·refine cd s u rfl (fun u=>?_) fun u=>?_
        ·obtain ⟨rv853,h852,u⟩:=bt u
         refine y9 (fun a w=>∃ Sv857 k855 p854,Sl 94 [(4,pt b11),(5,pt b37),(9,pt b725)] a∧Wd ⟨w0,S0,H8 [.box b2 (C94 d1 p3 k4) 94]⟩ Sv857 [.box b2 (C94 rv853.2 p854 k855) 94,.box b11 Z18 43,.box b37 (C43 ⟨rv15.1,x320.Source,x541.From,⟨x63,x64,⟨x65,x66⟩,⟨x67,x68,x69⟩,⟨x70⟩⟩⟩ p57 k58) 43,.box b725 (C41 ⟨rv714.From,(w64 (rv714.To+rv853.1)),rv714.Rate,rv714.Position,rv714.Response⟩ p715 k716) 41,.row p57 x70.length k58 c56 138 10,.row p715 rv714.Response.Stages.length k716 c718 138 10] [Sq p854 k855 rv853.2.L,Sq none 0 ([]:List Stage),j6 c56 x70,j6 c718 rv714.Response.Stages] w) ?_ ?_
         ·refine h_c [2,3,4,5,6] [] d rfl rfl (by kernel_rfl) rfl fun hC d=>?_
          refine gn 2 [0,2] [] s hC rfl rfl rfl fun a s=>?_
          refine a4O (rs:=[1,3]) (by kernel_rfl) rfl ?_
          refine U8.cons rfl ?_ ?_
          ·refine sv s (V5 (d.ownAt 1 rfl) rfl isAgg3 rfl) rfl fun a s=>?_
           refine h_n [2,3,4,5,6] [] d rfl rfl fun hC=>?_
           refine ho 3 rfl ?_
           refine y7 (α:=Int) (vs:=Z20) (cs:=Z20) (xs:=([(-1),500,3000]:List Int)) s d a5w rfl rfl rfl rfl rfl rfl ⟨⟨_,rfl,rfl⟩,⟨⟨_,rfl,rfl⟩,⟨⟨_,rfl,rfl⟩,rfl⟩⟩⟩ rfl trivial rfl fun b851 a w s d=>?_
           refine h_n [3,4,5,6,7] [] d rfl rfl fun hC=>?_
           refine ho 4 rfl ?_
           obtain ⟨Sv858,d⟩:=A9 (α:=Int) d 0 rfl 0 rfl
           refine cR s (J6 h852 d.dom (d.ins [0] (by decide) rfl) (d.envAt 2 rfl) (d.envAt 0 rfl)) (d9 call43 rfl) rfl ?_
           rintro v862 Sv859 w a h860 ⟨p854,k855,rfl,h863,h856⟩ s
           have d:=(d.callO [0] [1,2,3,4,5,6] (by decide) rfl h860 h863).addE (e:=Sq p854 k855 rv853.2.L) h856
           refine h_n [2,3,4,5,6] [] d rfl rfl fun hC=>?_
           refine gn 2 [5,6] [] s hC rfl rfl rfl fun a s=>?_
           refine ho 7 rfl ?_
           refine ws (C41 ⟨rv714.From,(w64 (rv714.To+rv853.1)),rv714.Rate,rv714.Position,rv714.Response⟩ p715 k716) s d 1 rfl rfl rfl sizeOf3 fun a w s d=>?_
           refine h_n [2,3,4,5,6] [] d rfl rfl fun hC=>?_
           refine x8 (by kernel_rfl) ?_
           exact ⟨Sv859,k855,p854,wj s d [0,3,4,1,6,2] [0,6,8,4]⟩
          refine U8.cons rfl ?_ ?_
          ·refine y7 (α:=Int) (vs:=Z20) (cs:=Z20) (xs:=([(-1),500,3000]:List Int)) s d a5w rfl rfl rfl rfl rfl rfl ⟨⟨_,rfl,rfl⟩,⟨⟨_,rfl,rfl⟩,⟨⟨_,rfl,rfl⟩,rfl⟩⟩⟩ rfl trivial rfl fun b851 a w s d=>?_
           refine h_n [3,4,5,6,7] [] d rfl rfl fun hC=>?_
           refine a4O (rs:=[1,4]) (by kernel_rfl) rfl ?_
           refine U8.cons rfl ?_ ?_
           ·refine sv s (V5 (d.ownAt 2 rfl) rfl isAgg3 rfl) rfl fun a s=>?_
            refine h_n [3,4,5,6,7] [] d rfl rfl fun hC=>?_
            refine ho 4 rfl ?_
            obtain ⟨Sv865,d⟩:=A9 (α:=Int) d 0 rfl 0 rfl
            refine cR s (J6 h852 d.dom (d.ins [0] (by decide) rfl) (d.envAt 2 rfl) (d.envAt 0 rfl)) (d9 call43 rfl) rfl ?_
            rintro v869 Sv866 w a h867 ⟨p854,k855,rfl,h870,h856⟩ s
            have d:=(d.callO [0] [1,2,3,4,5,6] (by decide) rfl h867 h870).addE (e:=Sq p854 k855 rv853.2.L) h856
            refine h_n [2,3,4,5,6] [] d rfl rfl fun hC=>?_
            refine gn 2 [5,6] [] s hC rfl rfl rfl fun a s=>?_
            refine ho 7 rfl ?_
            refine ws (C41 ⟨rv714.From,(w64 (rv714.To+rv853.1)),rv714.Rate,rv714.Position,rv714.Response⟩ p715 k716) s d 1 rfl rfl rfl sizeOf3 fun a w s d=>?_
            refine h_n [2,3,4,5,6] [] d rfl rfl fun hC=>?_
            refine x8 (by kernel_rfl) ?_
            exact ⟨Sv866,k855,p854,wj s d [0,3,4,1,6,2] [0,6,8,4]⟩
           refine U8.cons rfl ?_ ?_
           ·obtain ⟨Sv872,d⟩:=A9 (α:=Int) d 0 rfl 0 rfl
            refine cR s (J6 h852 d.dom (d.ins [0] (by decide) rfl) (d.envAt 2 rfl) (d.envAt 0 rfl)) (d9 call43 rfl) rfl ?_
            rintro v876 Sv873 w a h874 ⟨p854,k855,rfl,h877,h856⟩ s
            have d:=(d.callO [0] [1,2,3,4,5,6] (by decide) rfl h874 h877).addE (e:=Sq p854 k855 rv853.2.L) h856
            refine h_n [2,3,4,5,6] [] d rfl rfl fun hC=>?_
            refine ho 1 rfl ?_
            refine sv s (V5 (d.ownAt 1 rfl) rfl isAgg3 rfl) rfl fun a s=>?_
            refine h_n [2,3,4,5,6] [] d rfl rfl fun hC=>?_
            refine gn 2 [5,6] [] s hC rfl rfl rfl fun a s=>?_
            refine ho 7 rfl ?_
            refine ws (C41 ⟨rv714.From,(w64 (rv714.To+rv853.1)),rv714.Rate,rv714.Position,rv714.Response⟩ p715 k716) s d 1 rfl rfl rfl sizeOf3 fun a w s d=>?_
            refine h_n [2,3,4,5,6] [] d rfl rfl fun hC=>?_
            refine x8 (by kernel_rfl) ?_
            exact ⟨Sv873,k855,p854,wj s d [0,3,4,1,6,2] [0,6,8,4]⟩
           exact U8.nil
          exact U8.nil
         rintro a w ⟨Sv857,k855,p854,s,d⟩
         exact tn ⟨rv853.2.L,rv853.2.At,(w64 (rv714.To+rv853.1)),rv714.Position.X,rv714.Response.Stages,p854,k855,c718,p715,k716,Sv857,u,wj s d [0,1,2,3,4,5] [0,1,2,3]⟩
        refine sz0 2 s rfl fun a s=>?_
        refine x9 (fun a w=>∃ (x932:(List Int)) (x933:Int) (x934:Int) (x935:(List Stage)) (p926 k927 c928 p929 k930 Sv931:_),a0K rv15 x320 x541 rv714 x932 x933 x934 x935=some r∧Sl 94 [(4,pt b11),(5,pt b37),(9,pt b725)] a∧Wd ⟨w0,S0,H8 [.box b2 (C94 d1 p3 k4) 94]⟩ Sv931 [.box b2 [sl p926 k927 x932,iv x933] 94,.box b11 Z18 43,.box b37 (C43 ⟨rv15.1,x320.Source,x541.From,⟨x63,x64,⟨x65,x66⟩,⟨x67,x68,x69⟩,⟨x70⟩⟩⟩ p57 k58) 43,.box b725 (C41 ⟨rv714.From,rv714.To,rv714.Rate,⟨x934,rv714.Position.Y,rv714.Position.Z⟩,⟨x935⟩⟩ p929 k930) 41,.row p57 x70.length k58 c56 138 10,.row p929 x935.length k930 c928 138 10] [Sq p926 k927 x932,Sq none 0 ([]:List Stage),j6 c56 x70,j6 c928 x935] w) ?_ ?_
        ·refine cd s u rfl (fun u=>?_) fun u=>?_
         ·refine wp_region_lit (rn0 2 s rfl fun a s=>?_)
          refine ws (C41 ⟨rv714.From,rv714.To,rv714.Rate,⟨77,rv714.Position.Y,rv714.Position.Z⟩,rv714.Response⟩ p715 k716) s d 1 rfl rfl rfl sizeOf3 fun a w s d=>?_
          exact nl ⟨rv727.2.L,rv727.2.At,77,rv714.Response.Stages,p728,k729,c718,p715,k716,Sv731,u,wj s d [0,3,4,1,6,2] [0,3,5,1]⟩
         refine sz0 2 s rfl fun a s=>?_
         refine x9 (fun a w=>∃ (x959:(List Int)) (x960:Int) (x961:(List Stage)) (p953 k954 c955 p956 k957 Sv958:_),X8 rv15 x320 x541 rv714 x959 x960 x961=some r∧Sl 94 [(4,pt b11),(5,pt b37),(9,pt b725)] a∧Wd ⟨w0,S0,H8 [.box b2 (C94 d1 p3 k4) 94]⟩ Sv958 [.box b2 [sl p953 k954 x959,iv x960] 94,.box b11 Z18 43,.box b37 (C43 ⟨rv15.1,x320.Source,x541.From,⟨x63,x64,⟨x65,x66⟩,⟨x67,x68,x69⟩,⟨x70⟩⟩⟩ p57 k58) 43,.box b725 (C41 ⟨rv714.From,rv714.To,rv714.Rate,rv714.Position,⟨x961⟩⟩ p956 k957) 41,.row p57 x70.length k58 c56 138 10,.row p956 x961.length k957 c955 138 10] [Sq p953 k954 x959,Sq none 0 ([]:List Stage),j6 c56 x70,j6 c955 x961] w) ?_ ?_
         ·refine cd s u rfl (fun u=>?_) fun u=>?_
          ·refine wp_region_lit (mv s rfl rfl fun a s=>?_)
           obtain ⟨rv964,h963,u⟩:=bt u
           refine cR s (a4b h963 d.dom (d.ins [0] (by decide) rfl) (d.envAt 0 rfl)) (d9 call46 rfl) rfl ?_
           rintro v975 Sv972 w a h973 ⟨p965,k966,c968,p969,k970,rfl,h976,h967,h971⟩ s
           have d:=((d.callO [0] [1,2,3,4,5,6] (by decide) rfl h973 h976).addE (e:=j6 c968 rv964.1.Stages) h967).addE (e:=Sq p969 k970 rv964.2.L) h971
           refine sv s (j5 (o':=7) runUnderlying41 rfl sizeOf39 rfl rfl rfl) rfl fun a s=>?_
           refine ws (C41 ⟨rv714.From,rv714.To,rv714.Rate,rv714.Position,rv964.1⟩ p965 k966) s d 2 rfl rfl rfl sizeOf39 fun a w s d=>?_
           exact nl ⟨rv964.2.L,rv964.2.At,rv964.1.Stages,p969,k970,c968,p965,k966,Sv972,u,wj s d [1,4,5,2,7,0] [0,5,7,1]⟩
          exact sk ⟨rv727.2.L,rv727.2.At,rv714.Response.Stages,p728,k729,c718,p715,k716,Sv731,u,wj s d [0,3,4,1,6,2] [0,3,5,1]⟩
         rintro a w ⟨x959,x960,x961,p953,k954,c955,p956,k957,Sv958,u,s,d⟩
         exact tn ⟨x959,x960,rv714.Position.X,x961,p953,k954,c955,p956,k957,Sv958,u,wj s d [0,1,2,3,4,5] [0,1,2,3]⟩
        rintro a w ⟨x932,x933,x934,x935,p926,k927,c928,p929,k930,Sv931,u,s,d⟩
        exact tn ⟨x932,x933,rv714.To,x934,x935,p926,k927,c928,p929,k930,Sv931,u,wj s d [0,1,2,3,4,5] [0,1,2,3]⟩
       rintro a w ⟨x844,x845,x846,x847,x848,p838,k839,c840,p841,k842,Sv843,u,s,d⟩
       refine l9 (tn (wp_region_lit (rn 2 [3] s d rfl rfl fun a s=>?_)))
       refine ws (C43 ⟨rv15.1,x320.Source,x541.From,⟨rv714.From,x846,rv714.Rate,⟨x847,rv714.Position.Y,rv714.Position.Z⟩,⟨x848⟩⟩⟩ p841 k842) s d 2 rfl rfl rfl sizeOf41 fun a w s d=>?_
       exact nl ⟨x844,x845,rv714.From,x846,rv714.Rate.Num,rv714.Rate.Den,x847,rv714.Position.Y,rv714.Position.Z,x848,p838,k839,c840,p841,k842,Sv843,u,wj s d [0,1,2,5] [0,1,3]⟩
      exact sk ⟨c600.1,c600.2.1,x63,x64,x65,x66,x67,x68,x69,x70,p601,k602,c56,p57,k58,Sv603,u,wj s d [0,1,2,4] [0,1,3]⟩
     rintro a w ⟨x702,x703,x704,x705,x706,x707,x708,x709,x710,x711,p696,k697,c698,p699,k700,Sv701,u,s,d⟩
     exact tn ⟨x702,x703,x541.From,x704,x705,x706,x707,x708,x709,x710,x711,p696,k697,c698,p699,k700,Sv701,u,wj s d [0,1,2,3] [0,1,2]⟩
    exact sk ⟨rv314.2.L,rv314.2.At,x62,x63,x64,x65,x66,x67,x68,x69,x70,p315,k316,c56,p57,k58,Sv336,u,wj s d [0,1,2,4] [0,1,3]⟩
   rintro a w ⟨x522,x523,x524,x525,x526,x527,x528,x529,x530,x531,x532,p516,k517,c518,p519,k520,Sv521,u,s,d⟩
   exact tn ⟨x522,x523,x320.Source.Network,x320.Source.Station,x320.Source.Location,x320.Source.Channel,x524,x525,x526,x527,x528,x529,x530,x531,x532,p516,k517,c518,p519,k520,Sv521,u,wj s d [0,1,2,3] [0,1,2]⟩
  exact sk ⟨c85.1,c85.2.1,rv27.1.Network,rv27.1.Station,rv27.1.Location,rv27.1.Channel,x62,x63,x64,x65,x66,x67,x68,x69,x70,p86,k87,c56,p57,k58,Sv88,u,wj s d [0,2,3,4] [0,2,3]⟩
 rintro a w ⟨x297,x298,x299,x300,x301,x302,x303,x304,x305,x306,x307,x308,x309,x310,x311,p291,k292,c293,p294,k295,Sv296,u,s,d⟩
 refine tn (sn 1 [2] s d rfl rfl fun a s=>?_)
 refine ws [iv rv15.1,.string x299,.string x300,.string x301,.string x302,iv x303,iv x304,iv x305,iv x306,iv x307,iv x308,iv x309,iv x310,sl p294 k295 x311] s d 1 rfl rfl rfl sizeOf43 fun a w s d=>?_
 refine nl ?_
 obtain rfl:=oi u
 exact wp_ret (a6w s rfl (F7 d 1 rfl rfl isAgg43 sizeOf43 rfl) (d.ret ⟨p294,k295,c293,p291,k292,rfl,(d.outs [3,0] (by decide) rfl),(d.envAt 2 rfl),(d.envAt 0 rfl)⟩))
theorem a4p {w0 S0 s1 lo2 hi3 r} (u:a3d s1 lo2 hi3=some r) (hS:Dm S0 w0):Ck Tryz.prog 110 #[.string s1,iv lo2,iv hi3] w0 S0 [] l7 r:=by
 refine en 47 func110 rfl hS rfl rfl rfl fun a s d=>?_
 refine sz0 1 s rfl fun a s=>?_
 refine wp_seq (sz0 1 s rfl fun a s=>?_)
 refine wp_block (u7 (fun sv111 a w=>∃ Sv181,Sl 47 [(0,.string s1),(1,iv lo2),(2,iv hi3),(7,iv sv111)] a∧Wd ⟨w0,S0,[]⟩ Sv181 [] [] w) 0 u ⟨S0,wj s d [] []⟩ ?_)
 repeat clear u
 rintro sv111 a w tv217 ⟨Sv181,s,d⟩ u hd216
 refine wp_seq (sz0 4 s rfl fun a s=>?_)
 refine cd s u rfl (fun u=>?_) fun u=>?_
 ·refine sk (wp_seq (wp_block (sn0 2 s rfl fun a s=>?_)))
  obtain ⟨c254,h253,u⟩:=bt u
  refine sv s (a5U runUnderlying9 rfl rfl h253) rfl fun a s=>?_
  refine sv s (a8a (rfl) rfl) rfl fun a s=>?_
  refine mv s rfl rfl fun a s=>?_
  obtain ⟨c258,hc258,u⟩:=bt u
  refine o7 5 (fun a w=>∃ Sv259,Sl 47 [(0,.string s1),(1,iv lo2),(2,iv hi3),(7,iv sv111),(23,.bool c258)] a∧Wd ⟨w0,S0,[]⟩ Sv259 [] [] w) ?_ ?_
  ·rcases Bool.eq_false_or_eq_true (decide (65≤c254)) with h257 | h257
   ·have s:=s.bT 18 rfl h257
    have u:=D5 hc258 h257
    refine rn0 2 s rfl fun a s=>?_
    obtain ⟨c261,h260,u⟩:=bt u
    refine y8 s (a5U runUnderlying9 rfl rfl h260) ⟨_,rfl,rfl⟩ rfl rfl fun a s=>?_
    refine y8 s (b0Y (rfl) rfl) ⟨_,rfl,rfl⟩ rfl rfl fun a s=>?_
    refine sv s (G8 rfl rfl) rfl fun a s=>?_
    refine wpList_nil ?_
    obtain rfl:=oi u
    exact tn ⟨Sv181,wj s d [] []⟩
   have s:=s.bF 18 rfl h257
   have u:=D6 hc258 h257
   refine rn0 5 s rfl fun a s=>?_
   refine wpList_nil ?_
   obtain rfl:=oi u
   exact tn ⟨Sv181,wj s d [] []⟩
  rintro a w ⟨Sv259,s,d⟩
  refine mv s rfl rfl fun a s=>?_
  obtain ⟨c272,hc272,u⟩:=bt u
  refine o7 11 (fun a w=>∃ Sv273,Sl 47 [(0,.string s1),(1,iv lo2),(2,iv hi3),(7,iv sv111),(35,.bool c272)] a∧Wd ⟨w0,S0,[]⟩ Sv273 [] [] w) ?_ ?_
  ·rcases Bool.eq_false_or_eq_true c258 with h271 | h271
   ·have s:=s.bT 24 rfl h271
    have u:=D5 hc272 h271
    refine rn0 11 s rfl fun a s=>?_
    refine wpList_nil ?_
    obtain rfl:=oi u
    exact tn ⟨Sv259,wj s d [] []⟩
   have s:=s.bF 24 rfl h271
   have u:=D6 hc272 h271
   refine rn0 2 s rfl fun a s=>?_
   obtain ⟨c275,h274,u⟩:=bt u
   refine y8 s (a5U runUnderlying9 rfl rfl h274) ⟨_,rfl,rfl⟩ rfl rfl fun a s=>?_
   refine y8 s (a8a (rfl) rfl) ⟨_,rfl,rfl⟩ rfl rfl fun a s=>?_
   refine y8 s (X3 rfl) ⟨_,rfl,rfl⟩ rfl rfl fun a s=>?_
   obtain ⟨c279,hc279,u⟩:=bt u
   refine o7 5 (fun a w=>∃ Sv280,Sl 47 [(0,.string s1),(1,iv lo2),(2,iv hi3),(7,iv sv111),(24,.bool false),(34,.bool c279)] a∧Wd ⟨w0,S0,[]⟩ Sv280 [] [] w) ?_ ?_
   ·rcases Bool.eq_false_or_eq_true (decide (48≤c275)) with h278 | h278
    ·have s:=s.bT 29 rfl h278
     have u:=D5 hc279 h278
     refine rn0 2 s rfl fun a s=>?_
     obtain ⟨c282,h281,u⟩:=bt u
     refine y8 s (a5U runUnderlying9 rfl rfl h281) ⟨_,rfl,rfl⟩ rfl rfl fun a s=>?_
     refine y8 s (b0Y (rfl) rfl) ⟨_,rfl,rfl⟩ rfl rfl fun a s=>?_
     refine y8 s (G8 rfl rfl) ⟨_,rfl,rfl⟩ rfl rfl fun a s=>?_
     refine wpList_nil ?_
     obtain rfl:=oi u
     exact tn ⟨Sv259,wj s d [] []⟩
    have s:=s.bF 29 rfl h278
    have u:=D6 hc279 h278
    refine rn0 5 s rfl fun a s=>?_
    refine wpList_nil ?_
    obtain rfl:=oi u
    exact tn ⟨Sv259,wj s d [] []⟩
   rintro a w ⟨Sv280,s,d⟩
   refine sv s (a9h rfl rfl) rfl fun a s=>?_
   refine wpList_nil ?_
   obtain rfl:=oi u
   exact tn ⟨Sv280,wj s d [] []⟩
  rintro a w ⟨Sv273,s,d⟩
  refine rz0 1 s rfl fun a s=>?_
  refine cd s u rfl (fun u=>?_) fun u=>?_
  ·refine sz0 1 s rfl fun a s=>?_
   obtain rfl:=oi u
   have h285:=hd216 _ rfl
   subst h285
   exact wp_ret (r9 (j3 (j3 (r9 (j3 (rt s rfl (d.ret rfl)))))))
  refine wp_skip (l9 (tn (wp_region_lit (rn0 2 s rfl fun a s=>?_))))
  obtain ⟨i287,h286,u⟩:=bt u
  refine sv s (q8 rfl h286) rfl fun a s=>?_
  exact nl ⟨_,io u,Sv273,wj s d [] []⟩
 obtain ⟨rv289,u,h290⟩:=Y7 u
 have h290:=(hd216 _ h290.symm).symm
 subst h290
 refine wp_exit (j4 (j4 (o9 (tn (sn0 5 s rfl fun a s=>?_)))))
 refine rA 5 41 [] s d rfl rfl rfl rfl rfl fun a s=>?_
 refine rz0 1 s rfl fun a s=>?_
 obtain rfl:=oi u
 exact q1 s rfl (d.ret rfl)
theorem a0R {w0 S0 s1 r} (u:a4C s1=some r) (hS:Dm S0 w0):Ck Tryz.prog 62 #[V32 s1] w0 S0 [] l7 r:=by
 refine en 26 func62 rfl hS rfl rfl rfl fun a s d=>?_
 refine sr (wb (C32 s1) s d rfl fun b2 a w s d=>?_)
 refine rz0 1 s rfl fun a s=>?_
 refine sn 2 [0] s d rfl rfl fun a s=>?_
 obtain ⟨rv4,h3,u⟩:=bt u
 refine cV s d (a4p h3 d.bdom) (d9 call110 rfl) rfl fun a w s d=>?_
 refine mv s rfl rfl fun a s=>?_
 obtain ⟨c20,hc20,u⟩:=bt u
 refine o7 4 (fun a w=>∃ Sv21,Sl 26 [(1,pt b2),(10,.bool c20)] a∧Wd ⟨w0,S0,[]⟩ Sv21 [.box b2 (C32 s1) 32] [] w) ?_ ?_
 ·rcases Bool.eq_false_or_eq_true rv4 with h19 | h19
  ·have s:=s.bT 6 rfl h19
   have u:=D5 hc20 h19
   refine rn 2 [0] s d rfl rfl fun a s=>?_
   obtain ⟨rv23,h22,u⟩:=bt u
   refine q9 s (a4p h22 d.bdom) (d9 call110 rfl) ⟨_,rfl,rfl⟩ rfl rfl ?_
   rintro v27 Sv24 w a h25 rfl s
   have d:=d.callB h25
   refine sv s (G8 rfl rfl) rfl fun a s=>?_
   refine wpList_nil ?_
   obtain rfl:=oi u
   exact tn ⟨S0,wj s d [0] []⟩
  have s:=s.bF 6 rfl h19
  have u:=D6 hc20 h19
  refine rn0 4 s rfl fun a s=>?_
  refine wpList_nil ?_
  obtain rfl:=oi u
  exact tn ⟨S0,wj s d [0] []⟩
 rintro a w ⟨Sv21,s,d⟩
 refine mv s rfl rfl fun a s=>?_
 obtain ⟨c50,hc50,u⟩:=bt u
 refine o7 9 (fun a w=>∃ Sv51,Sl 26 [(1,pt b2),(20,.bool c50)] a∧Wd ⟨w0,S0,[]⟩ Sv51 [.box b2 (C32 s1) 32] [] w) ?_ ?_
 ·rcases Bool.eq_false_or_eq_true c20 with h49 | h49
  ·have s:=s.bT 11 rfl h49
   have u:=D5 hc50 h49
   refine rn 2 [0] s d rfl rfl fun a s=>?_
   refine y8 s (y_eqlS rfl rfl) ⟨_,rfl,rfl⟩ rfl rfl fun a s=>?_
   refine y8 s (X3 rfl) ⟨_,rfl,rfl⟩ rfl rfl fun a s=>?_
   obtain ⟨c61,hc61,u⟩:=bt u
   refine o7 4 (fun a w=>∃ Sv62,Sl 26 [(1,pt b2),(11,.bool true),(19,.bool c61)] a∧Wd ⟨w0,S0,[]⟩ Sv62 [.box b2 (C32 s1) 32] [] w) ?_ ?_
   ·rcases Bool.eq_false_or_eq_true (s1.Location.toList == (⟨#[]⟩:ByteArray).toList) with h60 | h60
    ·have s:=s.bT 15 rfl h60
     have u:=D5 hc61 h60
     refine rn0 4 s rfl fun a s=>?_
     refine wpList_nil ?_
     obtain rfl:=oi u
     exact tn ⟨Sv21,wj s d [0] []⟩
    have s:=s.bF 15 rfl h60
    have u:=D6 hc61 h60
    refine rn 2 [0] s d rfl rfl fun a s=>?_
    obtain ⟨rv64,h63,u⟩:=bt u
    refine q9 s (a4p h63 d.bdom) (d9 call110 rfl) ⟨_,rfl,rfl⟩ rfl rfl ?_
    rintro v68 Sv65 w a h66 rfl s
    have d:=d.callB h66
    refine y8 s (a9h rfl rfl) ⟨_,rfl,rfl⟩ rfl rfl fun a s=>?_
    refine wpList_nil ?_
    obtain rfl:=oi u
    exact tn ⟨Sv21,wj s d [0] []⟩
   rintro a w ⟨Sv62,s,d⟩
   refine sv s (G8 rfl rfl) rfl fun a s=>?_
   refine wpList_nil ?_
   obtain rfl:=oi u
   exact tn ⟨Sv62,wj s d [0] []⟩
  have s:=s.bF 11 rfl h49
  have u:=D6 hc50 h49
  refine rn0 9 s rfl fun a s=>?_
  refine wpList_nil ?_
  obtain rfl:=oi u
  exact tn ⟨Sv21,wj s d [0] []⟩
 rintro a w ⟨Sv51,s,d⟩
 refine mv s rfl rfl fun a s=>?_
 obtain ⟨c80,hc80,u⟩:=bt u
 refine o7 4 (fun a w=>∃ Sv81,Sl 26 [(25,.bool c80)] a∧Wd ⟨w0,S0,[]⟩ Sv81 [] [] w) ?_ ?_
 ·rcases Bool.eq_false_or_eq_true c50 with h79 | h79
  ·have s:=s.bT 21 rfl h79
   have u:=D5 hc80 h79
   refine rn 2 [0] s d rfl rfl fun a s=>?_
   obtain ⟨rv83,h82,u⟩:=bt u
   refine q9 s (a4p h82 d.bdom) (d9 call110 rfl) ⟨_,rfl,rfl⟩ rfl rfl ?_
   rintro v87 Sv84 w a h85 rfl s
   have d:=d.callB h85
   refine sv s (G8 rfl rfl) rfl fun a s=>?_
   refine wpList_nil ?_
   obtain rfl:=oi u
   exact tn ⟨Sv51,wj s d [] []⟩
  have s:=s.bF 21 rfl h79
  have u:=D6 hc80 h79
  refine rn0 4 s rfl fun a s=>?_
  refine wpList_nil ?_
  obtain rfl:=oi u
  exact tn ⟨Sv51,wj s d [] []⟩
 rintro a w ⟨Sv81,s,d⟩
 refine rz0 1 s rfl fun a s=>?_
 obtain rfl:=oi u
 exact q1 s rfl (d.ret rfl)
theorem a2s {w0 S0 a1 b2 r} (u:a0z a1 b2=some r) (hS:Dm S0 w0):Ck Tryz.prog 111 #[.string a1,.string b2] w0 S0 [] J7 r:=by
 refine en 13 func111 rfl hS rfl rfl rfl fun a s d=>?_
 refine sz0 1 s rfl fun a s=>?_
 refine wp_seq (wp_block (sn0 2 s rfl fun a s=>?_))
 refine sv s (y_lssS rfl rfl) rfl fun a s=>?_
 refine rz0 1 s rfl fun a s=>?_
 refine cd s u rfl (fun u=>?_) fun u=>?_
 ·refine sz0 1 s rfl fun a s=>?_
  obtain rfl:=oi u
  exact wp_ret (r9 (j3 (rt s rfl (d.ret rfl))))
 refine sn0 2 s rfl fun a s=>?_
 refine sv s (y_gtrS rfl rfl) rfl fun a s=>?_
 refine rz0 1 s rfl fun a s=>?_
 refine cd s u rfl (fun u=>?_) fun u=>?_
 ·refine sz0 1 s rfl fun a s=>?_
  obtain rfl:=oi u
  exact wp_ret (r9 (j3 (rt s rfl (d.ret rfl))))
 refine wp_skip (l9 (tn (sz0 1 s rfl fun a s=>?_)))
 obtain rfl:=oi u
 exact q1 s rfl (d.ret rfl)
theorem a4f {w0 S0 a1 b2 r} (u:a1K a1 b2=some r) (hS:Dm S0 w0):Ck Tryz.prog 63 #[V32 a1,V32 b2] w0 S0 [] J7 r:=by
 refine en 35 func63 rfl hS rfl rfl rfl fun a s d=>?_
 refine sr (wb (C32 a1) s d rfl fun b3 a w s d=>?_)
 refine wb (C32 b2) s d rfl fun b4 a w s d=>?_
 refine rz0 1 s rfl fun a s=>?_
 refine wp_seq (wp_seq ?_)
 obtain ⟨rv6,h5,u⟩:=bt u
 obtain ⟨rv8,h7,u⟩:=bt u
 obtain ⟨rv10,h9,u⟩:=bt u
 obtain ⟨rv12,h11,u⟩:=bt u
 refine y9 (fun a w=>∃ Sv13,Sl 35 [(27,.agg #[iv rv6,iv rv8,iv rv10,iv rv12]),(28,iv 0)] a∧Wd ⟨w0,S0,[]⟩ Sv13 [] [] w) ?_ ?_
 ·refine h_c [0,1] [] d rfl rfl (by kernel_rfl) rfl fun hC d=>?_
  refine gn 17 [0,1,2,3,5,6,7,8,10,11,12,13,15,16,17,18,21] [1,0,1,0,1,0,1,0] s hC rfl rfl rfl fun a s=>?_
  refine ho 4 rfl ?_
  refine cV s d (a2s h5 d.bdom) (d9 call111 rfl) rfl fun a w s d=>?_
  refine h_n [0,1] [] d rfl rfl fun hC=>?_
  refine ho 9 rfl ?_
  refine cV s d (a2s h7 d.bdom) (d9 call111 rfl) rfl fun a w s d=>?_
  refine h_n [0,1] [] d rfl rfl fun hC=>?_
  refine ho 14 rfl ?_
  refine cV s d (a2s h9 d.bdom) (d9 call111 rfl) rfl fun a w s d=>?_
  refine h_n [0,1] [] d rfl rfl fun hC=>?_
  refine ho 19 rfl ?_
  refine cV s d (a2s h11 d.bdom) (d9 call111 rfl) rfl fun a w s d=>?_
  refine h_n [0,1] [] d rfl rfl fun hC=>?_
  refine gv s 20 rfl rfl hC (fun w hC=>z8 (vs:=[(0,iv rv6),(1,iv rv8),(2,iv rv10),(3,iv rv12)]) Bld157 rfl rfl) fun a s=>?_
  refine x8 (by kernel_rfl) ?_
  exact ⟨S0,wj s d [] []⟩
 rintro a w ⟨Sv13,s,d⟩
 refine tn (wp_block (u7 (fun sv55 a w=>∃ Sv65,Sl 35 [(27,.agg #[iv rv6,iv rv8,iv rv10,iv rv12]),(28,iv sv55)] a∧Wd ⟨w0,S0,[]⟩ Sv65 [] [] w) 0 u ⟨Sv13,wj s d [] []⟩ ?_))
 repeat clear u
 rintro sv55 a w tv71 ⟨Sv65,s,d⟩ u hd70
 refine sz0 1 s rfl fun a s=>?_
 refine wp_seq (cd s u rfl (fun u=>?_) fun u=>?_)
 ·refine sk (wp_seq (wp_block (sr ?_)))
  obtain ⟨x80,h79,u⟩:=bt u
  refine sv s (y_idxA (α:=Int) (xs:=[rv6,rv8,rv10,rv12]) (cs:=[iv rv6,iv rv8,iv rv10,iv rv12]) (es:=[iv x80]) (v:=iv x80) runUnderlying157 sizeOf3 (.inl ⟨isAgg3,rfl⟩) rfl rfl rfl (fun _ _=>⟨⟨_,rfl,rfl⟩,⟨⟨_,rfl,rfl⟩,⟨⟨_,rfl,rfl⟩,⟨⟨_,rfl,rfl⟩,rfl⟩⟩⟩⟩) h79 (fun _ _ _ he=>by obtain ⟨_,rfl,rfl⟩:=he;rfl)) rfl fun a s=>?_
  refine rz0 1 s rfl fun a s=>?_
  refine sz0 2 s rfl fun a s=>?_
  refine cd s u rfl (fun u=>?_) fun u=>?_
  ·refine sz0 2 s rfl fun a s=>?_
   obtain rfl:=oi u
   have h83:=hd70 _ rfl
   subst h83
   exact wp_ret (r9 (j3 (j3 (r9 (j3 (rt s rfl (d.ret rfl)))))))
  refine wp_skip (l9 (tn (wp_region_lit (rz0 2 s rfl fun a s=>?_))))
  exact ⟨_,io u,Sv65,wj s d [] []⟩
 obtain ⟨rv84,u,h85⟩:=Y7 u
 have h85:=(hd70 _ h85.symm).symm
 subst h85
 refine wp_exit (j4 (j4 (o9 (tn (sz0 1 s rfl fun a s=>?_)))))
 obtain rfl:=oi u
 exact q1 s rfl (d.ret rfl)
theorem b0x {w0 S0 r1 r} (u:a5r r1=some r) (hS:Dm S0 w0):Ck Tryz.prog 112 #[V34 r1] w0 S0 [] l7 r:=by
 refine en 19 func112 rfl hS rfl rfl rfl fun a s d=>?_
 refine sr (wb (C34 r1) s d rfl fun b2 a w s d=>?_)
 refine rz0 1 s rfl fun a s=>?_
 refine sn 2 [0] s d rfl rfl fun a s=>?_
 obtain ⟨rv4,h3,u⟩:=bt u
 refine cV s d (M5 h3 d.bdom) (d9 call64 rfl) rfl fun a w s d=>?_
 refine mv s rfl rfl fun a s=>?_
 obtain ⟨c20,hc20,u⟩:=bt u
 refine o7 4 (fun a w=>∃ Sv21,Sl 19 [(1,pt b2),(10,.bool c20)] a∧Wd ⟨w0,S0,[]⟩ Sv21 [.box b2 (C34 r1) 34] [] w) ?_ ?_
 ·rcases Bool.eq_false_or_eq_true rv4 with h19 | h19
  ·have s:=s.bT 6 rfl h19
   have u:=D5 hc20 h19
   refine rn 2 [0] s d rfl rfl fun a s=>?_
   obtain ⟨rv23,h22,u⟩:=bt u
   refine q9 s (M5 h22 d.bdom) (d9 call64 rfl) ⟨_,rfl,rfl⟩ rfl rfl ?_
   rintro v27 Sv24 w a h25 rfl s
   have d:=d.callB h25
   refine sv s (G8 rfl rfl) rfl fun a s=>?_
   refine wpList_nil ?_
   obtain rfl:=oi u
   exact tn ⟨S0,wj s d [0] []⟩
  have s:=s.bF 6 rfl h19
  have u:=D6 hc20 h19
  refine rn0 4 s rfl fun a s=>?_
  refine wpList_nil ?_
  obtain rfl:=oi u
  exact tn ⟨S0,wj s d [0] []⟩
 rintro a w ⟨Sv21,s,d⟩
 refine mv s rfl rfl fun a s=>?_
 obtain ⟨c39,hc39,u⟩:=bt u
 refine o7 7 (fun a w=>∃ Sv40,Sl 19 [(18,.bool c39)] a∧Wd ⟨w0,S0,[]⟩ Sv40 [] [] w) ?_ ?_
 ·rcases Bool.eq_false_or_eq_true c20 with h38 | h38
  ·have s:=s.bT 11 rfl h38
   have u:=D5 hc39 h38
   refine rn 4 [0,0] s d rfl rfl fun a s=>?_
   obtain ⟨rv42,h41,u⟩:=bt u
   refine q9 s (a8U h41 d.bdom) (d9 call138 rfl) ⟨_,rfl,rfl⟩ rfl rfl ?_
   rintro v46 Sv43 w a h44 rfl s
   have d:=d.callB h44
   refine rn0 2 s rfl fun a s=>?_
   refine wpList_nil ?_
   obtain rfl:=oi u
   exact tn ⟨Sv21,wj s d [] []⟩
  have s:=s.bF 11 rfl h38
  have u:=D6 hc39 h38
  refine rn0 7 s rfl fun a s=>?_
  refine wpList_nil ?_
  obtain rfl:=oi u
  exact tn ⟨Sv21,wj s d [] []⟩
 rintro a w ⟨Sv40,s,d⟩
 refine rz0 1 s rfl fun a s=>?_
 obtain rfl:=oi u
 exact q1 s rfl (d.ret rfl)
theorem a5e {w0 S0 p2 k3 l1 r} (u:a3p l1=some r) (hS:Dm S0 w0) (h4:(Sq p2 k3 l1).p S0 w0):Ck Tryz.prog 177 #[sl p2 k3 l1] w0 S0 [] l7 r:=by
 refine en 16 func177 rfl hS rfl rfl rfl fun a s d=>?_
 have d:=d.addE h4
 refine sz0 1 s rfl fun a s=>?_
 refine wp_seq (sz0 1 s rfl fun a s=>?_)
 refine wp_block (u7 (fun sv85 a w=>∃ Sv137,Sl 16 [(0,sl p2 k3 l1),(3,iv sv85)] a∧Wd ⟨w0,S0,[]⟩ Sv137 [] [Sq p2 k3 l1] w) 0 u ⟨S0,wj s d [] [0]⟩ ?_)
 repeat clear u
 rintro sv85 a w tv164 ⟨Sv137,s,d⟩ u hd163
 refine wp_seq (sz0 4 s rfl fun a s=>?_)
 refine cd s u rfl (fun u=>?_) fun u=>?_
 ·refine sk (wp_seq (wp_block (sn0 2 s rfl fun a s=>?_)))
  obtain ⟨x193,h191,u⟩:=bt u
  obtain ⟨b199,o200,q197,c198,h201,h194,h195,h196,h192⟩:=d.elemV 0 rfl h191
  have hsv202:=s
  have hwv203:=d
  subst h201
  have s:=hsv202
  have d:=hwv203
  obtain ⟨_,rfl,rfl⟩:=h192
  have d:=d.addE h196
  refine sv s (o8 runUnderlying22 sizeOf3 rfl rfl h194.1 h194.2 h195) rfl fun a s=>?_
  refine sv s (F5 (j:=0) (d.ceAt 0 rfl) rfl isAgg3 rfl) rfl fun a s=>?_
  obtain ⟨rv205,h204,u⟩:=bt u
  refine cV s d (M5 h204 d.bdom) (d9 call64 rfl) rfl fun a w s d=>?_
  refine rz0 1 s rfl fun a s=>?_
  refine cd s u rfl (fun u=>?_) fun u=>?_
  ·refine sz0 1 s rfl fun a s=>?_
   obtain rfl:=oi u
   have h214:=hd163 _ rfl
   subst h214
   exact wp_ret (r9 (j3 (j3 (r9 (j3 (rt s rfl (d.ret rfl)))))))
  refine wp_skip (l9 (tn (wp_region_lit (rn0 2 s rfl fun a s=>?_))))
  obtain ⟨i216,h215,u⟩:=bt u
  refine sv s (q8 rfl h215) rfl fun a s=>?_
  exact nl ⟨_,io u,Sv137,wj s d [] [1]⟩
 obtain ⟨rv217,u,h218⟩:=Y7 u
 have h218:=(hd163 _ h218.symm).symm
 subst h218
 refine wp_exit (j4 (j4 (o9 (tn (sz0 1 s rfl fun a s=>?_)))))
 obtain rfl:=oi u
 exact q1 s rfl (d.ret rfl)
theorem b0C {w0 S0 p2 k3 l1 r} (u:a7b l1=some r) (hS:Dm S0 w0) (h4:(Sq p2 k3 l1).p S0 w0):Ck Tryz.prog 178 #[sl p2 k3 l1] w0 S0 [] J7 r:=by
 refine en 18 func178 rfl hS rfl rfl rfl fun a s d=>?_
 have d:=d.addE h4
 refine sz0 1 s rfl fun a s=>?_
 refine sz0 1 s rfl fun a s=>?_
 refine wp_seq (sz0 1 s rfl fun a s=>?_)
 obtain ⟨e65,h102,u⟩:=bt u
 refine x9 (fun a w=>∃ Sv66,Sl 18 [(3,iv e65)] a∧Wd ⟨w0,S0,[]⟩ Sv66 [] [] w) ?_ ?_
 ·refine wp_block (u7 (fun sv5 a w=>∃ Sv43,Sl 18 [(0,sl p2 k3 l1),(3,iv sv5.1),(4,iv sv5.2)] a∧Wd ⟨w0,S0,[]⟩ Sv43 [] [Sq p2 k3 l1] w) (0,0) h102 ⟨S0,wj s d [] [0]⟩ ?_)
  clear h102
  repeat clear u
  rintro sv5 a w tv63 ⟨Sv43,s,d⟩ u hd62
  refine wp_seq (sz0 4 s rfl fun a s=>?_)
  refine cd s u rfl (fun u=>?_) fun u=>?_
  ·refine sk (wp_seq (wp_block (wp_region_lit (rn0 3 s rfl fun a s=>?_))))
   obtain ⟨x86,h84,u⟩:=bt u
   obtain ⟨b92,o93,q90,c91,h94,h87,h88,h89,h85⟩:=d.elemV 0 rfl h84
   have hsv95:=s
   have hwv96:=d
   subst h94
   have s:=hsv95
   have d:=hwv96
   obtain ⟨_,rfl,rfl⟩:=h85
   have d:=d.addE h89
   refine sv s (o8 runUnderlying22 sizeOf3 rfl rfl h87.1 h87.2 h88) rfl fun a s=>?_
   refine sv s (F5 (j:=0) (d.ceAt 0 rfl) rfl isAgg3 rfl) rfl fun a s=>?_
   refine sv s (b0X rfl rfl) rfl fun a s=>?_
   obtain ⟨n98,h97,u⟩:=bt u
   refine sv s (q8 rfl h97) rfl fun a s=>?_
   refine wpList_nil ?_
   refine l9 (tn (wp_region_lit (rn0 2 s rfl fun a s=>?_)))
   obtain ⟨i100,h99,u⟩:=bt u
   refine sv s (q8 rfl h99) rfl fun a s=>?_
   exact nl ⟨_,io u,Sv43,wj s d [] [1]⟩
  refine wp_exit (j4 (j4 (o9 ?_)))
  obtain rfl:=oi u
  have h101:=hd62 _ rfl
  subst h101
  exact tn ⟨Sv43,wj s d [] []⟩
 rintro a w ⟨Sv66,s,d⟩
 refine tn (sz0 2 s rfl fun a s=>?_)
 obtain rfl:=oi u
 exact q1 s rfl (d.ret rfl)
theorem a7O {w0 S0 p2 k3 s1 r} (u:Y6 s1=some r) (hS:Dm S0 w0) (h4:(Sq p2 k3 s1.Taps).p S0 w0):Ck Tryz.prog 139 #[V138 s1 p2 k3] w0 S0 [] l7 r:=by
 refine en 117 func139 rfl hS rfl rfl rfl fun a s d=>?_
 have d:=d.addE h4
 refine sr (wb (a1y s1 p2 k3) s d rfl fun b5 a w s d=>?_)
 refine rz0 1 s rfl fun a s=>?_
 refine sn 5 [0] s d rfl rfl fun a s=>?_
 refine rA 4 8 [0] s d rfl rfl rfl rfl rfl fun a s=>?_
 refine mv s rfl rfl fun a s=>?_
 refine rA 4 13 [0] s d rfl rfl rfl rfl rfl fun a s=>?_
 refine rz0 1 s rfl fun a s=>?_
 refine wp_seq (sz 2 [0] s d rfl rfl fun a s=>?_)
 refine wp_block (sz0 2 s rfl fun a s=>?_)
 refine cd s u rfl (fun u=>?_) fun u=>?_
 ·refine sn0 2 s rfl fun a s=>?_
  obtain ⟨c396,hc396,u⟩:=bt u
  refine o7 5 (fun a w=>∃ Sv397,Sl 117 [(1,pt b5),(28,.bool c396)] a∧Wd ⟨w0,S0,[]⟩ Sv397 [.box b5 (a1y s1 p2 k3) 138] [Sq p2 k3 s1.Taps] w) ?_ ?_
  ·rcases Bool.eq_false_or_eq_true ((((s1.Taps.length:Int) == 0) && (s1.Factor == 0)) && (s1.Shift == 0)) with h395 | h395
   ·have s:=s.bT 23 rfl h395
    have u:=D5 hc396 h395
    refine y8 s (j5 (o':=1) runUnderlying138 rfl sizeOf136 rfl rfl rfl) ⟨_,rfl,rfl⟩ rfl rfl fun a s=>?_
    refine y8 s (X0 (q:=1) runUnderlying136 sizeOf3 rfl rfl (by decide) (by decide) rfl) ⟨_,rfl,rfl⟩ rfl rfl fun a s=>?_
    refine y8 s (V5 (d.ownAt 0 rfl) rfl isAgg3 rfl) ⟨_,rfl,rfl⟩ rfl rfl fun a s=>?_
    obtain ⟨rv399,h398,u⟩:=bt u
    refine q9 s (M5 h398 d.bdom) (d9 call64 rfl) ⟨_,rfl,rfl⟩ rfl rfl ?_
    rintro v403 Sv400 w a h401 rfl s
    have d:=d.callB h401
    refine sv s (G8 rfl rfl) rfl fun a s=>?_
    refine wpList_nil ?_
    obtain rfl:=oi u
    exact tn ⟨S0,wj s d [0] [0]⟩
   have s:=s.bF 23 rfl h395
   have u:=D6 hc396 h395
   refine rn0 5 s rfl fun a s=>?_
   refine wpList_nil ?_
   obtain rfl:=oi u
   exact tn ⟨S0,wj s d [0] [0]⟩
  rintro a w ⟨Sv397,s,d⟩
  refine mv s rfl rfl fun a s=>?_
  obtain ⟨c415,hc415,u⟩:=bt u
  refine o7 5 (fun a w=>∃ Sv416,Sl 117 [(1,pt b5),(34,.bool c415)] a∧Wd ⟨w0,S0,[]⟩ Sv416 [.box b5 (a1y s1 p2 k3) 138] [Sq p2 k3 s1.Taps] w) ?_ ?_
  ·rcases Bool.eq_false_or_eq_true c396 with h414 | h414
   ·have s:=s.bT 29 rfl h414
    have u:=D5 hc415 h414
    refine y8 s (j5 (o':=4) runUnderlying138 rfl sizeOf136 rfl rfl rfl) ⟨_,rfl,rfl⟩ rfl rfl fun a s=>?_
    refine y8 s (X0 (q:=4) runUnderlying136 sizeOf3 rfl rfl (by decide) (by decide) rfl) ⟨_,rfl,rfl⟩ rfl rfl fun a s=>?_
    refine y8 s (V5 (d.ownAt 0 rfl) rfl isAgg3 rfl) ⟨_,rfl,rfl⟩ rfl rfl fun a s=>?_
    obtain ⟨rv418,h417,u⟩:=bt u
    refine q9 s (M5 h417 d.bdom) (d9 call64 rfl) ⟨_,rfl,rfl⟩ rfl rfl ?_
    rintro v422 Sv419 w a h420 rfl s
    have d:=d.callB h420
    refine sv s (G8 rfl rfl) rfl fun a s=>?_
    refine wpList_nil ?_
    obtain rfl:=oi u
    exact tn ⟨Sv397,wj s d [0] [0]⟩
   have s:=s.bF 29 rfl h414
   have u:=D6 hc415 h414
   refine rn0 5 s rfl fun a s=>?_
   refine wpList_nil ?_
   obtain rfl:=oi u
   exact tn ⟨Sv397,wj s d [0] [0]⟩
  rintro a w ⟨Sv416,s,d⟩
  refine mv s rfl rfl fun a s=>?_
  refine o7 5 (fun a w1=>w=w1∧Sl 117 [(1,pt b5),(40,.bool (c415 && (s1.Num.e1 == 0)))] a) ?_ ?_
  ·rcases Bool.eq_false_or_eq_true c415 with h425 | h425
   ·have s:=s.bT 35 rfl h425
    refine y8 s (j5 (o':=1) runUnderlying138 rfl sizeOf136 rfl rfl rfl) ⟨_,rfl,rfl⟩ rfl rfl fun a s=>?_
    refine y8 s (X0 (q:=2) runUnderlying136 sizeOf3 rfl rfl (by decide) (by decide) rfl) ⟨_,rfl,rfl⟩ rfl rfl fun a s=>?_
    refine rz 3 [0] s d rfl rfl fun a s=>?_
    exact ⟨rfl,(s.fix 40 (.bool (c415 && (s1.Num.e1 == 0))) rfl (a3i h425)).weaken _ ⟨rfl,rfl,trivial⟩⟩
   have s:=s.bF 35 rfl h425
   refine rz0 5 s rfl fun a s=>?_
   exact ⟨rfl,(s.fix 40 (.bool (c415 && (s1.Num.e1 == 0))) rfl (a3h h425)).weaken _ ⟨rfl,rfl,trivial⟩⟩
  rintro a w1 ⟨h432,s⟩
  subst h432
  refine mv s rfl rfl fun a s=>?_
  refine o7 5 (fun a w1=>w=w1∧Sl 117 [(1,pt b5),(46,.bool ((c415 && (s1.Num.e1 == 0)) && (s1.Num.e2 == 0)))] a) ?_ ?_
  ·rcases Bool.eq_false_or_eq_true (c415 && (s1.Num.e1 == 0)) with h426 | h426
   ·have s:=s.bT 41 rfl h426
    refine y8 s (j5 (o':=1) runUnderlying138 rfl sizeOf136 rfl rfl rfl) ⟨_,rfl,rfl⟩ rfl rfl fun a s=>?_
    refine y8 s (X0 (q:=3) runUnderlying136 sizeOf3 rfl rfl (by decide) (by decide) rfl) ⟨_,rfl,rfl⟩ rfl rfl fun a s=>?_
    refine rz 3 [0] s d rfl rfl fun a s=>?_
    exact ⟨rfl,(s.fix 46 (.bool ((c415 && (s1.Num.e1 == 0)) && (s1.Num.e2 == 0))) rfl (a3i h426)).weaken _ ⟨rfl,rfl,trivial⟩⟩
   have s:=s.bF 41 rfl h426
   refine rz0 5 s rfl fun a s=>?_
   exact ⟨rfl,(s.fix 46 (.bool ((c415 && (s1.Num.e1 == 0)) && (s1.Num.e2 == 0))) rfl (a3h h426)).weaken _ ⟨rfl,rfl,trivial⟩⟩
  rintro a w1 ⟨h431,s⟩
  subst h431
  refine mv s rfl rfl fun a s=>?_
  refine o7 5 (fun a w1=>w=w1∧Sl 117 [(1,pt b5),(52,.bool (((c415 && (s1.Num.e1 == 0)) && (s1.Num.e2 == 0)) && (s1.Den.e1 == 0)))] a) ?_ ?_
  ·rcases Bool.eq_false_or_eq_true ((c415 && (s1.Num.e1 == 0)) && (s1.Num.e2 == 0)) with h427 | h427
   ·have s:=s.bT 47 rfl h427
    refine y8 s (j5 (o':=4) runUnderlying138 rfl sizeOf136 rfl rfl rfl) ⟨_,rfl,rfl⟩ rfl rfl fun a s=>?_
    refine y8 s (X0 (q:=5) runUnderlying136 sizeOf3 rfl rfl (by decide) (by decide) rfl) ⟨_,rfl,rfl⟩ rfl rfl fun a s=>?_
    refine rz 3 [0] s d rfl rfl fun a s=>?_
    exact ⟨rfl,(s.fix 52 (.bool (((c415 && (s1.Num.e1 == 0)) && (s1.Num.e2 == 0)) && (s1.Den.e1 == 0))) rfl (a3i h427)).weaken _ ⟨rfl,rfl,trivial⟩⟩
   have s:=s.bF 47 rfl h427
   refine rz0 5 s rfl fun a s=>?_
   exact ⟨rfl,(s.fix 52 (.bool (((c415 && (s1.Num.e1 == 0)) && (s1.Num.e2 == 0)) && (s1.Den.e1 == 0))) rfl (a3h h427)).weaken _ ⟨rfl,rfl,trivial⟩⟩
  rintro a w1 ⟨h430,s⟩
  subst h430
  refine mv s rfl rfl fun a s=>?_
  refine o7 5 (fun a w1=>w=w1∧Sl 117 [(58,.bool ((((c415 && (s1.Num.e1 == 0)) && (s1.Num.e2 == 0)) && (s1.Den.e1 == 0)) && (s1.Den.e2 == 0)))] a) ?_ ?_
  ·rcases Bool.eq_false_or_eq_true (((c415 && (s1.Num.e1 == 0)) && (s1.Num.e2 == 0)) && (s1.Den.e1 == 0)) with h428 | h428
   ·have s:=s.bT 53 rfl h428
    refine y8 s (j5 (o':=4) runUnderlying138 rfl sizeOf136 rfl rfl rfl) ⟨_,rfl,rfl⟩ rfl rfl fun a s=>?_
    refine y8 s (X0 (q:=6) runUnderlying136 sizeOf3 rfl rfl (by decide) (by decide) rfl) ⟨_,rfl,rfl⟩ rfl rfl fun a s=>?_
    refine rz 3 [0] s d rfl rfl fun a s=>?_
    exact ⟨rfl,(s.fix 58 (.bool ((((c415 && (s1.Num.e1 == 0)) && (s1.Num.e2 == 0)) && (s1.Den.e1 == 0)) && (s1.Den.e2 == 0))) rfl (a3i h428)).weaken _ ⟨rfl,trivial⟩⟩
   have s:=s.bF 53 rfl h428
   refine rz0 5 s rfl fun a s=>?_
   exact ⟨rfl,(s.fix 58 (.bool ((((c415 && (s1.Num.e1 == 0)) && (s1.Num.e2 == 0)) && (s1.Den.e1 == 0)) && (s1.Den.e2 == 0))) rfl (a3h h428)).weaken _ ⟨rfl,trivial⟩⟩
  rintro a w1 ⟨h429,s⟩
  subst h429
  refine rz0 1 s rfl fun a s=>?_
  obtain rfl:=oi u
  exact wp_ret (r9 (j3 (rt s rfl (d.ret rfl))))
 refine sz0 2 s rfl fun a s=>?_
 refine cd s u rfl (fun u=>?_) fun u=>?_
 ·refine sn0 2 s rfl fun a s=>?_
  obtain ⟨c586,hc586,u⟩:=bt u
  refine o7 4 (fun a w=>∃ Sv587,Sl 117 [(1,pt b5),(66,.bool c586)] a∧Wd ⟨w0,S0,[]⟩ Sv587 [] [CeA b5 0 (a1y s1 p2 k3),Sq p2 k3 s1.Taps] w) ?_ ?_
  ·rcases Bool.eq_false_or_eq_true ((((s1.Taps.length:Int) == 0) && (s1.Factor == 0)) && (s1.Shift == 0)) with h585 | h585
   ·have s:=s.bT 62 rfl h585
    have u:=D5 hc586 h585
    refine y8 s (j5 (o':=1) runUnderlying138 rfl sizeOf136 rfl rfl rfl) ⟨_,rfl,rfl⟩ rfl rfl fun a s=>?_
    obtain ⟨Sv588,d⟩:=a9g d 0 rfl
    have d:=d.addE (e:=SlA (α:=Int) (some ⟨b5,1,none⟩) ([s1.Num.e0,s1.Num.e1,s1.Num.e2]:List Int).length 3 ([s1.Num.e0,s1.Num.e1,s1.Num.e2]:List Int)) (b1N (o:=1) (d.envAt 0 rfl) rfl ⟨⟨_,rfl,rfl⟩,⟨⟨_,rfl,rfl⟩,⟨⟨_,rfl,rfl⟩,rfl⟩⟩⟩)
    refine y8 s (a6C runUnderlying136 sizeOf3 rfl rfl) ⟨_,rfl,rfl⟩ rfl rfl fun a s=>?_
    obtain ⟨rv590,h589,u⟩:=bt u
    refine q9 s (a5e h589 d.bdom (d.bE 0 rfl)) (d9 call177 rfl) ⟨_,rfl,rfl⟩ rfl rfl ?_
    rintro v594 Sv591 w a h592 rfl s
    have d:=d.callB h592
    refine sv s (G8 rfl rfl) rfl fun a s=>?_
    refine wpList_nil ?_
    obtain rfl:=oi u
    exact tn ⟨Sv588,wj s d [] [1,2]⟩
   have s:=s.bF 62 rfl h585
   have u:=D6 hc586 h585
   refine rn0 4 s rfl fun a s=>?_
   refine wpList_nil ?_
   obtain ⟨Sv597,d⟩:=a9g d 0 rfl
   obtain rfl:=oi u
   exact tn ⟨Sv597,wj s d [] [0,1]⟩
  rintro a w ⟨Sv587,s,d⟩
  refine mv s rfl rfl fun a s=>?_
  obtain ⟨c607,hc607,u⟩:=bt u
  refine o7 4 (fun a w=>∃ Sv608,Sl 117 [(1,pt b5),(71,.bool c607)] a∧Wd ⟨w0,S0,[]⟩ Sv608 [] [CeA b5 0 (a1y s1 p2 k3),Sq p2 k3 s1.Taps] w) ?_ ?_
  ·rcases Bool.eq_false_or_eq_true c586 with h606 | h606
   ·have s:=s.bT 67 rfl h606
    have u:=D5 hc607 h606
    refine y8 s (j5 (o':=4) runUnderlying138 rfl sizeOf136 rfl rfl rfl) ⟨_,rfl,rfl⟩ rfl rfl fun a s=>?_
    have d:=d.addE (e:=SlA (α:=Int) (some ⟨b5,4,none⟩) ([s1.Den.e0,s1.Den.e1,s1.Den.e2]:List Int).length 3 ([s1.Den.e0,s1.Den.e1,s1.Den.e2]:List Int)) (b1N (o:=4) (d.envAt 0 rfl) rfl ⟨⟨_,rfl,rfl⟩,⟨⟨_,rfl,rfl⟩,⟨⟨_,rfl,rfl⟩,rfl⟩⟩⟩)
    refine y8 s (a6C runUnderlying136 sizeOf3 rfl rfl) ⟨_,rfl,rfl⟩ rfl rfl fun a s=>?_
    obtain ⟨rv610,h609,u⟩:=bt u
    refine q9 s (a5e h609 d.bdom (d.bE 0 rfl)) (d9 call177 rfl) ⟨_,rfl,rfl⟩ rfl rfl ?_
    rintro v614 Sv611 w a h612 rfl s
    have d:=d.callB h612
    refine sv s (G8 rfl rfl) rfl fun a s=>?_
    refine wpList_nil ?_
    obtain rfl:=oi u
    exact tn ⟨Sv587,wj s d [] [1,2]⟩
   have s:=s.bF 67 rfl h606
   have u:=D6 hc607 h606
   refine rn0 4 s rfl fun a s=>?_
   refine wpList_nil ?_
   obtain rfl:=oi u
   exact tn ⟨Sv587,wj s d [] [0,1]⟩
  rintro a w ⟨Sv608,s,d⟩
  refine mv s rfl rfl fun a s=>?_
  refine o7 5 (fun a w1=>w=w1∧Sl 117 [(77,.bool (c607 && (s1.Den.e0 != 0)))] a) ?_ ?_
  ·rcases Bool.eq_false_or_eq_true c607 with h617 | h617
   ·have s:=s.bT 72 rfl h617
    refine y8 s (j5 (o':=4) runUnderlying138 rfl sizeOf136 rfl rfl rfl) ⟨_,rfl,rfl⟩ rfl rfl fun a s=>?_
    refine y8 s (X0 (q:=4) runUnderlying136 sizeOf3 rfl rfl (by decide) (by decide) rfl) ⟨_,rfl,rfl⟩ rfl rfl fun a s=>?_
    refine y8 s (F5 (j:=4) (d.ceAt 0 rfl) rfl isAgg3 rfl) ⟨_,rfl,rfl⟩ rfl rfl fun a s=>?_
    refine rz0 2 s rfl fun a s=>?_
    exact ⟨rfl,(s.fix 77 (.bool (c607 && (s1.Den.e0 != 0))) rfl (a3i h617)).weaken _ ⟨rfl,trivial⟩⟩
   have s:=s.bF 72 rfl h617
   refine rz0 5 s rfl fun a s=>?_
   exact ⟨rfl,(s.fix 77 (.bool (c607 && (s1.Den.e0 != 0))) rfl (a3h h617)).weaken _ ⟨rfl,trivial⟩⟩
  rintro a w1 ⟨h618,s⟩
  subst h618
  refine rz0 1 s rfl fun a s=>?_
  obtain rfl:=oi u
  exact wp_ret (r9 (j3 (rt s rfl (d.ret rfl))))
 refine sz0 2 s rfl fun a s=>?_
 refine cd s u rfl (fun u=>?_) fun u=>?_
 ·refine sn 2 [0] s d rfl rfl fun a s=>?_
  refine sv s (z8 (vs:=[]) a5v rfl rfl) rfl fun a s=>?_
  refine sv s (a1Q (by kernel_rfl) rfl rfl (a1J runUnderlying136 sizeOf3 (EqA.cons1 isAgg3 rfl rfl (F4 runUnderlying3) (EqA.cons1 isAgg3 rfl rfl (F4 runUnderlying3) (EqA.cons1 isAgg3 rfl rfl (F4 runUnderlying3) EqA.nil))))) rfl fun a s=>?_
  refine mv s rfl rfl fun a s=>?_
  refine o7 5 (fun a w1=>w=w1∧Sl 117 [(1,pt b5),(89,.bool (((s1.Num.e0 == 0) && ((s1.Num.e1 == 0) && ((s1.Num.e2 == 0) && true))) && ((s1.Den.e0 == 0) && ((s1.Den.e1 == 0) && ((s1.Den.e2 == 0) && true)))))] a) ?_ ?_
  ·rcases Bool.eq_false_or_eq_true ((s1.Num.e0 == 0) && ((s1.Num.e1 == 0) && ((s1.Num.e2 == 0) && true))) with h718 | h718
   ·have s:=s.bT 84 rfl h718
    refine rn 2 [0] s d rfl rfl fun a s=>?_
    refine y8 s (z8 (vs:=[]) a5v rfl rfl) ⟨_,rfl,rfl⟩ rfl rfl fun a s=>?_
    refine y8 s (a1Q (by kernel_rfl) rfl rfl (a1J runUnderlying136 sizeOf3 (EqA.cons1 isAgg3 rfl rfl (F4 runUnderlying3) (EqA.cons1 isAgg3 rfl rfl (F4 runUnderlying3) (EqA.cons1 isAgg3 rfl rfl (F4 runUnderlying3) EqA.nil))))) ⟨_,rfl,rfl⟩ rfl rfl fun a s=>?_
    refine rz0 1 s rfl fun a s=>?_
    exact ⟨rfl,(s.fix 89 (.bool (((s1.Num.e0 == 0) && ((s1.Num.e1 == 0) && ((s1.Num.e2 == 0) && true))) && ((s1.Den.e0 == 0) && ((s1.Den.e1 == 0) && ((s1.Den.e2 == 0) && true))))) rfl (a3i h718)).weaken _ ⟨rfl,rfl,trivial⟩⟩
   have s:=s.bF 84 rfl h718
   refine rz0 5 s rfl fun a s=>?_
   exact ⟨rfl,(s.fix 89 (.bool (((s1.Num.e0 == 0) && ((s1.Num.e1 == 0) && ((s1.Num.e2 == 0) && true))) && ((s1.Den.e0 == 0) && ((s1.Den.e1 == 0) && ((s1.Den.e2 == 0) && true))))) rfl (a3h h718)).weaken _ ⟨rfl,rfl,trivial⟩⟩
  rintro a w1 ⟨h814,s⟩
  subst h814
  refine mv s rfl rfl fun a s=>?_
  obtain ⟨c728,hc728,u⟩:=bt u
  refine o7 5 (fun a w=>∃ Sv729,Sl 117 [(1,pt b5),(95,.bool c728)] a∧Wd ⟨w0,S0,[]⟩ Sv729 [.box b5 (a1y s1 p2 k3) 138] [Sq p2 k3 s1.Taps] w) ?_ ?_
  ·rcases Bool.eq_false_or_eq_true (((s1.Num.e0 == 0) && ((s1.Num.e1 == 0) && ((s1.Num.e2 == 0) && true))) && ((s1.Den.e0 == 0) && ((s1.Den.e1 == 0) && ((s1.Den.e2 == 0) && true)))) with h727 | h727
   ·have s:=s.bT 90 rfl h727
    have u:=D5 hc728 h727
    refine rn 3 [0] s d rfl rfl fun a s=>?_
    obtain ⟨rv731,h730,u⟩:=bt u
    refine q9 s (M5 h730 d.bdom) (d9 call64 rfl) ⟨_,rfl,rfl⟩ rfl rfl ?_
    rintro v735 Sv732 w a h733 rfl s
    have d:=d.callB h733
    refine sv s (G8 rfl rfl) rfl fun a s=>?_
    refine wpList_nil ?_
    obtain rfl:=oi u
    exact tn ⟨S0,wj s d [0] [0]⟩
   have s:=s.bF 90 rfl h727
   have u:=D6 hc728 h727
   refine rn0 5 s rfl fun a s=>?_
   refine wpList_nil ?_
   obtain rfl:=oi u
   exact tn ⟨S0,wj s d [0] [0]⟩
  rintro a w ⟨Sv729,s,d⟩
  refine mv s rfl rfl fun a s=>?_
  obtain ⟨c747,hc747,u⟩:=bt u
  refine o7 4 (fun a w=>∃ Sv748,Sl 117 [(1,pt b5),(100,.bool c747)] a∧Wd ⟨w0,S0,[]⟩ Sv748 [.box b5 (a1y s1 p2 k3) 138] [Sq p2 k3 s1.Taps] w) ?_ ?_
  ·rcases Bool.eq_false_or_eq_true c728 with h746 | h746
   ·have s:=s.bT 96 rfl h746
    have u:=D5 hc747 h746
    refine rn 2 [0] s d rfl rfl fun a s=>?_
    obtain ⟨rv750,h749,u⟩:=bt u
    refine q9 s (a5e h749 d.bdom (d.bE 0 rfl)) (d9 call177 rfl) ⟨_,rfl,rfl⟩ rfl rfl ?_
    rintro v754 Sv751 w a h752 rfl s
    have d:=d.callB h752
    refine sv s (G8 rfl rfl) rfl fun a s=>?_
    refine wpList_nil ?_
    obtain rfl:=oi u
    exact tn ⟨Sv729,wj s d [0] [0]⟩
   have s:=s.bF 96 rfl h746
   have u:=D6 hc747 h746
   refine rn0 4 s rfl fun a s=>?_
   refine wpList_nil ?_
   obtain rfl:=oi u
   exact tn ⟨Sv729,wj s d [0] [0]⟩
  rintro a w ⟨Sv748,s,d⟩
  refine mv s rfl rfl fun a s=>?_
  obtain ⟨c766,hc766,u⟩:=bt u
  refine o7 5 (fun a w=>∃ Sv767,Sl 117 [(1,pt b5),(106,.bool c766)] a∧Wd ⟨w0,S0,[]⟩ Sv767 [.box b5 (a1y s1 p2 k3) 138] [Sq p2 k3 s1.Taps] w) ?_ ?_
  ·rcases Bool.eq_false_or_eq_true c747 with h765 | h765
   ·have s:=s.bT 101 rfl h765
    have u:=D5 hc766 h765
    refine rn 2 [0] s d rfl rfl fun a s=>?_
    obtain ⟨rv769,h768,u⟩:=bt u
    refine q9 s (b0C h768 d.bdom (d.bE 0 rfl)) (d9 call178 rfl) ⟨_,rfl,rfl⟩ rfl rfl ?_
    rintro v773 Sv770 w a h771 rfl s
    have d:=d.callB h771
    refine rn0 2 s rfl fun a s=>?_
    refine wpList_nil ?_
    obtain rfl:=oi u
    exact tn ⟨Sv748,wj s d [0] [0]⟩
   have s:=s.bF 101 rfl h765
   have u:=D6 hc766 h765
   refine rn0 5 s rfl fun a s=>?_
   refine wpList_nil ?_
   obtain rfl:=oi u
   exact tn ⟨Sv748,wj s d [0] [0]⟩
  rintro a w ⟨Sv767,s,d⟩
  refine mv s rfl rfl fun a s=>?_
  obtain ⟨c785,hc785,u⟩:=bt u
  refine o7 4 (fun a w=>∃ Sv786,Sl 117 [(1,pt b5),(111,.bool c785)] a∧Wd ⟨w0,S0,[]⟩ Sv786 [.box b5 (a1y s1 p2 k3) 138] [Sq p2 k3 s1.Taps] w) ?_ ?_
  ·rcases Bool.eq_false_or_eq_true c766 with h784 | h784
   ·have s:=s.bT 107 rfl h784
    have u:=D5 hc785 h784
    refine rn 2 [0] s d rfl rfl fun a s=>?_
    obtain ⟨rv788,h787,u⟩:=bt u
    refine q9 s (M5 h787 d.bdom) (d9 call64 rfl) ⟨_,rfl,rfl⟩ rfl rfl ?_
    rintro v792 Sv789 w a h790 rfl s
    have d:=d.callB h790
    refine sv s (G8 rfl rfl) rfl fun a s=>?_
    refine wpList_nil ?_
    obtain rfl:=oi u
    exact tn ⟨Sv767,wj s d [0] [0]⟩
   have s:=s.bF 107 rfl h784
   have u:=D6 hc785 h784
   refine rn0 4 s rfl fun a s=>?_
   refine wpList_nil ?_
   obtain rfl:=oi u
   exact tn ⟨Sv767,wj s d [0] [0]⟩
  rintro a w ⟨Sv786,s,d⟩
  refine mv s rfl rfl fun a s=>?_
  obtain ⟨c804,hc804,u⟩:=bt u
  refine o7 4 (fun a w=>∃ Sv805,Sl 117 [(116,.bool c804)] a∧Wd ⟨w0,S0,[]⟩ Sv805 [] [] w) ?_ ?_
  ·rcases Bool.eq_false_or_eq_true c785 with h803 | h803
   ·have s:=s.bT 112 rfl h803
    have u:=D5 hc804 h803
    refine rn 2 [0] s d rfl rfl fun a s=>?_
    obtain ⟨rv807,h806,u⟩:=bt u
    refine q9 s (M5 h806 d.bdom) (d9 call64 rfl) ⟨_,rfl,rfl⟩ rfl rfl ?_
    rintro v811 Sv808 w a h809 rfl s
    have d:=d.callB h809
    refine sv s (G8 rfl rfl) rfl fun a s=>?_
    refine wpList_nil ?_
    obtain rfl:=oi u
    exact tn ⟨Sv786,wj s d [] []⟩
   have s:=s.bF 112 rfl h803
   have u:=D6 hc804 h803
   refine rn0 4 s rfl fun a s=>?_
   refine wpList_nil ?_
   obtain rfl:=oi u
   exact tn ⟨Sv786,wj s d [] []⟩
  rintro a w ⟨Sv805,s,d⟩
  refine rz0 1 s rfl fun a s=>?_
  obtain rfl:=oi u
  exact wp_ret (r9 (j3 (rt s rfl (d.ret rfl))))
 refine wp_skip (l9 (tn (sz0 1 s rfl fun a s=>?_)))
 obtain rfl:=oi u
 exact q1 s rfl (d.ret rfl)
end Go.Proofs.YteanekphncdhiaaGreat.Wk

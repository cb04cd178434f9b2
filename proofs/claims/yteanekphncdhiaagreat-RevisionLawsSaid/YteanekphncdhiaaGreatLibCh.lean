/- Rows whose elements hold rows of the call's own: an inventory's channels and their epochs. -/
import Derived.Test.YteanekphncdhiaaGreatDat
import Derived.Test.YteanekphncdhiaaGreatLa2
namespace Go.Proofs.YteanekphncdhiaaGreat.Wk
open Go Go.RowKit Go.Proofs.YteanekphncdhiaaGreat.Sh
set_option linter.unusedSimpArgs false
set_option linter.unusedVariables false
structure ChanR where
  Source:SourceID
  ep:Value
instance encChanR:Enc ChanR where
  sz:=5
  val:=fun cs=>.agg cs.toArray
  rd:=fun S w cs d=>cs=[.string d.Source.Network,.string d.Source.Station,.string d.Source.Location,.string d.Source.Channel,d.ep]∧∃ p n k,d.ep=.slice p n k
  mono:=fun hk h=>h
  len:=fun h=>by rw [h.1];rfl
  one:=fun h c hc=>by
    obtain ⟨h,p,n,k,he⟩:=h
    rw [h] at hc
    simp only [List.mem_cons,List.not_mem_nil,or_false] at hc
    rcases hc with rfl | rfl | rfl | rfl | rfl
    · rfl
    · rfl
    · rfl
    · rfl
    · rw [he];rfl
def ChOk (S:Nat→Prop) (w:World) (r:ChanR) (x:Channel):Prop:=∃ p n k,r.ep=.slice p n k∧a9k S w p n k x.Epochs
theorem ChOk.keep {S S':Nat→Prop} {w w':World} (hk:a2a S S' w w') {r:ChanR} {x:Channel} (h:ChOk S w r x):ChOk S' w' r x:=by
  obtain ⟨p,n,k,h1,h2⟩:=h
  exact ⟨p,n,k,h1,h2.keep hk⟩
theorem rd_raw {S:Nat→Prop} {w:World} {cs:List Value} {x:Channel} (h:Enc.rd S w cs x):∃ r:ChanR,Enc.rd S w cs r∧r.Source=x.Source∧ChOk S w r x:=by
  obtain ⟨c0,c1,c2,c3,c4,rfl,h0,h1,h2,h3,p,n,k,h4,h5⟩:=h
  refine ⟨⟨x.Source,c4⟩,⟨?_,p,n,k,h4⟩,rfl,p,n,k,h4,h5⟩
  rw [show c0=_ from h0,show c1=_ from h1,show c2=_ from h2,show c3=_ from h3]
theorem raw_rd {S:Nat→Prop} {w:World} {cs:List Value} {r:ChanR} {x:Channel} (h:Enc.rd S w cs r) (hs:r.Source=x.Source) (hc:ChOk S w r x):Enc.rd S w cs x:=by
  obtain ⟨h,_⟩:=h
  obtain ⟨p,n,k,h4,h5⟩:=hc
  refine ⟨_,_,_,_,_,h,by rw [hs];rfl,by rw [hs];rfl,by rw [hs];rfl,by rw [hs];rfl,p,n,k,h4,h5⟩
theorem b2h {S:Nat→Prop} {w:World}:∀ {xs:List Channel} {cs:List Value},RdL S w cs xs→∃ rs:List ChanR,RdL S w cs rs∧rs.length=xs.length∧∀ (i:Nat) r x,rs[i]? = some r→xs[i]? = some x→r.Source=x.Source∧ChOk S w r x
  | [],cs,h=>⟨[],h,rfl,fun i r x h=>by cases h⟩
  | x :: xs,cs,h=>by
    obtain ⟨r,h1,h2,h3⟩:=rd_raw h.1
    obtain ⟨rs,h4,h5,h6⟩:=b2h h.2
    refine ⟨r :: rs,⟨h1,h4⟩,by simp [h5],fun i r' x' hr hx=>?_⟩
    cases i with
    | zero=>simp only [List.getElem?_cons_zero,Option.some.injEq] at hr hx;subst hr;subst hx;exact ⟨h2,h3⟩
    | succ i=>simp only [List.getElem?_cons_succ] at hr hx;exact h6 i r' x' hr hx
theorem a8Q {S:Nat→Prop} {w:World}:∀ {xs:List Channel} {rs:List ChanR} {cs:List Value},RdL S w cs rs→rs.length=xs.length→(∀ (i:Nat) r x,rs[i]? = some r→xs[i]? = some x→r.Source=x.Source∧ChOk S w r x)→RdL S w cs xs
  | [],[],cs,h,_,_=>h
  | x :: xs,r :: rs,cs,h,hl,ha=>by
    obtain ⟨h1,h2⟩:=ha 0 r x rfl rfl
    exact ⟨raw_rd h.1 h1 h2,a8Q h.2 (by simpa using hl) fun i r' x' hr hx=>ha (i+1) r' x' (by simpa using hr) (by simpa using hx)⟩
  | [],_ :: _,_,_,hl,_=>by simp at hl
  | _ :: _,[],_,_,hl,_=>by simp at hl
theorem b0d {S S':Nat→Prop} {w w':World}:∀ {rs:List ChanR} {cs:List Value},RdL S w cs rs→RdL S' w' cs rs
  | [],_,h=>h
  | _ :: _,_,h=>⟨h.1,b0d h.2⟩
def delG {α:Type} (z:α) (s1:List α) (i6 j7:Int):Option (List α):=
  (D8 s1 i6 j7).bind fun l12=>
  (if (i6 == j7)=true then
    some s1
  else
    (some (s1.length:Int)).bind fun oldlen16=>
    (D8 s1 0 i6).bind fun l19=>
    (D8 s1 j7 (s1.length:Int)).bind fun l22=>
    (some (l19 ++ l22 ++ s1.drop (l19 ++ l22).length)).bind fun l27=>
    (D8 l27 ((l19 ++ l22).length:Int) oldlen16).bind fun l31=>
    (some (I1 l27 ((l19 ++ l22).length:Int) oldlen16 (List.replicate l31.length z))).bind fun l34=>
    (D8 l34 0 ((l19 ++ l22).length:Int)).bind fun l39=>
    some l39)
theorem a7y {α:Type} {s:List α} {i j:Int} (z:α) (h0:0≤i) (h1:i≤j) (h2:j≤s.length):delG z s i j=some (s.take i.toNat ++ s.drop j.toNat):=by
  unfold delG
  have e1:D8 s i j=some ((s.take j.toNat).drop i.toNat):=by unfold D8;rw [if_pos ⟨h0,h1,h2⟩]
  rw [e1,Option.bind_some]
  by_cases hij:i=j
  · subst hij
    rw [if_pos (by simp),List.take_append_drop]
  · rw [if_neg (by simpa using hij)]
    have e2:D8 s 0 i=some (s.take i.toNat):=by unfold D8;rw [if_pos ⟨Int.le_refl _,h0,by omega⟩];simp
    have e3:D8 s j (s.length:Int)=some (s.drop j.toNat):=by unfold D8;rw [if_pos ⟨by omega,h2,Int.le_refl _⟩];simp
    simp only [Option.bind_some,e2,e3]
    obtain ⟨A,hA⟩:∃ A,A=s.take i.toNat ++ s.drop j.toNat:=⟨_,rfl⟩
    have hAl:A.length≤s.length:=by rw [hA];simp;omega
    rw [← hA]
    have hBl:(A ++ s.drop A.length).length=s.length:=by simp;omega
    have e4:D8 (A ++ s.drop A.length) (A.length:Int) (s.length:Int)=some (s.drop A.length):=by
      unfold D8;rw [if_pos ⟨by omega,by omega,by omega⟩]
      simp only [Int.toNat_natCast]
      rw [List.take_of_length_le (by omega),List.drop_left]
    rw [e4,Option.bind_some]
    have e5:(I1 (A ++ s.drop A.length) (A.length:Int) (s.length:Int) (List.replicate (s.drop A.length).length z)).take A.length=A:=by
      unfold I1
      simp only [Int.toNat_natCast]
      rw [List.take_append_of_le_length (by simp),List.take_append_of_le_length (by simp),List.take_take,Nat.min_self,List.take_left]
    have e6:A.length≤(I1 (A ++ s.drop A.length) (A.length:Int) (s.length:Int) (List.replicate (s.drop A.length).length z)).length:=by
      unfold I1;simp
    unfold D8
    rw [if_pos ⟨Int.le_refl _,by omega,by omega⟩]
    simp only [Option.bind_some,Int.toNat_zero,List.drop_zero,Int.toNat_natCast,e5]
theorem delG_t {α:Type} {s r:List α} {i j:Int} {z:α} (h:delG z s i j=some r):0≤i∧i≤j∧j≤s.length∧r=s.take i.toNat ++ s.drop j.toNat:=by
  have h':=h
  unfold delG at h'
  obtain ⟨_,e1,_⟩:=O6 h'
  obtain ⟨⟨h0,h1,h2⟩,_⟩:=a0c e1
  rw [a7y z h0 h1 h2] at h
  exact ⟨h0,h1,h2,(Option.some.inj h).symm⟩
theorem b5a {i:Int} (h:i≤w64 (i+1)) (h0:0≤i):w64 (i+1)=i+1:=by
  simp only [w64,IntKind.wrap,IntKind.bits,IntKind.signed] at h ⊢
  simp only [Int.reducePow,Nat.reduceSub,Bool.true_and] at h ⊢
  split at h
  · next h1=>have h1:=of_decide_eq_true h1;omega
  · next h1=>have h2:=mt decide_eq_true h1;rw [if_neg h1];omega
def zR:ChanR:=⟨⟨ByteArray.empty,ByteArray.empty,ByteArray.empty,ByteArray.empty⟩,.slice none 0 0⟩
theorem notX {S:Nat→Prop} {w:World} {R:List Res} (hi:Ins S w R) {b:Nat} (hb:S b):b ∉ H8 R:=fun h=>by
  obtain ⟨r,hr,he⟩:=a3C.1 h
  exact (hi.at_ r hr b he).1 hb
def less (S:Nat→Prop) (p:Option Addr):Nat→Prop:=fun b=>S b∧p.map (·.block)≠some b
theorem b1y {S S':Nat→Prop} {w w':World} (hk:a2a S S' w w') (p:Option Addr):a2a (less S p) (less S' p) w w':=fun b hb=>⟨⟨(hk b hb.1).1,hb.2⟩,(hk b hb.1).2⟩
theorem b2g {S S':Nat→Prop} {w w':World} (hk:a2a S S' w w') {p:Option Addr} {n k:Nat} {cs:List Value} {T:TypeId} {sz:Nat} (hS:∀ b,p.map (·.block)=some b→S b) (h:(Res.row p n k cs T sz).own w):(Res.row p n k cs T sz).own w':=by
  obtain ⟨hl,ho⟩:=h
  refine ⟨hl,?_⟩
  rcases ho with ho | ⟨g,cap,cur,e1,e2,e3,e4⟩
  · exact .inl ho
  · refine .inr ⟨g,cap,cur,e1,e2,?_,e4⟩
    simp only [Value.slice.injEq] at e1
    rw [(hk g (hS g (by rw [e1.1];rfl))).2]
    exact e3
def UqA (N0:Nat) (cs:List Value) (xs:List Channel):Asrt:=⟨fun S w=>∃ rs:List ChanR,RdL S w cs rs∧rs.length=xs.length∧∀ (i:Nat) r x,rs[i]? = some r→xs[i]? = some x→r.Source=x.Source ∧
    ∃ p k ics,r.ep=.slice p x.Epochs.length k∧(Res.row p x.Epochs.length k ics 41 8).own w∧(∀ b,p.map (·.block)=some b→N0≤b∧S b)∧RdL (less S p) w ics x.Epochs ∧
      ∀ (j:Nat) r' x',j≠i→rs[j]? = some r'→xs[j]? = some x'→ChOk (less S p) w r' x',
  fun {S S' w w'} hk h=>by
    obtain ⟨rs,h1,h2,h3⟩:=h
    refine ⟨rs,h1.keep hk,h2,fun i r x hr hx=>?_⟩
    obtain ⟨g1,p,k,ics,g2,g3,g4,g5,g6⟩:=h3 i r x hr hx
    exact ⟨g1,p,k,ics,g2,b2g hk (fun b hb=>(g4 b hb).2) g3,fun b hb=>⟨(g4 b hb).1,(hk b (g4 b hb).2).1⟩,g5.keep (b1y hk p),fun j r' x' hj hr' hx'=>(g6 j r' x' hj hr' hx').keep (b1y hk p)⟩⟩
theorem UqA.le {N0 N1:Nat} {cs:List Value} {xs:List Channel} {S:Nat→Prop} {w:World} (h:(UqA N1 cs xs).p S w) (hn:N0≤N1):(UqA N0 cs xs).p S w:=by
  obtain ⟨rs,h1,h2,h3⟩:=h
  refine ⟨rs,h1,h2,fun i r x hr hx=>?_⟩
  obtain ⟨g1,p,k,ics,g2,g3,g4,g5⟩:=h3 i r x hr hx
  exact ⟨g1,p,k,ics,g2,g3,fun b hb=>⟨Nat.le_trans hn (g4 b hb).1,(g4 b hb).2⟩,g5⟩
def a8C (cs:List Value) (xs:List Channel) (b:Bool) (j:Int):Asrt:=⟨fun S w=>∃ rs:List ChanR,RdL S w cs rs∧rs.length=xs.length∧∀ (i:Nat) r x,rs[i]? = some r→xs[i]? = some x→r.Source=x.Source∧((b=true→(i:Int)≠j)→ChOk S w r x),
  fun hk h=>by
    obtain ⟨rs,h1,h2,h3⟩:=h
    refine ⟨rs,h1.keep hk,h2,fun i r x hr hx=>?_⟩
    obtain ⟨g1,g2⟩:=h3 i r x hr hx
    exact ⟨g1,fun hi=>(g2 hi).keep hk⟩⟩
theorem w64_inD {x:Int} (h1:-9223372036854775808≤x) (h2:x≤9223372036854775807):w64 x=x:=by
  simp only [w64,IntKind.wrap,IntKind.bits,IntKind.signed]
  simp only [Int.reducePow,Nat.reduceSub,Bool.true_and]
  split
  · next h=>have h:=of_decide_eq_true h;omega
  · next h=>have h:=mt decide_eq_true h;omega
section
variable {P:Program} {ops:Array Oper} {Q:Exit→Act→World→Prop} {rest:List Oper} {N:Nat} {L:C8} {a:Act} {w:World} {fx:Fx} {S:Nat→Prop} {R:List Res} {E:List Asrt}
variable {ty:TypeId} {pos:String} {af:Array Edge} {g:Option (Nat × Bool)} {d:Nat} {dd:Option Tmp}
theorem Wd.keep0 (hw:Wd fx S R E w) (hX:fx.X=[]) (hS:∀ b,fx.S0 b→b<fx.w0.heap.size):a2a fx.S0 S fx.w0 w:=fun b hb=>⟨hw.s0 b hb,hw.keep b (hS b hb) (by rw [hX];simp)⟩
theorem Wd.toHole (hw:Wd fx S R E w) (ie:Nat) {cs:List Value} {xs:List Channel} (hE:E[ie]? = some (j6 cs xs)) {b:Bool} (j:Int) (hb:b=false):Wd fx S R (a8C cs xs b j :: E) w:=by
  obtain ⟨rs,h1,h2,h3⟩:=b2h (hw.envAt ie hE)
  exact hw.addE ⟨rs,h1,h2,fun i r x hr hx=>⟨(h3 i r x hr hx).1,fun _=>(h3 i r x hr hx).2⟩⟩
theorem Wd.ofHole (hw:Wd fx S R E w) (ie:Nat) {cs:List Value} {xs:List Channel} {b:Bool} {j:Int} (hE:E[ie]? = some (a8C cs xs b j)) (hb:b=false):Wd fx S R (j6 cs xs :: E) w:=by
  obtain ⟨rs,h1,h2,h3⟩:=hw.envAt ie hE
  exact hw.addE (a8Q h1 h2 fun i r x hr hx=>⟨(h3 i r x hr hx).1,(h3 i r x hr hx).2 fun h=>by rw [hb] at h;cases h⟩)
theorem Wd.unshare (hw:Wd fx S R E w) (hX:fx.X=[]) (hS:∀ b,fx.S0 b→b<fx.w0.heap.size) (iu:Nat) {N0:Nat} {cs:List Value} {xs:List Channel} (hE:E[iu]? = some (UqA N0 cs xs)) (hn:fx.w0.heap.size≤N0) {j:Int} {x:Channel} (hx:ix xs j=some x)
    {q:Nat} (hq:0+j.toNat * 5=q) {c0 c1 c2 c3:Value} {p:Option Addr} {n k:Nat} (hes:(cs.drop q).take 5=[c0,c1,c2,c3,.slice p n k]) {b:Bool} (hb:b=true) :
    ∃ S' ics,Wd fx S' (.row p x.Epochs.length k ics 41 8 :: R) [j6 ics x.Epochs,a8C cs xs b j] w:=by
  obtain ⟨h0,h1,h2⟩:=ix_t hx
  obtain ⟨rs,u1,u2,u3⟩:=hw.envAt iu hE
  have hl:j.toNat<rs.length:=by omega
  have hg:=u1.get j.toNat hl
  have hq':(cs.drop (j.toNat * 5)).take 5=[c0,c1,c2,c3,.slice p n k]:=by rw [← hes,← hq,Nat.zero_add]
  obtain ⟨hg1,-⟩:=hg
  have hg2:(cs.drop (j.toNat * 5)).take 5=_:=hg1
  rw [hq'] at hg2
  simp only [List.cons.injEq,and_true] at hg2
  obtain ⟨-,-,-,-,hep⟩:=hg2
  obtain ⟨g1,p',k',ics,g2,g3,g4,g5,g6⟩:=u3 j.toNat _ x (List.getElem?_eq_getElem hl) h2
  rw [← hep] at g2
  simp only [Value.slice.injEq] at g2
  obtain ⟨rfl,rfl,rfl⟩:=g2
  have hblk:∀ b,(Res.row p x.Epochs.length k ics 41 8).blk=some b→N0≤b∧S b:=g4
  refine ⟨less S p,ics,⟨hw.os,hw.tape,hw.output,hw.drawn,hw.size,hw.keep,fun r hr=>?_,fun r hr b' hb'=>?_,List.pairwise_cons.2 ⟨fun r hr b' hb' he=>?_,hw.apart⟩,fun b' hb'=>⟨hw.s0 b' hb',fun he=>?_⟩,fun b' hb'=>hw.sin b' hb'.1,fun e he=>?_⟩⟩
  · rcases List.mem_cons.1 hr with rfl | hr
    · exact g3
    · exact hw.own r hr
  · rcases List.mem_cons.1 hr with rfl | hr
    · obtain ⟨z1,z2⟩:=hblk b' hb'
      exact ⟨fun h=>h.2 hb',(hw.sin b' z2).1,.inr (Nat.le_trans hn z1)⟩
    · obtain ⟨z1,z2,z3⟩:=hw.at_ r hr b' hb'
      exact ⟨fun h=>z1 h.1,z2,z3⟩
  · exact (hw.at_ r hr b' he).1 (hblk b' hb').2
  · have:=(hblk b' he).1
    have:=hS b' hb'
    omega
  · simp only [List.mem_cons,List.not_mem_nil,or_false] at he
    rcases he with rfl | rfl
    · exact g5
    · refine ⟨rs,b0d u1,u2,fun i r y hr hy=>⟨(u3 i r y hr hy).1,fun hi=>?_⟩⟩
      have:=hi hb
      exact g6 i r y (by omega) hr hy
theorem Wd.elemHV (hw:Wd fx S R E w) (i:Nat) {p:Option Addr} {k:Nat} {cs:List Value} {xs:List Channel} (hr:R[i]? = some (.row p xs.length k cs 73 5)) {j:Int} {x:Channel} (hx:ix xs j=some x) :
    ∃ b q,p=some ⟨b,0,none⟩∧(0≤j∧j<(xs.length:Int))∧0+j.toNat * 5=q:=by
  obtain ⟨h0,h1,h2⟩:=ix_t hx
  obtain ⟨b,rfl⟩:=a2i (hw.ownAt i hr) (by omega)
  exact ⟨b,_,rfl,⟨h0,h1⟩,rfl⟩
theorem b3i {x y:Operand} {b k q k2:Nat} {p2:Option Addr} {ys:List Epoch} {cs:List Value} {xs xs':List Channel} {z:Channel} {bb:Bool} {j:Int} (hs:Sl N L a) (hw:Wd fx S R E w) (i:Nat) (hr:R[i]? = some (.row (some ⟨b,0,none⟩) xs.length k cs 73 5)) (ie:Nat) (hE:E[ie]? = some (a8C cs xs bb j))
    (iy:Nat) (hY:E[iy]? = some (SlA p2 ys.length k2 ys)) (hz:ix xs j=some z) (hq:0+j.toNat * 5=q) (hx:ev L x=some (.pointer (some ⟨b,q+4,none⟩))) (hy:ev L y=some (.slice p2 ys.length k2)) (hsz:SzT P 71 1)
    (hset:a3Q xs j ⟨z.Source,ys⟩=some xs') (hwt:Wanted ops L g)
    (K:∀ cs' a w,Sl N L a→Wd fx S (R.set i (.row (some ⟨b,0,none⟩) xs'.length k cs' 73 5)) (j6 cs' xs' :: E) w→wpList P ops Q rest a w):wpList P ops Q (⟨none,.store 71 x y,ty,pos,af,g⟩ :: rest) a w:=by
  obtain ⟨rs,h1,h2,h3⟩:=hw.envAt ie hE
  obtain ⟨hbd,rfl⟩:=b0J hset
  obtain ⟨z0,z1,z2⟩:=ix_t hz
  have hl:j.toNat<rs.length:=by omega
  have hrset:a3Q rs j ⟨z.Source,.slice p2 ys.length k2⟩=some (rs.set j.toNat ⟨z.Source,.slice p2 ys.length k2⟩):=by
    unfold a3Q;rw [if_pos (by omega)]
  have hr':R[i]? = some (.row (some ⟨b,0,none⟩) rs.length k cs 73 5):=by rw [h2];exact hr
  have hsrc:(rs[j.toNat]'hl).Source=z.Source:=(h3 j.toNat _ z (List.getElem?_eq_getElem hl) z2).1
  have hw2:=hw.addE (e:=j6 cs rs) h1
  refine a5l (α:=ChanR) (f:=4) (m:=1) hs hw2 i hr' 0 rfl hq hx hy hsz rfl rfl rfl hrset (fun es he=>?_) hwt fun cs' a w' hs hw'=>?_
  · have hg:=(h1.get j.toNat hl).1
    rw [show j.toNat * Enc.sz ChanR=q by rw [← hq,Nat.zero_add];rfl,he] at hg
    rw [hg]
    refine ⟨?_,_,_,_,rfl⟩
    simp only [List.take_succ_cons,List.take_zero,List.drop_succ_cons,List.drop_zero,hsrc]
    rfl
  · have hraw:RdL S w' cs' (rs.set j.toNat ⟨z.Source,.slice p2 ys.length k2⟩):=hw'.envAt 0 rfl
    have hho:=hw'.envAt (ie+2) (e:=a8C cs xs bb j) (by simpa using hE)
    obtain ⟨rs2,g1,g2,g3⟩:=hho
    have hyy:=hw'.envAt (iy+2) (e:=SlA p2 ys.length k2 ys) (by simpa using hY)
    have hrr:rs2=rs:=by
      apply List.ext_getElem (by omega)
      intro n n1 n2
      have e1:=(g1.get n n1).1
      have e2:=(h1.get n n2).1
      rw [show Enc.sz ChanR=5 from rfl] at e1 e2
      rw [e2] at e1
      simp only [List.cons.injEq,Value.string.injEq,and_true] at e1
      obtain ⟨f0,f1,f2,f3,f4⟩:=e1
      cases hA:rs2[n] with
      | mk sA vA=>
        cases hB:rs[n] with
        | mk sB vB=>
          rw [hA,hB] at f0 f1 f2 f3 f4
          cases sA;cases sB
          simp only at f0 f1 f2 f3 f4
          subst f0;subst f1;subst f2;subst f3;subst f4;rfl
    subst hrr
    have hrow:RdL S w' cs' (xs.set j.toNat ⟨z.Source,ys⟩):=by
      refine a8Q hraw (by simp [h2]) fun n r' x' hr' hx'=>?_
      rw [List.getElem?_set] at hr' hx'
      by_cases hn:j.toNat=n
      · rw [if_pos hn,if_pos (by omega)] at hr'
        rw [if_pos hn,if_pos (by omega)] at hx'
        cases hr';cases hx'
        exact ⟨rfl,p2,_,k2,rfl,hyy⟩
      · rw [if_neg hn] at hr' hx'
        obtain ⟨f1,f2⟩:=g3 n r' x' hr' hx'
        exact ⟨f1,f2 fun _=>by omega⟩
    have hw3:=(hw'.setE E (a3Z.of ((List.range E.length).map (·+2)) (by
        rw [List.map_map]
        apply List.ext_getElem?
        intro n
        simp only [List.getElem?_map,List.getElem?_range,Function.comp]
        by_cases hn:n<E.length
        · simp [hn]
        · simp [hn]))).addE (e:=j6 cs' _) hrow
    have hll:(rs2.set j.toNat ⟨z.Source,.slice p2 ys.length k2⟩).length=(xs.set j.toNat ⟨z.Source,ys⟩).length:=by simp [h2]
    rw [hll] at hw3
    exact K cs' a w' hs hw3
theorem Wd.permR {R':List Res} (hw:Wd fx S R E w) (hp:R'.Perm R):Wd fx S R' E w:=
  { hw with
    own:=fun r hr=>hw.own r (hp.mem_iff.1 hr)
    at_:=fun r hr=>hw.at_ r (hp.mem_iff.1 hr)
    apart:=(hp.pairwise_iff (fun {x y} h b hb hb'=>h b hb' hb)).2 hw.apart }
theorem Wd.shareT {fx:Fx} {R:List Res} {E:List Asrt} {w:World}:∀ {tail:List Res} {S:Nat→Prop},Wd fx S (R ++ tail) E w→Wd fx (fun b=>S b∨∃ r∈tail,r.blk=some b) R E w
  | [],S,hw=>by
    have:(fun b=>S b∨∃ r∈([]:List Res),r.blk=some b)=S:=by funext b;simp
    rw [this];simpa using hw
  | t :: tail,S,hw=>by
    have hp:Wd fx S (t :: (R ++ tail)) E w:=hw.permR List.perm_middle.symm
    have h1:=hp.share 0 rfl (fun b=>S b∨t.blk=some b) (fun b=>Iff.rfl)
    have h2:=Wd.shareT (tail:=tail) (S:=fun b=>S b∨t.blk=some b) h1
    have:(fun b=>S b∨∃ r∈t :: tail,r.blk=some b)=(fun b=>(S b∨t.blk=some b)∨∃ r∈tail,r.blk=some b):=by
      funext b
      simp only [List.mem_cons,exists_eq_or_imp,or_assoc]
    rw [this];exact h2
def CpA (rs:List ChanR) (xs:List Channel) (tail:List Res) (n:Nat):Asrt:=⟨fun S w=>rs.length=xs.length∧tail.length=n∧∀ (j:Nat) r x,rs[j]? = some r→xs[j]? = some x→r.Source=x.Source ∧
    (j<n→∃ p k ics,r.ep=.slice p x.Epochs.length k∧tail[j]? = some (.row p x.Epochs.length k ics 41 8)∧RdL S w ics x.Epochs)∧(n≤j→ChOk S w r x),
  fun hk h=>by
    obtain ⟨h1,h2,h3⟩:=h
    refine ⟨h1,h2,fun j r x hr hx=>?_⟩
    obtain ⟨g1,g2,g3⟩:=h3 j r x hr hx
    refine ⟨g1,fun hj=>?_,fun hj=>(g3 hj).keep hk⟩
    obtain ⟨p,k,ics,e1,e2,e3⟩:=g2 hj
    exact ⟨p,k,ics,e1,e2,e3.keep hk⟩⟩
theorem Wd.toCp (hw:Wd fx S R E w) (ie:Nat) {cs:List Value} {xs:List Channel} (hE:E[ie]? = some (j6 cs xs)):∃ rs:List ChanR,Wd fx S R (j6 cs rs :: CpA rs xs [] 0 :: E) w:=by
  obtain ⟨rs,h1,h2,h3⟩:=b2h (hw.envAt ie hE)
  exact ⟨rs,(hw.addE (e:=CpA rs xs [] 0) ⟨h2,rfl,fun j r x hr hx=>⟨(h3 j r x hr hx).1,fun h=>absurd h (Nat.not_lt_zero _),fun _=>(h3 j r x hr hx).2⟩⟩).addE (e:=j6 cs rs) h1⟩
theorem Wd.elemCp (hw:Wd fx S R E w) (i:Nat) {p:Option Addr} {k:Nat} {cs:List Value} {xs:List Channel} (hr:R[i]? = some (.row p xs.length k cs 73 5)) (ir:Nat) {rs:List ChanR} (hE:E[ir]? = some (j6 cs rs)) (ic:Nat) {tail:List Res} {n:Nat} (hC:E[ic]? = some (CpA rs xs tail n))
    {j:Int} {x:Channel} (hn:n≤j.toNat) (hx:ix xs j=some x):∃ b q es,p=some ⟨b,0,none⟩∧(0≤j∧j<(xs.length:Int))∧0+j.toNat * 5=q∧(cs.drop q).take 5=es∧Enc.rd S w es x:=by
  obtain ⟨h0,h1,h2⟩:=ix_t hx
  obtain ⟨b,rfl⟩:=a2i (hw.ownAt i hr) (by omega)
  have u1:RdL S w cs rs:=hw.envAt ir hE
  obtain ⟨g1,g2,g3⟩:=hw.envAt ic hC
  have hl:j.toNat<rs.length:=by omega
  obtain ⟨f1,f2,f3⟩:=g3 j.toNat _ x (List.getElem?_eq_getElem hl) h2
  exact ⟨b,_,_,rfl,⟨h0,h1⟩,rfl,by rw [Nat.zero_add];rfl,raw_rd (u1.get j.toNat hl) f1 (f3 hn)⟩
theorem b5b {r1 r2 r3:Res} {tail:List Res} {x y:Operand} {b k q n kI:Nat} {pI:Option Addr} {ics:List Value} {ys:List Epoch} {cs:List Value} {rs:List ChanR} {xs xs':List Channel} {src:SourceID} {idx:Int} (hs:Sl N L a)
    (hw:Wd fx S (.row pI ys.length kI ics 41 8 :: r1 :: r2 :: r3 :: .row (some ⟨b,0,none⟩) xs.length k cs 73 5 :: tail) E w) (iI:Nat) (hI:E[iI]? = some (j6 ics ys)) (ir:Nat) (hE:E[ir]? = some (j6 cs rs)) (ic:Nat) (hC:E[ic]? = some (CpA rs xs tail n))
    (hn:idx.toNat=n) (hq:0+idx.toNat * 5=q) (hx:ev L x=some (.pointer (some ⟨b,q,none⟩))) (hy:ev L y=some (.agg #[.string src.Network,.string src.Station,.string src.Location,.string src.Channel,.slice pI ys.length kI])) (hsz:SzT P 73 5) (hset:a3Q xs idx ⟨src,ys⟩=some xs') (hwt:Wanted ops L g)
    (K:∀ cs' rs' a w,Sl N L a→Wd fx S (r1 :: r2 :: r3 :: .row (some ⟨b,0,none⟩) xs'.length k cs' 73 5 :: (tail ++ [.row pI ys.length kI ics 41 8])) (j6 cs' rs' :: CpA rs' xs' (tail ++ [.row pI ys.length kI ics 41 8]) (n+1) :: E) w→wpList P ops Q rest a w) :
    wpList P ops Q (⟨none,.store 73 x y,ty,pos,af,g⟩ :: rest) a w:=by
  obtain ⟨g1,g2,g3⟩:=hw.envAt ic hC
  obtain ⟨hbd,rfl⟩:=b0J hset
  have hrset:a3Q rs idx ⟨src,.slice pI ys.length kI⟩=some (rs.set idx.toNat ⟨src,.slice pI ys.length kI⟩):=by
    unfold a3Q;rw [if_pos (by omega)]
  have hw2:=hw.fixR 4 (r':=.row (some ⟨b,0,none⟩) rs.length k cs 73 5) rfl (by rw [g1])
  refine a5k (α:=ChanR) hs hw2 4 rfl ir hE hq hx hy hsz rfl hrset ⟨rfl,_,_,_,rfl⟩ hwt fun cs' a w' hs hw'=>?_
  obtain ⟨f1,f2,f3⟩:=hw'.envAt (ic+1) (e:=CpA rs xs tail n) (by simpa using hC)
  have hy':RdL S w' ics ys:=hw'.envAt (iI+1) (e:=j6 ics ys) (by simpa using hI)
  have hr':RdL S w' cs' _:=hw'.envAt 0 rfl
  have hcp:(CpA (rs.set idx.toNat ⟨src,.slice pI ys.length kI⟩) (xs.set idx.toNat ⟨src,ys⟩) (tail ++ [.row pI ys.length kI ics 41 8]) (n+1)).p S w':=by
    refine ⟨by simp [g1],by simp [g2],fun j r x hr hx=>?_⟩
    rw [List.getElem?_set] at hr hx
    by_cases hj:idx.toNat=j
    · rw [if_pos hj,if_pos (by omega)] at hr
      rw [if_pos hj,if_pos (by omega)] at hx
      cases hr;cases hx
      refine ⟨rfl,fun _=>⟨pI,kI,ics,rfl,?_,hy'⟩,fun h=>by omega⟩
      rw [List.getElem?_append_right (by omega)]
      simp [show j - tail.length=0 by omega]
    · rw [if_neg hj] at hr hx
      obtain ⟨e1,e2,e3⟩:=f3 j r x hr hx
      refine ⟨e1,fun h=>?_,fun h=>e3 (by omega)⟩
      obtain ⟨p,k,ic,z1,z2,z3⟩:=e2 (by omega)
      exact ⟨p,k,ic,z1,by rw [List.getElem?_append_left (by omega)];exact z2,z3⟩
  have hw3:=(hw'.setE E (a3Z.of ((List.range E.length).map (·+1)) (by
        rw [List.map_map]
        apply List.ext_getElem?
        intro n
        simp only [List.getElem?_map,List.getElem?_range,Function.comp]
        by_cases hn:n<E.length
        · simp [hn]
        · simp [hn]))).addE hcp
  have hw4:=hw3.addE (e:=j6 cs' _) hr'
  have hw5:=hw4.fixR 4 (r':=.row (some ⟨b,0,none⟩) (xs.set idx.toNat ⟨src,ys⟩).length k cs' 73 5) rfl (by simp only [List.length_set,g1];rfl)
  exact K cs' _ a w' hs (hw5.permR (List.perm_append_singleton _ (r1 :: r2 :: r3 :: .row (some ⟨b,0,none⟩) (xs.set idx.toNat ⟨src,ys⟩).length k cs' 73 5 :: tail)))
theorem Wd.uq_of {r1 r2:Res} {tail:List Res} {p:Option Addr} {k:Nat} {cs:List Value} {xs:List Channel} {rs:List ChanR} {n:Nat} (hw:Wd fx S (r1 :: r2 :: .row p xs.length k cs 73 5 :: tail) E w) (hX:fx.X=[]) (ir:Nat) (hE:E[ir]? = some (j6 cs rs)) (ic:Nat) (hC:E[ic]? = some (CpA rs xs tail n)) (hn:n=xs.length) :
    ∃ S',Wd fx S' [r1,r2,.row p xs.length k cs 73 5] (UqA fx.w0.heap.size cs xs :: j6 cs xs :: E) w:=by
  subst hn
  have hw2:Wd fx S ([r1,r2,.row p xs.length k cs 73 5] ++ tail) E w:=hw
  have hw3:=hw2.shareT
  obtain ⟨g1,g2,g3⟩:=hw.envAt ic hC
  have u1:RdL S w cs rs:=hw.envAt ir hE
  have hmem:∀ r,r∈tail→r∈r1 :: r2 :: Res.row p xs.length k cs 73 5 :: tail:=fun r hr=>by simp [hr]
  have hget:∀ (i:Nat) r x,rs[i]? = some r→xs[i]? = some x→r.Source=x.Source∧∃ p k ics,r.ep=.slice p x.Epochs.length k∧tail[i]? = some (.row p x.Epochs.length k ics 41 8)∧RdL S w ics x.Epochs:=fun i r x hr hx=>by
    obtain ⟨e1,e2,_⟩:=g3 i r x hr hx
    exact ⟨e1,e2 (List.getElem?_eq_some_iff.1 hx).1⟩
  have hown:∀ (i:Nat) r,tail[i]? = some r→r.own w:=fun i r h=>hw.own r (hmem r (List.mem_of_getElem? h))
  have hat:∀ (i:Nat) r,tail[i]? = some r→∀ b,r.blk=some b→¬ S b∧fx.w0.heap.size≤b:=fun i r h b hb=>by
    obtain ⟨h1,h2,h3⟩:=hw.at_ r (hmem r (List.mem_of_getElem? h)) b hb
    rw [hX] at h3
    exact ⟨h1,by simpa using h3⟩
  have hap:∀ (i j:Nat) r s,i≠j→tail[i]? = some r→tail[j]? = some s→∀ b,r.blk=some b→s.blk≠some b:=fun i j r s hij hr hs b hb hb'=>by
    have hp:=List.pairwise_iff_getElem.1 hw.apart
    obtain ⟨i1,i2⟩:=List.getElem?_eq_some_iff.1 hr
    obtain ⟨j1,j2⟩:=List.getElem?_eq_some_iff.1 hs
    rcases Nat.lt_or_gt_of_ne hij with h | h
    · exact hp (i+3) (j+3) (by simpa using i1) (by simpa using j1) (by omega) b (by simpa [i2] using hb) (by simpa [j2] using hb')
    · exact hp (j+3) (i+3) (by simpa using j1) (by simpa using i1) (by omega) b (by simpa [j2] using hb') (by simpa [i2] using hb)
  refine ⟨_,((hw3.addE (e:=j6 cs xs) ?_).addE (e:=UqA fx.w0.heap.size cs xs) ?_)⟩
  · refine a8Q (b0d u1) g1 fun i r x hr hx=>?_
    obtain ⟨e1,p',k',ics,e2,e3,e4⟩:=hget i r x hr hx
    refine ⟨e1,p',_,k',e2,?_⟩
    have e5:RdL (fun b=>S b∨∃ r∈tail,r.blk=some b) w ics x.Epochs:=e4.keep (fun b hb=>⟨.inl hb,rfl⟩)
    exact RdL.sl (hown i _ e3) e5 fun b hb=>.inr ⟨_,List.mem_of_getElem? e3,hb⟩
  · refine ⟨rs,b0d u1,g1,fun i r x hr hx=>?_⟩
    obtain ⟨e1,p',k',ics,e2,e3,e4⟩:=hget i r x hr hx
    have hlk:a2a S (less (fun b=>S b∨∃ r∈tail,r.blk=some b) p') w w:=fun b hb=>⟨⟨.inl hb,fun he=>(hat i _ e3 b he).1 hb⟩,rfl⟩
    refine ⟨e1,p',k',ics,e2,hown i _ e3,fun b hb=>⟨(hat i _ e3 b hb).2,.inr ⟨_,List.mem_of_getElem? e3,hb⟩⟩,e4.keep hlk,fun j r' x' hj hr' hx'=>?_⟩
    obtain ⟨z1,p2,k2,ics2,z2,z3,z4⟩:=hget j r' x' hr' hx'
    exact ⟨p2,_,k2,z2,RdL.sl (hown j _ z3) (z4.keep hlk) fun b hb=>⟨.inr ⟨_,List.mem_of_getElem? z3,hb⟩,fun he=>hap i j _ _ (Ne.symm hj) e3 z3 b he hb⟩⟩
end
end Go.Proofs.YteanekphncdhiaaGreat.Wk

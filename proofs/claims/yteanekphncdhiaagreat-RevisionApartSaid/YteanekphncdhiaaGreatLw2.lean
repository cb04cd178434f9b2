/- The plain law: what the plain programs compute, put together in one text. -/
import Derived.Test.YteanekphncdhiaaGreatLw1
namespace Go.Proofs.YteanekphncdhiaaGreat.Sh
open Go
set_option linter.unusedVariables false
set_option linter.unusedSimpArgs false
theorem b3p {inv:Inventory} (h:CI inv):a6e inv inv=some true:=by
 unfold a6e
 rw [if_neg (by simp)]
 obtain ⟨r,er,rfl⟩:=Y8 (body:=a4e inv inv) (fun (_:Unit) i=>i) inv.Channels.length (fun _ _=>True) (fun r=>r=true) (fun i hi a _=>by
  refine ⟨(),?_,trivial⟩
  have hc:=h.2 _ (List.getElem_mem hi)
  have hn:=h.1
  unfold a4e
  rw [if_pos (decide_eq_true (by omega)),o8 _ _ hi]
  simp only [Option.bind_some,a6o,decide_eq_true (rfl:inv.Channels[i].Source=inv.Channels[i].Source),Bool.not_true,Bool.false_or,bne_self_eq_false,Bool.false_eq_true,if_false]
  obtain ⟨r,er,rfl⟩:=Y8 (body:=a3t (i:Int) inv.Channels[i] inv.Channels[i]) (fun (_:Unit) i=>i) inv.Channels[i].Epochs.length (fun _ _=>True) (fun r=>r=.inl ((i+1:Nat):Int)) (fun k hk a _=>by
   refine ⟨(),?_,trivial⟩
   have he:=hc.2 _ (List.getElem_mem hk)
   unfold a3t
   obtain ⟨c,e1,h1⟩:=a5p (a:=inv.Channels[i].Epochs[k]) (b:=inv.Channels[i].Epochs[k]) he.ef
   rw [if_pos (decide_eq_true (by omega)),o8 _ _ hk]
   simp only [Option.bind_some]
   rw [e1,h1.2 rfl,O3 (by omega)]
   rfl) (fun a _=>by
   unfold a3t
   rw [if_neg (by simp),O3 (by omega)]
   exact ⟨_,rfl,rfl⟩) () trivial
  exact er) (fun a _=>by
  unfold a4e
  rw [if_neg (by simp)]
  exact ⟨_,rfl,rfl⟩) () trivial
 exact er
theorem VI.one {inv:Inventory} (h:VI inv) {s:SourceID} {e f:Epoch} (he:InI inv s e) (hf:InI inv s f) (ho:a4j e f):e=f:=
 (h.toSI.vl s).one ((h.toSI.ep s e).2 he) ((h.toSI.ep s f).2 hf) ho
theorem VI.novr {inv:Inventory} (h:VI inv) (c:Change):¬ Over inv c:=by
 have:=h.n
 have:=h.ep32 c.Source
 unfold Over
 omega
theorem NB.novr {out:Inventory} {n:Nat} (h:NB out n) (hn:n≤32) (c:Change):¬ Over out c:=by
 have:=h.1
 have:(epL c.Source out.Channels).length≤n:=by
  rcases a3b c.Source out.Channels with ⟨h1,_⟩ | ⟨d,hd,_,h1⟩
  ·rw [h1];exact Nat.zero_le _
  ·rw [h1];exact h.2 d hd
 unfold Over
 omega
theorem ap_nb {inv:Inventory} {c:Change} {n:Nat} (hv:VI inv) (hk:CK c) (hc:CF c) (hf:Found inv c) (hn:¬ a7A inv c) (hb:NB inv n) (h32:n<32):∃ out,apN inv c=(out,0)∧Done inv c out:=by
 have h:=(a5g hv.fi hc).2.2
 revert h
 generalize apN inv c=r
 intro h
 cases h with
 | bad h=>exact absurd ⟨hv,hk⟩ h
 | none _ h=>exact absurd hf h
 | clash _ _ h=>exact absurd h hn
 | over _ _ _ o h h'=>exact absurd h' ((h.nb n hb).novr (by omega) c)
 | ok _ _ _ o h h'=>exact ⟨o,rfl,hv,hk,hf,hn,h,h'⟩
def noCh:Change:=⟨0,b1b,0,noEp⟩
inductive InvTo (inv:Inventory) (c:Change):Change × Int→Prop where
 | bad (h:(apN inv c).2≠0):InvTo inv c (noCh,(apN inv c).2)
 | add (h:(apN inv c).2=0) (h0:c.Kind=0):InvTo inv c (⟨1,c.Source,c.From,noEp⟩,0)
 | rem (h:(apN inv c).2=0) (h0:c.Kind=1) (e:Epoch) (he:InI inv c.Source e) (hf:e.From=c.From):InvTo inv c (⟨0,c.Source,c.From,e⟩,0)
 | rep (h:(apN inv c).2=0) (h0:c.Kind=2) (e:Epoch) (he:InI inv c.Source e) (hf:e.From=c.From):InvTo inv c (⟨2,c.Source,c.Epoch.From,e⟩,0)
def exS:SourceID:=⟨⟨#[65]⟩,⟨#[66]⟩,ByteArray.empty,⟨#[72,72,90]⟩⟩
def exE (t:Int):Epoch:=⟨10,t,⟨100,1⟩,⟨0,0,0⟩,⟨[]⟩⟩
theorem a8W:a5t exS=true:=by decide
theorem exE_ok {t:Int} (h:10<t) (h1:t≤100):VE (exE t):=
 ⟨show (0:Int)≤10 by decide,h,show t≤9007199254740992 by omega,show RV ⟨100,1⟩ from ⟨by decide,by decide,by decide,by decide,by decide⟩,show RP [] from ⟨fun s hs=>(by cases hs),by decide,by decide⟩,
  show (-1048576:Int)≤0∧(0:Int)≤1048576 by decide,show (-1048576:Int)≤0∧(0:Int)≤1048576 by decide,show (-16384:Int)≤0∧(0:Int)≤1048576 by decide⟩
theorem b1N:a2R=some true:=by
 have v1:=exE_ok (t:=20) (by decide) (by decide)
 have v2:=exE_ok (t:=25) (by decide) (by decide)
 have hn:∀ s e,¬ InI ⟨[]⟩ s e:=fun s e ⟨c,hc,_⟩=>by cases hc
 obtain ⟨x,e1,d1⟩:=ap_nb (inv:=⟨[]⟩) (c:=⟨0,exS,10,exE 20⟩) b3r ⟨a8W,.inl ⟨rfl,v1,rfl⟩⟩ ⟨a7p a8W,v1.ce.ef⟩ (.inl rfl) (fun h=>by obtain ⟨_,e,he,_⟩:=h;exact hn _ _ he.1) nb_nil (by decide)
 have m1:∀ s e,InI x s e↔s=exS∧e=exE 20:=fun s e=>by
  rw [d1.res.mem]
  unfold After
  constructor
  ·rintro (h | h)
   ·exact absurd h.1 (hn _ _)
   ·exact ⟨h.1,h.2.2⟩
  ·exact fun h=>.inr ⟨h.1,by decide,h.2⟩
 obtain ⟨y,e2,d2⟩:=ap_nb (inv:=x) (c:=⟨2,exS,10,exE 25⟩) d1.out ⟨a8W,.inr (.inr ⟨rfl,v2⟩)⟩ ⟨a7p a8W,v2.ce.ef⟩ (.inr ⟨exE 20,(m1 _ _).2 ⟨rfl,rfl⟩,rfl⟩) (fun h=>by
  obtain ⟨_,e,he,_⟩:=h
  have:=((m1 _ _).1 he.1).2
  subst this
  exact he.2 (by decide) rfl) (d1.res.nb 0 nb_nil) (by decide)
 have m2:∀ s e,InI y s e↔s=exS∧e=exE 25:=fun s e=>by
  rw [d2.res.mem]
  unfold After
  constructor
  ·rintro (⟨h,h'⟩ | h)
   ·obtain ⟨rfl,rfl⟩:=(m1 _ _).1 h
    exact absurd rfl (h' rfl (by decide))
   ·exact ⟨h.1,h.2.2⟩
  ·exact fun h=>.inr ⟨h.1,by decide,h.2⟩
 have a1:∀ s z e,EpA (epL s x.Channels) z e↔(s=exS∧e=exE 20)∧e.From≤z∧z<e.To:=fun s z e=>by unfold EpA;rw [d1.out.toSI.ep,m1]
 have a2:∀ s z e,EpA (epL s y.Channels) z e↔(s=exS∧e=exE 25)∧e.From≤z∧z<e.To:=fun s z e=>by unfold EpA;rw [d2.out.toSI.ep,m2]
 have hA:AffP x y [⟨exS,[⟨20,25⟩]⟩]:=by
  refine ⟨List.pairwise_singleton _ _,fun f hf=>?_,fun s z=>?_⟩
  ·rcases List.mem_singleton.1 hf with rfl
   refine ⟨⟨fun t ht=>?_,List.pairwise_singleton _ _⟩,by simp,by simp⟩
   rcases List.mem_singleton.1 ht with rfl;decide
  ·unfold a4u
   simp only [a1,a2]
   constructor
   ·rintro ⟨f,hf,rfl,hm⟩
    rcases List.mem_singleton.1 hf with rfl
    rw [a0h] at hm
    simp only at hm
    refine ⟨⟨exE 25,.inr ⟨⟨rfl,rfl⟩,by show (10:Int)≤z;omega,hm.2⟩⟩,?_⟩
    rintro ⟨e,f,⟨⟨_,rfl⟩,h⟩,_⟩
    have:z<20:=h.2
    omega
   ·rintro ⟨⟨e,h⟩,hn⟩
    have hs:s=exS:=h.elim (fun h=>h.1.1) (fun h=>h.1.1)
    refine ⟨_,List.mem_singleton.2 rfl,hs.symm,?_⟩
    rw [a0h]
    have h10:10≤z∧z<25:=by
     rcases h with ⟨⟨_,rfl⟩,h1,h2⟩ | ⟨⟨_,rfl⟩,h1,h2⟩
     ·have h1:10≤z:=h1
      have h2:z<20:=h2
      omega
     ·have h1:10≤z:=h1
      have h2:z<25:=h2
      omega
    by_cases h20:z<20
    ·exact absurd ⟨exE 20,exE 25,⟨⟨hs,rfl⟩,h10.1,h20⟩,⟨⟨hs,rfl⟩,h10.1,h10.2⟩,rfl,rfl,rfl⟩ hn
    ·exact ⟨by show (20:Int)≤z;omega,h10.2⟩
 have hL:affN x y=[⟨exS,[⟨20,25⟩]⟩]:=by
  rw [a6F ⟨d1.out,d2.out⟩]
  exact (a9E d1.out d2.out).uniq hA fun _ _=>Iff.rfl
 have f1:H6 ⟨[]⟩ ⟨0,exS,10,exE 20⟩=some (x,0):=by rw [(a5g b3r.fi ⟨a7p a8W,v1.ce.ef⟩).1,e1]
 have f2:H6 x ⟨2,exS,10,exE 25⟩=some (y,0):=by rw [(a5g d1.out.fi ⟨a7p a8W,v2.ce.ef⟩).1,e2]
 have f3:=(a4S d1.out.fi d2.out.fi).1
 rw [hL] at f3
 unfold a2R
 rw [show H6 (⟨([]:List Channel)⟩:Inventory) (⟨0,(⟨(⟨#[65]⟩:ByteArray),(⟨#[66]⟩:ByteArray),ByteArray.empty,(⟨#[72,72,90]⟩:ByteArray)⟩:SourceID),10,(⟨10,20,(⟨100,1⟩:Rate),(⟨0,0,0⟩:Position),(⟨([]:List Stage)⟩:Response)⟩:Epoch)⟩:Change)=some (x,0) from f1]
 simp only [Option.bind_some]
 rw [show H6 x (⟨2,(⟨(⟨#[65]⟩:ByteArray),(⟨#[66]⟩:ByteArray),ByteArray.empty,(⟨#[72,72,90]⟩:ByteArray)⟩:SourceID),10,(⟨10,25,(⟨100,1⟩:Rate),(⟨0,0,0⟩:Position),(⟨([]:List Stage)⟩:Response)⟩:Epoch)⟩:Change)=some (y,0) from f2]
 simp only [Option.bind_some]
 rw [f3]
 simp only [Option.bind_some]
 have i0:ix ([⟨exS,[⟨20,25⟩]⟩]:List Affected) 0=some ⟨exS,[⟨20,25⟩]⟩:=rfl
 rw [if_pos (by simp),i0]
 simp only [Option.bind_some]
 have hs:((exS.Network == (⟨#[65]⟩:ByteArray)) && ((exS.Station == (⟨#[66]⟩:ByteArray)) && ((exS.Location == ByteArray.empty) && ((exS.Channel == (⟨#[72,72,90]⟩:ByteArray)) && true))))=true:=(b1S (a:=exS) (b:=exS)).2 rfl
 rw [hs,if_pos rfl,b4u _ (by simp)]
 rfl
end Go.Proofs.YteanekphncdhiaaGreat.Sh
namespace Go.Proofs.YteanekphncdhiaaGreat.Sh
open Go
set_option linter.unusedVariables false
set_option linter.unusedSimpArgs false
theorem a7g (l:List Epoch) (x:Int):¬ a4u l l x:=fun ⟨⟨e,h⟩,hn⟩=>hn ⟨e,e,h.elim id id,h.elim id id,SD.refl e⟩
theorem Done.other {inv:Inventory} {c:Change} {out:Inventory} (h:Done inv c out) {s:SourceID} (hs:s≠c.Source):epL s out.Channels=epL s inv.Channels:=
 (h.out.toSI.vl s).uniq (h.vi.toSI.vl s) fun e=>by
  rw [h.out.toSI.ep,h.vi.toSI.ep,h.res.mem]
  exact ⟨fun h=>h.elim (fun h=>h.1) (fun h=>absurd h.1 hs),fun h=>.inl ⟨h,fun h=>absurd h hs⟩⟩
end Go.Proofs.YteanekphncdhiaaGreat.Sh
namespace Go.Proofs.YteanekphncdhiaaGreat.Sh
open Go
set_option linter.unusedVariables false
set_option linter.unusedSimpArgs false
end Go.Proofs.YteanekphncdhiaaGreat.Sh
namespace Go.Proofs.YteanekphncdhiaaGreat.Sh
open Go
set_option linter.unusedVariables false
set_option linter.unusedSimpArgs false
structure MT (p q:List Span) (i k:Nat) (out:List Span):Prop where
 vs:VS out
 mem:∀ z,Mem out z↔Mem p z∧Mem q z∧¬ (Mem (p.drop i) z∧Mem (q.drop k) z)
 ord:∀ s∈out,(∀ u∈p.drop i,s.To<u.From)∨(∀ u∈q.drop k,s.To<u.From)
 len:out.length≤i+k
 eb:∀ lo hi,EB lo hi p→EB lo hi q→EB lo hi out
theorem MT.zero {p q:List Span}:MT p q 0 0 []:=⟨VS.nil,fun z=>by
 simp only [List.drop_zero]
 exact ⟨fun h=>absurd h Mem.nil,fun ⟨h1,h2,h3⟩=>absurd ⟨h1,h2⟩ h3⟩,fun s h=>(by cases h),Nat.le_refl _,fun _ _ _ _ s h=>(by cases h)⟩
theorem MT.step {p q out out':List Span} {i k:Nat} (hp:VS p) (hq:VS q) (h:MT p q i k out) (hi:i<p.length) (hk:k<q.length)
  (ho:out'=if max p[i].From q[k].From<min p[i].To q[k].To then out ++ [⟨max p[i].From q[k].From,min p[i].To q[k].To⟩] else out) :
  (p[i].To<q[k].To→MT p q (i+1) k out')∧(q[k].To≤p[i].To→MT p q i (k+1) out'):=by
 have nx:=hp.ne _ (List.getElem_mem hi)
 have ny:=hq.ne _ (List.getElem_mem hk)
 have hvs:VS out':=by
  rw [ho]
  split
  ·next hlt=>
   refine h.vs.snoc hlt (fun s hs=>?_)
   simp only
   rcases h.ord s hs with h1 | h1
   ·have:=h1 p[i] (by rw [List.drop_eq_getElem_cons hi];exact List.mem_cons_self)
    omega
   ·have:=h1 q[k] (by rw [List.drop_eq_getElem_cons hk];exact List.mem_cons_self)
    omega
  ·exact h.vs
 have hmem:∀ z,Mem out' z↔Mem out z∨((p[i].From≤z∧z<p[i].To)∧(q[k].From≤z∧z<q[k].To)):=by
  intro z
  rw [ho]
  split
  ·rw [mem_append,a0h]
   simp only
   constructor
   ·rintro (h | h)
    ·exact .inl h
    ·exact .inr (by omega)
   ·rintro (h | h)
    ·exact .inl h
    ·exact .inr (by omega)
  ·constructor
   ·exact .inl
   ·rintro (h | h)
    ·exact h
    ·omega
 have hsub:∀ s∈out',s∈out∨(s.To=min p[i].To q[k].To):=by
  intro s hs
  rw [ho] at hs
  split at hs
  ·rcases List.mem_append.1 hs with hs | hs
   ·exact .inl hs
   ·rcases List.mem_singleton.1 hs with rfl;exact .inr rfl
  ·exact .inl hs
 have hlen:out'.length≤out.length+1:=by rw [ho];split <;> simp
 have heb:∀ lo hi,EB lo hi p→EB lo hi q→EB lo hi out':=by
  intro lo hi' hp' hq'
  rw [ho]
  have b1:=hp' _ (List.getElem_mem hi)
  have b2:=hq' _ (List.getElem_mem hk)
  split
  ·exact (h.eb lo hi' hp' hq').app (EB.one (by simp only;omega))
  ·exact h.eb lo hi' hp' hq'
 have xA:∀ z,(p[i].From≤z∧z<p[i].To)→Mem p z:=fun z hz=>⟨_,List.getElem_mem hi,hz⟩
 have yB:∀ z,(q[k].From≤z∧z<q[k].To)→Mem q z:=fun z hz=>⟨_,List.getElem_mem hk,hz⟩
 have p1:∀ z,Mem (p.drop (i+1)) z→p[i].To<z:=fun z hz=>hp.laterM hi hz
 have q1:∀ z,Mem (q.drop (k+1)) z→q[k].To<z:=fun z hz=>hq.laterM hk hz
 have hl:=h.len
 constructor
 ·intro hc
  refine ⟨hvs,fun z=>?_,fun s hs=>?_,by omega,heb⟩
  ·rw [hmem,h.mem,a8u hi,a8u hk]
   have a1:=xA z;have a2:=yB z;have a3:=p1 z;have a4:=q1 z
   constructor
   ·rintro (⟨h1,h2,h3⟩ | ⟨h1,h2⟩)
    ·exact ⟨h1,h2,fun h=>h3 ⟨.inr h.1,h.2⟩⟩
    ·exact ⟨a1 h1,a2 h2,fun h=>by have:=a3 h.1;omega⟩
   ·rintro ⟨h1,h2,h3⟩
    by_cases hx:p[i].From≤z∧z<p[i].To
    ·by_cases hy:q[k].From≤z∧z<q[k].To
     ·exact .inr ⟨hx,hy⟩
     ·refine .inl ⟨h1,h2,fun h=>?_⟩
      rcases h.2 with h | h
      ·exact hy h
      ·have:=a4 h;omega
    ·refine .inl ⟨h1,h2,fun h=>?_⟩
     rcases h.1 with h' | h'
     ·exact hx h'
     ·exact h3 ⟨h',h.2⟩
  ·rcases hsub s hs with hs | hs
   ·rcases h.ord s hs with h1 | h1
    ·exact .inl fun u hu=>h1 u (by rw [List.drop_eq_getElem_cons hi];exact List.mem_cons_of_mem _ hu)
    ·exact .inr h1
   ·refine .inl fun u hu=>?_
    have:=hp.later hi u hu
    omega
 ·intro hc
  refine ⟨hvs,fun z=>?_,fun s hs=>?_,by omega,heb⟩
  ·rw [hmem,h.mem,a8u hi,a8u hk]
   have a1:=xA z;have a2:=yB z;have a3:=p1 z;have a4:=q1 z
   constructor
   ·rintro (⟨h1,h2,h3⟩ | ⟨h1,h2⟩)
    ·exact ⟨h1,h2,fun h=>h3 ⟨h.1,.inr h.2⟩⟩
    ·exact ⟨a1 h1,a2 h2,fun h=>by have:=a4 h.2;omega⟩
   ·rintro ⟨h1,h2,h3⟩
    by_cases hy:q[k].From≤z∧z<q[k].To
    ·by_cases hx:p[i].From≤z∧z<p[i].To
     ·exact .inr ⟨hx,hy⟩
     ·refine .inl ⟨h1,h2,fun h=>?_⟩
      rcases h.1 with h | h
      ·exact hx h
      ·have:=a3 h;omega
    ·refine .inl ⟨h1,h2,fun h=>?_⟩
     rcases h.2 with h' | h'
     ·exact hy h'
     ·exact h3 ⟨h.1,h'⟩
  ·rcases hsub s hs with hs | hs
   ·rcases h.ord s hs with h1 | h1
    ·exact .inl h1
    ·exact .inr fun u hu=>h1 u (by rw [List.drop_eq_getElem_cons hk];exact List.mem_cons_of_mem _ hu)
   ·refine .inr fun u hu=>?_
    have:=hq.later hk u hu
    omega
structure MS (p q r:List Span):Prop where
 vs:VS r
 mem:∀ z,Mem r z↔Mem p z∧Mem q z
 len:r.length≤p.length+q.length
 eb:∀ lo hi,EB lo hi p→EB lo hi q→EB lo hi r
theorem b4k {p q:List Span} (hp:VS p) (hq:VS q) (hl:p.length+q.length≤100000):∃ r,l9 (a6m p q) ([],0,0)=some r∧MS p q r:=by
 refine Q8 (fun n s=>∃ i k:Nat,s.2.1=(i:Int)∧s.2.2=(k:Int)∧i≤p.length∧k≤q.length∧n+i+k=p.length+q.length∧MT p q i k s.1) (MS p q) ?_ (p.length+q.length) _ ⟨0,0,rfl,rfl,Nat.zero_le _,Nat.zero_le _,rfl,MT.zero⟩
 rintro n ⟨out,i',k'⟩ ⟨i,k,hi',hk',h1,h2,hn,h⟩
 simp only at hi' hk' h
 subst hi'
 subst hk'
 have hol:=h.len
 unfold a6m
 simp only
 by_cases hc:i<p.length∧k<q.length
 ·left
  obtain ⟨hi,hk⟩:=hc
  rw [if_pos (by simp;omega),o8 _ _ hi,o8 _ _ hk]
  simp only [Option.bind_some]
  have hs:a7o (⟨max p[i].From q[k].From,min p[i].To q[k].To⟩:Span)=some (decide (max p[i].From q[k].From<min p[i].To q[k].To)):=rfl
  rw [hs]
  simp only [Option.bind_some]
  have key:∀ o:List Span,a0z p q (out,(i:Int),(k:Int)) o=if p[i].To<q[k].To then some (.inl (o,((i+1:Nat):Int),(k:Int))) else some (.inl (o,(i:Int),((k+1:Nat):Int))):=by
   intro o
   unfold a0z a4t
   simp only
   rw [o8 _ _ hi,o8 _ _ hk,a5E (n:=i) (by omega),a5E (n:=k) (by omega)]
   simp only [Option.bind_some]
   by_cases ht:p[i].To<q[k].To
   ·rw [if_pos (decide_eq_true ht),if_pos ht]
   ·rw [if_neg (by simpa using ht),if_neg ht]
  have hstep:=MT.step hp hq h hi hk (out':=if max p[i].From q[k].From<min p[i].To q[k].To then out ++ [⟨max p[i].From q[k].From,min p[i].To q[k].To⟩] else out) rfl
  have hbody:(if decide (max p[i].From q[k].From<min p[i].To q[k].To)=true then (R5 16 out [(⟨max p[i].From q[k].From,min p[i].To q[k].To⟩:Span)]).bind fun l=>a0z p q (out,(i:Int),(k:Int)) l else a0z p q (out,(i:Int),(k:Int)) out)
   =a0z p q (out,(i:Int),(k:Int)) (if max p[i].From q[k].From<min p[i].To q[k].To then out ++ [⟨max p[i].From q[k].From,min p[i].To q[k].To⟩] else out):=by
   by_cases hlt:max p[i].From q[k].From<min p[i].To q[k].To
   ·rw [if_pos (decide_eq_true hlt),if_pos hlt,D7 _ _ _ (by simp;omega) (by decide)]
    rfl
   ·rw [if_neg (by simpa using hlt),if_neg hlt]
  rw [hbody,key]
  by_cases ht:p[i].To<q[k].To
  ·rw [if_pos ht]
   exact ⟨_,n - 1,rfl,⟨i+1,k,rfl,rfl,by omega,h2,by omega,hstep.1 ht⟩,by omega⟩
  ·rw [if_neg ht]
   exact ⟨_,n - 1,rfl,⟨i,k+1,rfl,rfl,h1,by omega,by omega,hstep.2 (by omega)⟩,by omega⟩
 ·right
  rw [if_neg (by simp;omega)]
  refine ⟨out,rfl,h.vs,fun z=>?_,by omega,h.eb⟩
  rw [h.mem]
  have hnil:¬ (Mem (p.drop i) z∧Mem (q.drop k) z):=by
   rintro ⟨g1,g2⟩
   rcases Nat.lt_or_ge i p.length with hi | hi
   ·rw [List.drop_eq_nil_of_le (show q.length≤k by omega)] at g2
    exact Mem.nil g2
   ·rw [List.drop_eq_nil_of_le hi] at g1
    exact Mem.nil g1
  exact ⟨fun ⟨a,b,_⟩=>⟨a,b⟩,fun ⟨a,b⟩=>⟨a,b,hnil⟩⟩
theorem cut_ok {a:List Span} (ha:a.length≤5000) (x y:Int):∃ r,a8I a x y=some r∧(r=[]↔¬ ∃ z,Mem a z∧x≤z∧z<y):=by
 unfold a8I a9l
 obtain ⟨p,ep,hp⟩:=a4W (l:=a) (by omega)
 obtain ⟨q,eq,hq⟩:=a4W (l:=[⟨x,y⟩]) (by simp)
 rw [ep,eq]
 simp only [Option.bind_some]
 have l1:=hp.len
 have l2:=hq.len
 simp only [List.length_cons,List.length_nil] at l2
 obtain ⟨r,er,hr⟩:=b4k hp.vs hq.vs (by omega)
 rw [er]
 refine ⟨r,rfl,fun h=>?_,fun h=>?_⟩
 ·rintro ⟨z,h1,h2⟩
  have:=(hr.mem z).2 ⟨(hp.mem z).2 h1,(hq.mem z).2 (a0h.2 h2)⟩
  rw [h] at this
  exact Mem.nil this
 ·by_cases hn:r=[]
  ·exact hn
  ·obtain ⟨z,hz⟩:=a9K hr.vs hn
   obtain ⟨h1,h2⟩:=(hr.mem z).1 hz
   exact absurd ⟨z,(hp.mem z).1 h1,a0h.1 ((hq.mem z).1 h2)⟩ h
def Hit (l:List Affected) (s:SourceID) (x y:Int):Prop:=∃ f∈l,f.Source=s∧∃ z,Mem f.Spans z∧x≤z∧z<y
noncomputable def a8Z (l:List Affected) (s:SourceID) (x y:Int):Bool:=@decide (Hit l s x y) (Classical.propDecidable _)
theorem a4y {l:List Affected} {s:SourceID} {x y:Int}:a8Z l s x y=true↔Hit l s x y:=by unfold a8Z;exact @decide_eq_true_iff _ (Classical.propDecidable _)
theorem touch1 {f:Affected} (hf:f.Spans.length≤5000) (s:SourceID) (x y:Int):Q6 f s x y=some (a8Z [f] s x y):=by
 obtain ⟨r,e,h⟩:=cut_ok hf x y
 unfold Q6
 simp only [a6o]
 have hh:a8Z [f] s x y=true↔f.Source=s∧r≠[]:=by
  rw [a4y]
  unfold Hit
  constructor
  ·rintro ⟨g,hg,h1,h2⟩
   rcases List.mem_singleton.1 hg with rfl
   exact ⟨h1,fun e=>(h.1 e) h2⟩
  ·rintro ⟨h1,h2⟩
   refine ⟨f,List.mem_singleton.2 rfl,h1,?_⟩
   exact Classical.byContradiction fun hn=>h2 (h.2 hn)
 by_cases hs:f.Source=s
 ·rw [if_pos (decide_eq_true hs),e]
  simp only [Option.bind_some]
  congr 1
  rw [Bool.eq_iff_iff,hh,decide_eq_true_eq]
  cases r <;> simp [hs]
 ·rw [if_neg (by simpa using hs)]
  simp only [Option.bind_some]
  congr 1
  rw [eq_comm,← Bool.not_eq_true,hh]
  exact fun h=>hs h.1
theorem b3G (l:List Affected) (s:SourceID) (x y:Int):(l.any fun f=>a8Z [f] s x y)=a8Z l s x y:=by
 rw [Bool.eq_iff_iff,List.any_eq_true,a4y]
 constructor
 ·rintro ⟨f,hf,h⟩
  obtain ⟨g,hg,h'⟩:=a4y.1 h
  rcases List.mem_singleton.1 hg with rfl
  exact ⟨_,hf,h'⟩
 ·rintro ⟨f,hf,h⟩
  exact ⟨f,hf,a4y.2 ⟨f,List.mem_singleton.2 rfl,h⟩⟩
theorem a8d {l:List Affected} (hl:l.length≤1000000) (hf:∀ f∈l,f.Spans.length≤5000) (s:SourceID) (x y:Int):a0a l s x y=some (a8Z l s x y):=by
 unfold a0a K3 M3
 obtain ⟨r,e,hr⟩:=Q8 (b1:=K4 l (fun y0=>Q6 y0 s x y)) (fun k q=>∃ i:Nat,q=(i:Int)∧k+i=l.length∧∀ f∈l.take i,a8Z [f] s x y=false)
  (fun r=>(0≤r↔a8Z l s x y=true)) (fun k q ⟨i,hi,hk,hall⟩=>by
  subst hi
  unfold K4
  by_cases hil:i<l.length
  ·rw [if_pos (decide_eq_true (by omega)),o8 _ _ hil]
   simp only [Option.bind_some]
   rw [touch1 (hf _ (List.getElem_mem hil))]
   simp only [Option.bind_some]
   cases hb:a8Z [l[i]] s x y with
   | true=>
    refine .inr ⟨_,rfl,⟨fun _=>?_,fun _=>by omega⟩⟩
    rw [← b3G,List.any_eq_true]
    exact ⟨_,List.getElem_mem hil,hb⟩
   | false=>
    refine .inl ⟨((i+1:Nat):Int),k - 1,?_,⟨i+1,rfl,by omega,fun f hf'=>?_⟩,by omega⟩
    ·rw [O3 (by omega)];rfl
    ·rw [D8 hil] at hf'
     rcases List.mem_append.1 hf' with hf' | hf'
     ·exact hall f hf'
     ·rcases List.mem_singleton.1 hf' with rfl;exact hb
  ·rw [if_neg (by simp;omega)]
   rw [List.take_of_length_le (by omega)] at hall
   refine .inr ⟨_,rfl,⟨fun h=>absurd h (by decide),fun h=>?_⟩⟩
   rw [← b3G,List.any_eq_true] at h
   obtain ⟨f,h1,h2⟩:=h
   rw [hall f h1] at h2
   cases h2) l.length 0 ⟨0,rfl,rfl,by simp⟩
 rw [e]
 simp only [Option.bind_some]
 congr 1
 rw [Bool.eq_iff_iff,decide_eq_true_eq,hr]
theorem AffP.hit {a b:Inventory} {l:List Affected} (h:AffP a b l) (s:SourceID) (x y:Int):Hit l s x y↔∃ z,a4u (epL s a.Channels) (epL s b.Channels) z∧x≤z∧z<y:=by
 constructor
 ·rintro ⟨f,hf,rfl,z,h1,h2⟩
  exact ⟨z,(h.at hf z).1 h1,h2⟩
 ·rintro ⟨z,h1,h2⟩
  obtain ⟨f,hf,hs,hm⟩:=(h.mem s z).2 h1
  exact ⟨f,hf,hs,z,hm,h2⟩
end Go.Proofs.YteanekphncdhiaaGreat.Sh
namespace Go.Proofs.YteanekphncdhiaaGreat.Sh
open Go
set_option linter.unusedVariables false
set_option linter.unusedSimpArgs false
theorem a9O {a b:Inventory} (ha:VI a) (hb:VI b):(a8T a b).length≤1000:=by
 have h1:=b0r a b
 have h2:=ha.n
 have h3:=hb.n
 have:=a3m (f:=a6G a b) (m:=1) (l:=a1s a b) fun _ _=>a8U _ _ _
 unfold a8T
 omega
theorem Done.from_other {inv:Inventory} {c:Change} {out:Inventory} (h:Done inv c out) {s:SourceID} (hs:s≠c.Source) (e:Epoch):InI out s e↔InI inv s e:=by
 rw [h.res.mem]
 exact ⟨fun h=>h.elim (fun h=>h.1) (fun h=>absurd h.1 hs),fun h=>.inl ⟨h,fun h=>absurd h hs⟩⟩
theorem b0T {inv:Inventory} {a b:Change} {x y:Inventory} (ha:Done inv a x) (hb:Done inv b y) (hs:b.Source≠a.Source) (hcb:CF b) {n:Nat} (hn:NB inv n) (h32:n<31):∃ p,apN x b=(p,0)∧Done x b p:=by
 have hi:=ha.from_other hs
 refine ap_nb ha.out hb.ck hcb ?_ ?_ (ha.res.nb n hn) (by omega)
 ·rcases hb.fnd with h | ⟨e,he,hf⟩
  ·exact .inl h
  ·exact .inr ⟨e,(hi e).2 he,hf⟩
 ·rintro ⟨h1,e,⟨h2,h3⟩,h4⟩
  exact hb.ncl ⟨h1,e,⟨(hi e).1 h2,h3⟩,h4⟩
theorem apart_ok {inv:Inventory} {a b:Change} {x y:Inventory} (ha:Done inv a x) (hb:Done inv b y) (hs:a.Source≠b.Source) (hca:CF a) (hcb:CF b) {n:Nat} (hn:NB inv n) (h32:n<31):∃ p,apN x b=(p,0)∧apN y a=(p,0)∧Done x b p∧Done y a p:=by
 obtain ⟨p,e1,d1⟩:=b0T ha hb hs.symm hcb hn h32
 obtain ⟨q,e2,d2⟩:=b0T hb ha hs hca hn h32
 obtain rfl:p=q:=d1.out.toSI.uniq d2.out.toSI fun s e=>by
  rw [d1.res.mem,d2.res.mem]
  unfold After
  rw [ha.res.mem,hb.res.mem]
  unfold After
  by_cases h:s=a.Source
  ·have h':s≠b.Source:=fun h'=>hs (h.symm.trans h')
   simp only [h,h',hs,false_and,or_false,true_and,false_implies,and_true,true_implies]
  ·simp only [h,false_and,or_false,false_implies,and_true]
 exact ⟨p,e1,e2,d1,d2⟩
theorem b2S {inv:Inventory} {a b:Change} {x y p:Inventory} (ha:Done inv a x) (hb:Done inv b y) (hs:a.Source≠b.Source) (d1:Done x b p) (d2:Done y a p) (s:SourceID) (z:Int) :
  (s=a.Source∧epL s p.Channels=epL s x.Channels∧epL s y.Channels=epL s inv.Channels)∨(s≠a.Source∧epL s p.Channels=epL s y.Channels∧epL s x.Channels=epL s inv.Channels):=by
 by_cases h:s=a.Source
 ·have h':s≠b.Source:=fun h'=>hs (h.symm.trans h')
  exact .inl ⟨h,d1.other h',hb.other h'⟩
 ·exact .inr ⟨h,d2.other h,ha.other h⟩
theorem lens {α:Type} {l m k:List α} (h1:l.Nodup) (h2:(m ++ k).Nodup) (h:∀ f,f∈l↔f∈m∨f∈k):l.length=m.length+k.length:=by
 have e1:=@a9H α (fun a b=>Classical.propDecidable (a=b)) l (m ++ k) h1 fun f hf=>List.mem_append.2 ((h f).1 hf)
 have e2:=@a9H α (fun a b=>Classical.propDecidable (a=b)) (m ++ k) l h2 fun f hf=>(h f).2 (List.mem_append.1 hf)
 rw [List.length_append] at e1 e2
 omega
theorem AffP.nodup {a b:Inventory} {l:List Affected} (h:AffP a b l):l.Nodup:=by
 rw [List.nodup_iff_pairwise_ne]
 refine h.asc.imp fun {f g} hfg e=>?_
 rw [e,a3a] at hfg
 omega
theorem a5k (t:List Int) (_:(t.length:Int)≤140737488355328∧∀ x∈t,-9223372036854775808≤x∧x≤9223372036854775807):a2z t=some true:=by
 unfold a2z
 rw [b3f]
 simp only [Option.bind_some]
 by_cases hl:t.length≤500
 case neg=>rw [decide_eq_false hl,b1N];rfl
 rw [decide_eq_true hl]
 simp only [Bool.not_true,Bool.false_eq_true,if_false,a9a,Option.bind_some]
 obtain ⟨inv,d1,e1,hv,hnb,hd1⟩:=b2Z (DOK.roll hl) (n:=7) (by decide)
 rw [show Y0 ⟨t,0⟩ 7=some (inv,d1) from e1]
 simp only [Option.bind_some]
 obtain ⟨a,d2,e2,hca,hd2⟩:=b1r hd1 hv
 rw [e2]
 simp only [Option.bind_some]
 obtain ⟨b,d3,e3,hcb,hd3⟩:=b1r hd2 hv
 rw [e3]
 simp only [Option.bind_some,a6o]
 by_cases hs:a.Source=b.Source
 ·rw [if_pos (decide_eq_true hs),b1N];rfl
 rw [if_neg (by simpa using hs),(a5g hv.fi hca.cf).1,(a5g hv.fi hcb.cf).1]
 simp only [Option.bind_some]
 by_cases h0:(apN inv a).2=0∧(apN inv b).2=0
 case neg=>
  rw [if_pos (by simp;omega),b1N];rfl
 rw [if_neg (by simp;omega)]
 have da:=a8j hv.fi hca.cf h0.1
 have db:=a8j hv.fi hcb.cf h0.2
 obtain ⟨x,hx⟩:∃ x,(apN inv a).1=x:=⟨_,rfl⟩
 obtain ⟨y,hy⟩:∃ y,(apN inv b).1=y:=⟨_,rfl⟩
 rw [hx] at da ⊢
 rw [hy] at db ⊢
 obtain ⟨p,f1,f2,dp,dq⟩:=apart_ok da db hs hca.cf hcb.cf hnb (by decide)
 rw [(a5g da.out.fi hcb.cf).1,(a5g db.out.fi hca.cf).1,f1,f2]
 simp only [Option.bind_some,bne_self_eq_false,Bool.or_self,Bool.false_eq_true,if_false]
 rw [b3p dp.out.ci]
 simp only [Option.bind_some,Bool.not_true,Bool.false_eq_true,if_false]
 rw [(a4S hv.fi dp.out.fi).1,(a4S hv.fi da.out.fi).1,(a4S hv.fi db.out.fi).1,a6F ⟨hv,dp.out⟩,a6F ⟨hv,da.out⟩,a6F ⟨hv,db.out⟩]
 simp only [Option.bind_some]
 have al:=a9E hv dp.out
 have am:=a9E hv da.out
 have ak:=a9E hv db.out
 have ll:=a9O hv dp.out
 have lm:=a9O hv da.out
 have lk:=a9O hv db.out
 revert al am ak ll lm lk
 generalize a8T inv p=l
 generalize a8T inv x=m
 generalize a8T inv y=k
 intro al am ak ll lm lk
 have hdf:=b2S da db hs dp dq
 have hdiff:∀ s z,a4u (epL s inv.Channels) (epL s p.Channels) z↔a4u (epL s inv.Channels) (epL s x.Channels) z∨a4u (epL s inv.Channels) (epL s y.Channels) z:=fun s z=>by
  rcases hdf s z with ⟨_,h1,h2⟩ | ⟨_,h1,h2⟩
  ·rw [h1,h2];exact ⟨.inl,fun h=>h.elim id fun h=>absurd h (a7g _ z)⟩
  ·rw [h1,h2];exact ⟨.inr,fun h=>h.elim (fun h=>absurd h (a7g _ z)) id⟩
 have hhit:∀ s u v,a8Z l s u v=(a8Z m s u v || a8Z k s u v):=fun s u v=>by
  rw [Bool.eq_iff_iff,Bool.or_eq_true,a4y,a4y,a4y,al.hit,am.hit,ak.hit]
  simp only [hdiff]
  constructor
  ·rintro ⟨z,h | h,g⟩
   ·exact .inl ⟨z,h,g⟩
   ·exact .inr ⟨z,h,g⟩
  ·rintro (⟨z,h,g⟩ | ⟨z,h,g⟩)
   ·exact ⟨z,.inl h,g⟩
   ·exact ⟨z,.inr h,g⟩
 have hma:∀ f∈m,f.Source=a.Source:=fun f hf=>by
  obtain ⟨z,hz⟩:=a9K (am.vs f hf).1 (am.vs f hf).2.1
  have h:=(am.at hf z).1 hz
  rcases hdf f.Source z with ⟨h1,_⟩ | ⟨_,_,h2⟩
  ·exact h1
  ·rw [h2] at h;exact absurd h (a7g _ z)
 have hka:∀ f∈k,f.Source≠a.Source:=fun f hf e=>by
  obtain ⟨z,hz⟩:=a9K (ak.vs f hf).1 (ak.vs f hf).2.1
  have h:=(ak.at hf z).1 hz
  rcases hdf f.Source z with ⟨_,_,h2⟩ | ⟨h1,_⟩
  ·rw [h2] at h;exact a7g _ z h
  ·exact h1 e
 have hlen:l.length=m.length+k.length:=by
  refine lens al.nodup (List.nodup_append.2 ⟨am.nodup,ak.nodup,fun f hf g hg e=>hka g hg (by rw [← e];exact hma f hf)⟩) fun f=>⟨fun hf=>?_,?_⟩
  ·rcases hdf f.Source 0 with ⟨_,h1,h2⟩ | ⟨_,h1,h2⟩
   ·exact .inl (al.sub am hf fun z=>by rw [h1])
   ·exact .inr (al.sub ak hf fun z=>by rw [h1])
  ·rintro (hf | hf)
   ·rcases hdf f.Source 0 with ⟨_,h1,h2⟩ | ⟨h,_⟩
    ·exact am.sub al hf fun z=>by rw [h1]
    ·exact absurd (hma f hf) h
   ·rcases hdf f.Source 0 with ⟨h,_⟩ | ⟨_,h1,h2⟩
    ·exact absurd h (hka f hf)
    ·exact ak.sub al hf fun z=>by rw [h1]
 have hin:∀ (i:Nat) (s:SourceID),i≤10→l9 (Q5 l m k (i:Int) s) 0=some (.inl ((i+1:Nat):Int)):=fun i s hi=>by
  obtain ⟨r,er,rfl⟩:=Y8 (body:=Q5 l m k (i:Int) s) (fun (_:Unit) i=>i) 30 (fun _ _=>True) (fun r=>r=.inl ((i+1:Nat):Int)) (fun j hj _ _=>by
   refine ⟨(),?_,trivial⟩
   unfold Q5
   rw [if_pos (decide_eq_true (by omega))]
   simp only [Option.bind_some]
   rw [a8d (by omega) (fun f hf=>(al.vs f hf).2.2),a8d (by omega) (fun f hf=>(am.vs f hf).2.2),a8d (by omega) (fun f hf=>(ak.vs f hf).2.2)]
   simp only [Option.bind_some]
   have:∀ u v:Bool,(if u=true then some true else some v)=some (u || v):=fun u v=>by cases u <;> rfl
   rw [this,← hhit]
   simp only [Option.bind_some,beq_self_eq_true,Bool.not_true,Bool.false_eq_true,if_false]
   rw [O3 (by omega)]) (fun _ _=>by
   unfold Q5
   rw [if_neg (by simp),O3 (by omega)]
   exact ⟨_,rfl,rfl⟩) () trivial
  exact er
 obtain ⟨r,er,rfl⟩:=Y8 (body:=Y4 (a,d2) (b,d3) l m k) (fun (_:Unit) i=>i) 2 (fun _ _=>True) (fun r=>r=true) (fun i hi _ _=>by
  refine ⟨(),?_,trivial⟩
  unfold Y4
  simp only
  rw [if_pos (decide_eq_true (by simp;omega)),o8 _ _ (show i<[a.Source,b.Source].length from hi)]
  simp only [Option.bind_some]
  exact hin i _ (by omega)) (fun _ _=>by
  unfold Y4
  simp only
  rw [if_neg (by simp),if_pos (by rw [F9 (by omega) (by omega),beq_iff_eq];omega),b1N]
  exact ⟨_,rfl,rfl⟩) () trivial
 exact er
end Go.Proofs.YteanekphncdhiaaGreat.Sh

/- The plain law: what the plain programs compute, put together in one text. -/
import Derived.Test.YteanekphncdhiaaGreatLw1
namespace Go.Proofs.YteanekphncdhiaaGreat.Sh
open Go
set_option linter.unusedVariables false
set_option linter.unusedSimpArgs false
theorem VI.vin {inv:Inventory} (h:VI inv) {s:SourceID} {e:Epoch} (he:InI inv s e):VE e:=by
 obtain ⟨c,hc,_,hm⟩:=he
 exact (h.e c hc).v e hm
theorem VI.one {inv:Inventory} (h:VI inv) {s:SourceID} {e f:Epoch} (he:InI inv s e) (hf:InI inv s f) (ho:a4f e f):e=f:=
 (h.toSI.vl s).one ((h.toSI.ep s e).2 he) ((h.toSI.ep s f).2 hf) ho
theorem VE.same_from {e f:Epoch} (he:VE e) (hf:VE f) (h:e.From=f.From):a4f e f:=⟨by have:=hf.ft;omega,by have:=he.ft;omega⟩
theorem VI.one_from {inv:Inventory} (h:VI inv) {s:SourceID} {e f:Epoch} (he:InI inv s e) (hf:InI inv s f) (ho:e.From=f.From):e=f:=h.one he hf ((h.vin he).same_from (h.vin hf) ho)
theorem VI.novr {inv:Inventory} (h:VI inv) (c:Change):¬ Over inv c:=by
 have:=h.n
 have:=h.ep32 c.Source
 unfold Over
 omega
theorem NB.novr {out:Inventory} {n:Nat} (h:NB out n) (hn:n≤32) (c:Change):¬ Over out c:=by
 have:=h.1
 have:(epL c.Source out.Channels).length≤n:=by
  rcases a2R c.Source out.Channels with ⟨h1,_⟩ | ⟨d,hd,_,h1⟩
  ·rw [h1];exact Nat.zero_le _
  ·rw [h1];exact h.2 d hd
 unfold Over
 omega
theorem ap_nb {inv:Inventory} {c:Change} {n:Nat} (hv:VI inv) (hk:CK c) (hc:CF c) (hf:Found inv c) (hn:¬ a7e inv c) (hb:NB inv n) (h32:n<32):∃ out,apN inv c=(out,0)∧Done inv c out:=by
 have h:=(a7n hv.fi hc).2.2
 revert h
 generalize apN inv c=r
 intro h
 cases h with
 | bad h=>exact absurd ⟨hv,hk⟩ h
 | none _ h=>exact absurd hf h
 | clash _ _ h=>exact absurd h hn
 | over _ _ _ o h h'=>exact absurd h' ((h.nb n hb).novr (by omega) c)
 | ok _ _ _ o h h'=>exact ⟨o,rfl,hv,hk,hf,hn,h,h'⟩
def noCh:Change:=⟨0,b0J,0,noEp⟩
inductive InvTo (inv:Inventory) (c:Change):Change × Int→Prop where
 | bad (h:(apN inv c).2≠0):InvTo inv c (noCh,(apN inv c).2)
 | add (h:(apN inv c).2=0) (h0:c.Kind=0):InvTo inv c (⟨1,c.Source,c.From,noEp⟩,0)
 | rem (h:(apN inv c).2=0) (h0:c.Kind=1) (e:Epoch) (he:InI inv c.Source e) (hf:e.From=c.From):InvTo inv c (⟨0,c.Source,c.From,e⟩,0)
 | rep (h:(apN inv c).2=0) (h0:c.Kind=2) (e:Epoch) (he:InI inv c.Source e) (hf:e.From=c.From):InvTo inv c (⟨2,c.Source,c.Epoch.From,e⟩,0)
def exS:SourceID:=⟨⟨#[65]⟩,⟨#[66]⟩,ByteArray.empty,⟨#[72,72,90]⟩⟩
def exE (t:Int):Epoch:=⟨10,t,⟨100,1⟩,⟨0,0,0⟩,⟨[]⟩⟩
theorem a8D:a5g exS=true:=by decide
theorem exE_ok {t:Int} (h:10<t) (h1:t≤100):VE (exE t):=
 ⟨show (0:Int)≤10 by decide,h,show t≤9007199254740992 by omega,show RV ⟨100,1⟩ from ⟨by decide,by decide,by decide,by decide,by decide⟩,show RP [] from ⟨fun s hs=>(by cases hs),by decide,by decide⟩,
  show (-1048576:Int)≤0∧(0:Int)≤1048576 by decide,show (-1048576:Int)≤0∧(0:Int)≤1048576 by decide,show (-16384:Int)≤0∧(0:Int)≤1048576 by decide⟩
theorem b2S:a3K=some true:=by
 have v1:=exE_ok (t:=20) (by decide) (by decide)
 have v2:=exE_ok (t:=25) (by decide) (by decide)
 have hn:∀ s e,¬ InI ⟨[]⟩ s e:=fun s e ⟨c,hc,_⟩=>by cases hc
 obtain ⟨x,e1,d1⟩:=ap_nb (inv:=⟨[]⟩) (c:=⟨0,exS,10,exE 20⟩) b2U ⟨a8D,.inl ⟨rfl,v1,rfl⟩⟩ ⟨a6R a8D,v1.ce.ef⟩ (.inl rfl) (fun h=>by obtain ⟨_,e,he,_⟩:=h;exact hn _ _ he.1) nb_nil (by decide)
 have m1:∀ s e,InI x s e↔s=exS∧e=exE 20:=fun s e=>by
  rw [d1.res.mem]
  unfold After
  constructor
  ·rintro (h | h)
   ·exact absurd h.1 (hn _ _)
   ·exact ⟨h.1,h.2.2⟩
  ·exact fun h=>.inr ⟨h.1,by decide,h.2⟩
 obtain ⟨y,e2,d2⟩:=ap_nb (inv:=x) (c:=⟨2,exS,10,exE 25⟩) d1.out ⟨a8D,.inr (.inr ⟨rfl,v2⟩)⟩ ⟨a6R a8D,v2.ce.ef⟩ (.inr ⟨exE 20,(m1 _ _).2 ⟨rfl,rfl⟩,rfl⟩) (fun h=>by
  obtain ⟨_,e,he,_⟩:=h
  have:=((m1 _ _).1 he.1).2
  subst this
  exact he.2 (by decide) rfl) (d1.res.nb 0 nb_nil) (by decide)
 have m2:∀ s e,InI y s e↔s=exS∧e=exE 25:=fun s e=>by
  rw [d2.res.mem]
  unfold After
  constructor
  ·rintro (⟨h,h'⟩ | h)
   ·obtain ⟨rfl,rfl⟩:=(m1 _ _).1 h
    exact absurd rfl (h' rfl (by decide))
   ·exact ⟨h.1,h.2.2⟩
  ·exact fun h=>.inr ⟨h.1,by decide,h.2⟩
 have a1:∀ s z e,EpA (epL s x.Channels) z e↔(s=exS∧e=exE 20)∧e.From≤z∧z<e.To:=fun s z e=>by unfold EpA;rw [d1.out.toSI.ep,m1]
 have a2:∀ s z e,EpA (epL s y.Channels) z e↔(s=exS∧e=exE 25)∧e.From≤z∧z<e.To:=fun s z e=>by unfold EpA;rw [d2.out.toSI.ep,m2]
 have hA:AffP x y [⟨exS,[⟨20,25⟩]⟩]:=by
  refine ⟨List.pairwise_singleton _ _,fun f hf=>?_,fun s z=>?_⟩
  ·rcases List.mem_singleton.1 hf with rfl
   refine ⟨⟨fun t ht=>?_,List.pairwise_singleton _ _⟩,by simp,by simp⟩
   rcases List.mem_singleton.1 ht with rfl;decide
  ·unfold a5R
   simp only [a1,a2]
   constructor
   ·rintro ⟨f,hf,rfl,hm⟩
    rcases List.mem_singleton.1 hf with rfl
    rw [a0f] at hm
    simp only at hm
    refine ⟨⟨exE 25,.inr ⟨⟨rfl,rfl⟩,by show (10:Int)≤z;omega,hm.2⟩⟩,?_⟩
    rintro ⟨e,f,⟨⟨_,rfl⟩,h⟩,_⟩
    have:z<20:=h.2
    omega
   ·rintro ⟨⟨e,h⟩,hn⟩
    have hs:s=exS:=h.elim (fun h=>h.1.1) (fun h=>h.1.1)
    refine ⟨_,List.mem_singleton.2 rfl,hs.symm,?_⟩
    rw [a0f]
    have h10:10≤z∧z<25:=by
     rcases h with ⟨⟨_,rfl⟩,h1,h2⟩ | ⟨⟨_,rfl⟩,h1,h2⟩
     ·have h1:10≤z:=h1
      have h2:z<20:=h2
      omega
     ·have h1:10≤z:=h1
      have h2:z<25:=h2
      omega
    by_cases h20:z<20
    ·exact absurd ⟨exE 20,exE 25,⟨⟨hs,rfl⟩,h10.1,h20⟩,⟨⟨hs,rfl⟩,h10.1,h10.2⟩,rfl,rfl,rfl⟩ hn
    ·exact ⟨by show (20:Int)≤z;omega,h10.2⟩
 have hL:affN x y=[⟨exS,[⟨20,25⟩]⟩]:=by
  rw [a7S ⟨d1.out,d2.out⟩]
  exact (b0W d1.out d2.out).uniq hA fun _ _=>Iff.rfl
 have f1:L6 ⟨[]⟩ ⟨0,exS,10,exE 20⟩=some (x,0):=by rw [(a7n b2U.fi ⟨a6R a8D,v1.ce.ef⟩).1,e1]
 have f2:L6 x ⟨2,exS,10,exE 25⟩=some (y,0):=by rw [(a7n d1.out.fi ⟨a6R a8D,v2.ce.ef⟩).1,e2]
 have f3:=(a6i d1.out.fi d2.out.fi).1
 rw [hL] at f3
 unfold a3K
 rw [show L6 (⟨([]:List Channel)⟩:Inventory) (⟨0,(⟨(⟨#[65]⟩:ByteArray),(⟨#[66]⟩:ByteArray),ByteArray.empty,(⟨#[72,72,90]⟩:ByteArray)⟩:SourceID),10,(⟨10,20,(⟨100,1⟩:Rate),(⟨0,0,0⟩:Position),(⟨([]:List Stage)⟩:Response)⟩:Epoch)⟩:Change)=some (x,0) from f1]
 simp only [Option.bind_some]
 rw [show L6 x (⟨2,(⟨(⟨#[65]⟩:ByteArray),(⟨#[66]⟩:ByteArray),ByteArray.empty,(⟨#[72,72,90]⟩:ByteArray)⟩:SourceID),10,(⟨10,25,(⟨100,1⟩:Rate),(⟨0,0,0⟩:Position),(⟨([]:List Stage)⟩:Response)⟩:Epoch)⟩:Change)=some (y,0) from f2]
 simp only [Option.bind_some]
 rw [f3]
 simp only [Option.bind_some]
 have i0:ix ([⟨exS,[⟨20,25⟩]⟩]:List Affected) 0=some ⟨exS,[⟨20,25⟩]⟩:=rfl
 rw [if_pos (by simp),i0]
 simp only [Option.bind_some]
 have hs:((exS.Network == (⟨#[65]⟩:ByteArray)) && ((exS.Station == (⟨#[66]⟩:ByteArray)) && ((exS.Location == ByteArray.empty) && ((exS.Channel == (⟨#[72,72,90]⟩:ByteArray)) && true))))=true:=(b1y (a:=exS) (b:=exS)).2 rfl
 rw [hs,if_pos rfl,b3Y _ (by simp)]
 rfl
end Go.Proofs.YteanekphncdhiaaGreat.Sh
namespace Go.Proofs.YteanekphncdhiaaGreat.Sh
open Go
set_option linter.unusedVariables false
set_option linter.unusedSimpArgs false
theorem rat_ok {inv:Inventory} (hv:VI inv) (s:SourceID) (t:Int):∃ r,a8i inv s t=some r∧((r.2≠0∧∀ e,¬ EpA (epL s inv.Channels) t e)∨(r.2=0∧EpA (epL s inv.Channels) t r.1)):=by
 unfold a8i
 rw [hv.rvalid,a9M hv.ci]
 simp only [Option.bind_some,Bool.not_true,Bool.false_eq_true,if_false]
 have h32:=hv.ep32 s
 obtain ⟨q,hq⟩:∃ q,a6k s inv.Channels=q:=⟨_,rfl⟩
 have hqe:q.1.Epochs=epL s inv.Channels:=by rw [← hq,a3b]
 rw [hq,← hqe]
 rw [← hqe] at h32
 obtain ⟨r,e,hr⟩:=R3 (b1:=a6r t q) (fun k w=>∃ i:Nat,w=(i:Int)∧k+i=q.1.Epochs.length∧∀ e∈q.1.Epochs.take i,¬ (e.From≤t∧t<e.To))
  (fun r=>(r.2≠0∧∀ e,¬ EpA q.1.Epochs t e)∨(r.2=0∧EpA q.1.Epochs t r.1)) (fun k w ⟨i,hi,hk,hall⟩=>by
  subst hi
  unfold a6r
  by_cases hil:i<q.1.Epochs.length
  ·rw [if_pos (decide_eq_true (by omega)),r9 _ _ hil]
   simp only [Option.bind_some,iteT]
   by_cases hc:q.1.Epochs[i].From≤t∧t<q.1.Epochs[i].To
   ·rw [decide_eq_true hc.1,decide_eq_true hc.2]
    exact .inr ⟨_,rfl,.inr ⟨rfl,List.getElem_mem hil,hc⟩⟩
   ·have:(decide (q.1.Epochs[i].From≤t) && decide (t<q.1.Epochs[i].To))=false:=by rw [← Bool.not_eq_true,Bool.and_eq_true,decide_eq_true_eq,decide_eq_true_eq];exact hc
    rw [this,O5 (by omega)]
    refine .inl ⟨_,k - 1,rfl,⟨i+1,rfl,by omega,fun e he=>?_⟩,by omega⟩
    rw [D7 hil] at he
    rcases List.mem_append.1 he with he | he
    ·exact hall e he
    ·rcases List.mem_singleton.1 he with rfl;exact hc
  ·rw [if_neg (by simp;omega)]
   rw [List.take_of_length_le (by omega)] at hall
   exact .inr ⟨_,rfl,.inl ⟨by decide,fun e he=>hall e he.1 he.2⟩⟩) q.1.Epochs.length 0 ⟨0,rfl,rfl,by simp⟩
 exact ⟨r,e,hr⟩
theorem b0D (l:List Epoch) (x:Int):¬ a5R l l x:=fun ⟨⟨e,h⟩,hn⟩=>hn ⟨e,e,h.elim id id,h.elim id id,SD.refl e⟩
theorem aff_self {inv:Inventory} (h:VI inv):affN inv inv=[]:=by
 rw [a7S ⟨h,h⟩]
 refine List.eq_nil_iff_forall_not_mem.2 fun f hf=>?_
 have ha:=b0W h h
 obtain ⟨h1,h2,_⟩:=ha.vs f hf
 obtain ⟨x,hx⟩:=a9m h1 h2
 exact b0D _ x ((ha.at hf x).1 hx)
def Near (inv:Inventory) (c:Change) (x:Int):Prop:=(c.Kind≠1∧c.Epoch.From≤x∧x<c.Epoch.To)∨(c.Kind≠0∧∃ e,InI inv c.Source e∧e.From=c.From∧e.From≤x∧x<e.To)
theorem Done.other {inv:Inventory} {c:Change} {out:Inventory} (h:Done inv c out) {s:SourceID} (hs:s≠c.Source):epL s out.Channels=epL s inv.Channels:=
 (h.out.toSI.vl s).uniq (h.vi.toSI.vl s) fun e=>by
  rw [h.out.toSI.ep,h.vi.toSI.ep,h.res.mem]
  exact ⟨fun h=>h.elim (fun h=>h.1) (fun h=>absurd h.1 hs),fun h=>.inl ⟨h,fun h=>absurd h hs⟩⟩
theorem Done.near {inv:Inventory} {c:Change} {out:Inventory} (h:Done inv c out) {s:SourceID} {x:Int} (hd:a5R (epL s inv.Channels) (epL s out.Channels) x):s=c.Source∧Near inv c x:=by
 by_cases hs:s=c.Source
 case neg=>rw [h.other hs] at hd;exact absurd hd (b0D _ x)
 subst hs
 refine ⟨rfl,Classical.byContradiction fun hn=>?_⟩
 have hn1:¬ (c.Kind≠1∧c.Epoch.From≤x∧x<c.Epoch.To):=fun h=>hn (.inl h)
 have hn2:∀ e,InI inv c.Source e→c.Kind≠0→e.From=c.From→¬ (e.From≤x∧x<e.To):=fun e h1 h2 h3 h4=>hn (.inr ⟨h2,e,h1,h3,h4⟩)
 obtain ⟨⟨e,he⟩,hno⟩:=hd
 have key:EpA (epL c.Source inv.Channels) x e∧EpA (epL c.Source out.Channels) x e:=by
  unfold EpA at he ⊢
  simp only [h.out.toSI.ep,h.vi.toSI.ep,h.res.mem,After] at he ⊢
  rcases he with ⟨h1,h2⟩ | ⟨⟨h1,h3⟩ | ⟨_,h1,rfl⟩,h2⟩
  ·exact ⟨⟨h1,h2⟩,.inl ⟨h1,fun _ h0 h3=>hn2 e h1 h0 h3 h2⟩,h2⟩
  ·exact ⟨⟨h1,h2⟩,.inl ⟨h1,h3⟩,h2⟩
  ·exact absurd ⟨h1,h2⟩ hn1
 exact hno ⟨e,e,key.1,key.2,SD.refl e⟩
end Go.Proofs.YteanekphncdhiaaGreat.Sh
namespace Go.Proofs.YteanekphncdhiaaGreat.Sh
open Go
set_option linter.unusedVariables false
set_option linter.unusedSimpArgs false
theorem b0A {inv:Inventory} {c:Change} {d d':Dice} {out:Inventory} (h:Done inv c out) {near:List Span} (hn:near.length≤10) (hm:∀ x,Near inv c x→Mem near x):Q6 (inv,d) (c,d') (out,0) near=some true:=by
 unfold Q6
 simp only
 rw [(a6i h.vi.fi h.out.fi).1,a7S ⟨h.vi,h.out⟩]
 simp only [Option.bind_some]
 have ha:=b0W h.vi h.out
 have hlen:(a7m inv out).length≤1000:=by
  have h1:=a9U inv out
  have h2:=h.vi.n
  have h3:=h.out.n
  have:=a3c (f:=a6h inv out) (m:=1) (l:=a1d inv out) fun _ _=>a8B _ _ _
  unfold a7m
  omega
 obtain ⟨r,er,rfl⟩:=a1t (body:=U6 (c,d') (out,0) near (a7m inv out)) (fun (_:Unit) i=>i) (a7m inv out).length (fun _ _=>True) (fun r=>r=true) (fun i hi a _=>by
  refine ⟨(),?_,trivial⟩
  have hf:=List.getElem_mem hi
  obtain ⟨h1,h2,h3⟩:=ha.vs _ hf
  have hat:∀ x,Mem (a7m inv out)[i].Spans x→(a7m inv out)[i].Source=c.Source∧Near inv c x:=fun x hx=>h.near ((ha.at hf x).1 hx)
  obtain ⟨x,hx⟩:=a9m h1 h2
  have hs:=(hat x hx).1
  obtain ⟨w,ew,hw⟩:=a8p (a:=(a7m inv out)[i].Spans) (b:=near) (Nat.le_trans (Nat.mul_le_mul h3 (show _≤11 by omega)) (by decide)) (by omega) (by omega)
  have hwn:w=[]:=by
   by_cases hwn:w=[]
   ·exact hwn
   ·obtain ⟨z,hz⟩:=a9m hw.vs hwn
    obtain ⟨g1,g2⟩:=(hw.mem z).1 hz
    exact absurd (hm z (hat z g1).2) g2
  unfold U6
  simp only
  rw [if_pos (decide_eq_true (by omega)),r9 _ _ hi]
  simp only [Option.bind_some,a8s]
  rw [decide_eq_true hs,ew,hwn,O5 (by omega)]
  rfl) (fun a _=>by
  unfold U6
  simp only
  rw [if_neg (by simp),h.out.rvalid,b2S]
  exact ⟨_,rfl,rfl⟩) () trivial
 exact er
theorem a4H (t:List Int) (_:(t.length:Int)≤140737488355328∧∀ x∈t,-9223372036854775808≤x∧x≤9223372036854775807):a1N t=some true:=by
 unfold a1N
 rw [b2I]
 simp only [Option.bind_some]
 by_cases hl:t.length≤500
 case neg=>rw [decide_eq_false hl,b2S];rfl
 rw [decide_eq_true hl]
 simp only [Bool.not_true,Bool.false_eq_true,if_false,a8G,Option.bind_some]
 obtain ⟨inv,d1,e1,hv,hnb,hd1⟩:=b2C (DOK.roll hl) (n:=7) (by decide)
 rw [show X4 ⟨t,0⟩ 7=some (inv,d1) from e1]
 simp only [Option.bind_some]
 obtain ⟨c,d2,e2,hc,hd2⟩:=b3f hd1 hv
 rw [e2]
 simp only [Option.bind_some]
 obtain ⟨h1,_,h2⟩:=a7n hv.fi hc.cf
 rw [h1]
 simp only [Option.bind_some]
 by_cases h0:(apN inv c).2=0
 case neg=>
  rw [if_pos (a3I h0),(a6i hv.fi hv.fi).1,aff_self hv,b2S]
  rfl
 have hd:=a9q hv.fi hc.cf h0
 obtain ⟨out,hout⟩:∃ out,apN inv c=(out,0):=⟨(apN inv c).1,by rw [← h0]⟩
 rw [hout] at hd ⊢
 simp only at hd
 rw [if_neg (by simp)]
 have key:∀ l:List Span,l.length≤1→(∀ x,c.Kind≠1→c.Epoch.From≤x∧x<c.Epoch.To→Mem l x)→Q5 (inv,d1) (c,d2) (out,0) l=some true:=fun l hl1 hlm=>by
  unfold Q5
  simp only
  by_cases hk:c.Kind=0
  ·rw [if_neg (by rw [a2H hk];simp)]
   exact b0A hd (by omega) fun x hx=>hx.elim (fun h=>hlm x h.1 h.2) (fun h=>absurd hk h.1)
  ·rw [if_pos (a3I hk)]
   obtain ⟨e0,he0,hf0⟩:=hd.fnd.resolve_left hk
   have hve:=(hv.vin he0).ft
   have hat:EpA (epL c.Source inv.Channels) c.From e0:=⟨(hv.toSI.ep _ _).2 he0,by omega,by omega⟩
   obtain ⟨r,er,hr⟩:=rat_ok hv c.Source c.From
   rcases hr with ⟨_,hr⟩ | ⟨hr0,hr⟩
   ·exact absurd hat (hr e0)
   ·obtain rfl:=(hv.toSI.vl c.Source).at_one hr hat
    rw [er]
    simp only [Option.bind_some]
    rw [if_neg (by rw [a2H hr0];simp),C9 _ _ _ (by simp;omega) (by decide)]
    simp only [Option.bind_some]
    refine b0A hd (by simp;omega) fun x hx=>?_
    rw [mem_append,a0f]
    rcases hx with h | ⟨_,e,g1,g2,g3⟩
    ·exact .inl (hlm x h.1 h.2)
    ·obtain rfl:=hv.one_from g1 he0 (g2.trans hf0.symm)
     exact .inr g3
 by_cases hk:c.Kind=1
 ·rw [if_neg (by rw [a2H hk];simp)]
  exact key [] (by simp) fun x h=>absurd hk h
 ·rw [if_pos (a3I hk),C9 _ _ _ (by simp) (by decide)]
  exact key _ (by simp) fun x _ h=>a0f.2 h
end Go.Proofs.YteanekphncdhiaaGreat.Sh

/- The plain law: what the plain programs compute, put together in one text. -/
import Derived.Test.YteanekphncdhiaaGreatLw1
import Derived.Test.YteanekphncdhiaaGreatLa1
namespace Go.Proofs.YteanekphncdhiaaGreat.Sh
open Go
set_option linter.unusedVariables false
set_option linter.unusedSimpArgs false
theorem CD.cf {c:Change} (h:CD c):CF c:=⟨a6A h.s,h.e.ef⟩
noncomputable def apN (inv:Inventory) (c:Change):Inventory × Int:=(M0 inv c).getD (⟨[]⟩,1)
theorem a6a {inv:Inventory} {c:Change} (hf:FI inv) (hc:CF c):M0 inv c=some (apN inv c)∧a0p inv c=some (apN inv c)∧ApplyTo inv c (apN inv c):=by
 obtain ⟨r,h1,h2,h3⟩:=b3s hf hc
 have:apN inv c=r:=by unfold apN;rw [h1];rfl
 rw [this];exact ⟨h1,h2,h3⟩
structure Done (inv:Inventory) (c:Change) (out:Inventory):Prop where
 vi:VI inv
 ck:CK c
 fnd:Found inv c
 ncl:¬ a7S inv c
 res:Res20 inv c out
 novr:¬ Over out c
theorem Done.out {inv:Inventory} {c:Change} {out:Inventory} (h:Done inv c out):VI out:=h.res.vi h.vi h.novr
theorem ApplyTo.done {inv:Inventory} {c:Change} {r:Inventory × Int} (h:ApplyTo inv c r) (h0:r.2=0):Done inv c r.1:=by
 cases h with
 | bad=>cases h0
 | none=>cases h0
 | clash=>cases h0
 | over=>cases h0
 | ok h h1 h2 _ h3 h4=>exact ⟨h.1,h.2,h1,h2,h3,h4⟩
theorem Done.ap {inv:Inventory} {c:Change} {out:Inventory} (h:Done inv c out) (hc:CF c):apN inv c=(out,0):=(a6a h.vi.fi hc).2.2.uniq (.ok ⟨h.vi,h.ck⟩ h.fnd h.ncl _ h.res h.novr)
theorem a5J {inv:Inventory} {c:Change} (hf:FI inv) (hc:CF c) (h0:(apN inv c).2=0):Done inv c (apN inv c).1:=(a6a hf hc).2.2.done h0
theorem apN_nb {inv:Inventory} {c:Change} (hf:FI inv) (hc:CF c) (h0:(apN inv c).2=0) {n:Nat} (hn:NB inv n):NB (apN inv c).1 (n+1):=(a5J hf hc h0).res.nb n hn
noncomputable def a2C (inv:Inventory):List Change→Option Inventory
 | []=>some inv
 | c :: l=>if (apN inv c).2=0 then a2C (apN inv c).1 l else none
theorem a6f (inv:Inventory) (a b:List Change):a2C inv (a ++ b)=(a2C inv a).bind fun x=>a2C x b:=by
 induction a generalizing inv with
 | nil=>rfl
 | cons c a ih=>
  simp only [List.cons_append,a2C]
  split
  ·exact ih _
  ·rfl
theorem a6g {inv x:Inventory} {a:List Change} {c:Change} (h:a2C inv a=some x):a2C inv (a ++ [c])=if (apN x c).2=0 then some (apN x c).1 else none:=by
 rw [a6f,h];rfl
theorem foldN_vi {l:List Change}:∀ {inv x:Inventory},VI inv→(∀ c∈l,CF c)→a2C inv l=some x→VI x:=by
 induction l with
 | nil=>intro inv x hv _ h;cases h;exact hv
 | cons c l ih=>
  intro inv x hv hc h
  unfold a2C at h
  split at h
  ·rename_i h0
   exact ih (a5J hv.fi (hc c List.mem_cons_self) h0).out (fun d hd=>hc d (List.mem_cons_of_mem _ hd)) h
  ·cases h
noncomputable def a5L (inv:Inventory) (l:List Change):Inventory × Bool:=match a2C inv l with
 | some x=>(x,true)
 | none=>(⟨[]⟩,false)
theorem b1w {l:List Change} {base:Inventory} {body:List Channel × Int→Option ((List Channel × Int) ⊕ (Inventory × Bool))} (hl:l.length≤1000000) (hv:VI base) (hc:∀ c∈l,CF c)
  (h1:∀ (x:Inventory) i (hi:i<l.length),VI x→body (x.Channels,(i:Int))=if (apN x l[i]).2=0 then some (.inl ((apN x l[i]).1.Channels,((i+1:Nat):Int))) else some (.inr (⟨[]⟩,false))) (h2:∀ x:Inventory,body (x.Channels,(l.length:Int))=some (.inr (x,true))) :
  o5 body (base.Channels,0)=some (a5L base l):=by
 obtain ⟨r,e,rfl⟩:=R3 (b1:=body) (fun m s=>∃ (i:Nat) (x:Inventory),s=(x.Channels,(i:Int))∧m+i=l.length∧VI x∧a2C base (l.take i)=some x) (fun r=>r=a5L base l) (fun m s ⟨i,x,es,hm,hx,hf⟩=>by
  subst es
  by_cases hil:i<l.length
  ·rw [h1 x i hil hx]
   have hci:=hc _ (List.getElem_mem hil)
   by_cases h0:(apN x l[i]).2=0
   ·rw [if_pos h0]
    refine .inl ⟨_,m - 1,rfl,⟨i+1,(apN x l[i]).1,rfl,by omega,(a5J hx.fi hci h0).out,?_⟩,by omega⟩
    rw [C9 hil,a6g hf,if_pos h0]
   ·rw [if_neg h0]
    refine .inr ⟨_,rfl,?_⟩
    have:a2C base l=none:=by
     rw [← List.take_append_drop (i+1) l,a6f,C9 hil,a6g hf,if_neg h0];rfl
    unfold a5L;rw [this]
  ·have hi:i=l.length:=by omega
   subst hi
   rw [h2]
   refine .inr ⟨_,rfl,?_⟩
   rw [List.take_length] at hf
   unfold a5L;rw [hf]) l.length (base.Channels,0) ⟨0,base,rfl,by omega,hv,rfl⟩
 exact e
theorem b4e {base:Inventory} {l:List Change} (hl:l.length≤1000000) (hv:VI base) (hc:∀ c∈l,CF c):a2K base l=some (a5L base l):=by
 unfold a2K
 rw [b4a hv.ci]
 simp only [Option.bind_some]
 refine b1w hl hv hc (fun x i hi hx=>?_) (fun x=>?_)
 ·unfold a4j
  simp only
  rw [if_pos (decide_eq_true (by omega)),w9 _ _ hi]
  simp only [Option.bind_some]
  rw [(a6a (inv:=x) hx.fi (hc _ (List.getElem_mem hi))).1,M6 (by omega)]
  simp only [Option.bind_some]
  by_cases h0:(apN x l[i]).2=0
  ·rw [if_neg (by rw [a2Z h0];simp),if_pos h0]
  ·rw [if_pos (a4d h0),if_neg h0]
 ·unfold a4j
  simp only
  rw [if_neg (by simp)];rfl
theorem a8A {h:History} {n:Nat} (hn:n≤h.Changes.length) (hl:n≤1000000) (hv:VI h.Base) (hc:∀ c∈h.Changes,CF c):a1L h (n:Int)=some (a5L h.Base (h.Changes.take n)):=by
 unfold a1L
 rw [a8R hv.ci]
 simp only [Option.bind_some]
 have hlen:(h.Changes.take n).length=n:=by rw [List.length_take];omega
 refine b1w (l:=h.Changes.take n) (by omega) hv (fun c hc'=>hc c (List.mem_of_mem_take hc')) (fun x i hi hx=>?_) (fun x=>?_)
 ·unfold a4h
  simp only
  rw [if_pos (decide_eq_true (by omega)),w9 _ _ (show i<h.Changes.length by omega)]
  simp only [Option.bind_some,List.getElem_take]
  rw [(a6a (inv:=x) hx.fi (hc _ (List.getElem_mem (show i<h.Changes.length by omega)))).2.1,M6 (by omega)]
  simp only [Option.bind_some]
  by_cases h0:(apN x (h.Changes[i]'(by omega))).2=0
  ·rw [if_neg (by rw [a2Z h0];simp),if_pos h0]
  ·rw [if_pos (a4d h0),if_neg h0]
 ·unfold a4h
  simp only
  rw [if_neg (by simp [hlen])];rfl
structure HV (h:History):Prop where
 b:VI h.Base
 n:h.Changes.length≤256
 f:(a2C h.Base h.Changes).isSome=true
structure HF (h:History):Prop where
 b:FI h.Base
 n:h.Changes.length≤1000000
 c:∀ c∈h.Changes,CF c
theorem b4J (inv:Inventory) (l:List Change):(a5L inv l).2=(a2C inv l).isSome:=by
 unfold a5L;cases a2C inv l <;> rfl
theorem b1x {h:History} (hf:HF h):∃ b,a3M h=some b∧a4D h=some b∧(b=true↔HV h):=by
 obtain ⟨v,v1,v2⟩:=a7t hf.b
 obtain ⟨w,w1,w2⟩:=a5i hf.b
 have:w=v:=Bool.eq_iff_iff.2 (w2.trans v2.symm)
 subst this
 unfold a3M a4D
 rw [v1,w1]
 simp only [Option.bind_some]
 cases w with
 | false=>exact ⟨false,rfl,rfl,fun h=>(by cases h),fun h=>v2.2 h.b⟩
 | true=>
  have hv:=v2.1 rfl
  by_cases h256:(256:Int)<(h.Changes.length:Int)
  ·rw [decide_eq_true h256]
   exact ⟨false,rfl,rfl,fun h=>(by cases h),fun h=>by have:=h.n;omega⟩
  ·rw [decide_eq_false h256,b4e hf.n hv hf.c,a8A (Nat.le_refl _) hf.n hv hf.c,List.take_length]
   refine ⟨(a5L h.Base h.Changes).2,rfl,rfl,?_⟩
   rw [b4J]
   exact ⟨fun h=>⟨hv,by omega,h⟩,fun h=>h.f⟩
open Classical in
noncomputable def verN (h:History) (n:Int):Inventory × Int:=if ¬ HV h then (⟨[]⟩,1) else if n<0∨(h.Changes.length:Int)<n then (⟨[]⟩,2) else ((a5L h.Base (h.Changes.take n.toNat)).1,0)
theorem b3M {h:History} (hf:HF h) (n:Int):a0W h n=some (verN h n)∧a2I h n=some (verN h n):=by
 obtain ⟨b,b1,b2,b3⟩:=b1x hf
 unfold a0W a2I verN
 rw [b1,b2]
 simp only [Option.bind_some,a4B]
 cases b with
 | false=>
  have hn:¬ HV h:=fun h=>by have:=b3.2 h;cases this
  rw [if_pos hn];exact ⟨rfl,rfl⟩
 | true=>
  have hh:=b3.1 rfl
  rw [if_neg (show ¬ ¬ HV h from fun h=>h hh)]
  simp only [Bool.not_true,Bool.false_eq_true,if_false]
  have hlen:=hh.n
  by_cases hr:n<0∨(h.Changes.length:Int)<n
  ·have h1:(decide (n<0) || decide ((h.Changes.length:Int)<n))=true:=by rw [Bool.or_eq_true,decide_eq_true_eq,decide_eq_true_eq];exact hr
   have h2:inB n 0 (h.Changes.length:Int)=false:=by
    cases hh:inB n 0 (h.Changes.length:Int) with
    | false=>rfl
    | true=>have:=a0e.1 hh;omega
   rw [h1,h2,if_pos hr];exact ⟨rfl,rfl⟩
  ·have h1:(decide (n<0) || decide ((h.Changes.length:Int)<n))=false:=by rw [Bool.or_eq_false_iff,decide_eq_false_iff_not,decide_eq_false_iff_not];omega
   have h2:inB n 0 (h.Changes.length:Int)=true:=a0e.2 (by omega)
   rw [h1,h2,if_neg hr]
   simp only [Bool.not_true,Bool.false_eq_true,if_false]
   obtain ⟨k,rfl⟩:∃ k:Nat,n=(k:Int):=⟨n.toNat,by omega⟩
   have hs:D8 h.Changes 0 (k:Int)=some (h.Changes.take k):=by
    have:=a0B h.Changes 0 k (Nat.zero_le _) (by omega)
    simpa using this
   rw [hs]
   simp only [Option.bind_some,Int.toNat_natCast]
   rw [b4e (by rw [List.length_take];omega) hh.b (fun c hc=>hf.c c (List.mem_of_mem_take hc)),a8A (by omega) (by omega) hh.b hf.c]
   exact ⟨rfl,rfl⟩
theorem HV.pre {h:History} (hv:HV h) {k:Nat} (hk:k≤h.Changes.length):∃ x,a2C h.Base (h.Changes.take k)=some x:=by
 have:=hv.f
 rw [← List.take_append_drop k h.Changes,a6f] at this
 cases hx:a2C h.Base (h.Changes.take k) with
 | none=>rw [hx] at this;cases this
 | some x=>exact ⟨x,rfl⟩
theorem HV.ver {h:History} (hv:HV h) (hc:∀ c∈h.Changes,CF c) {k:Nat} (hk:k≤h.Changes.length):∃ x,a2C h.Base (h.Changes.take k)=some x∧VI x∧verN h (k:Int)=(x,0):=by
 obtain ⟨x,hx⟩:=hv.pre hk
 refine ⟨x,hx,foldN_vi hv.b (fun c hc'=>hc c (List.mem_of_mem_take hc')) hx,?_⟩
 unfold verN
 rw [if_neg (show ¬ ¬ HV h from fun h=>h hv),if_neg (by omega),Int.toNat_natCast]
 unfold a5L
 rw [hx]
theorem b3N:VI ⟨[]⟩:=⟨⟨(fun c hc=>by cases hc),(fun c hc=>by cases hc),List.Pairwise.nil⟩,by simp,(fun c hc=>by cases hc)⟩
theorem nb_nil:NB ⟨[]⟩ 0:=⟨Nat.le_refl _,fun c hc=>by cases hc⟩
theorem b3v {d:Dice} (hd:DOK d) {n:Nat} (hn:n≤100):∃ inv d',X9 d (n:Int)=some (inv,d')∧VI inv∧NB inv n∧DOK d':=by
 unfold X9
 rw [M6 (by omega)]
 obtain ⟨x,d1,e1,x0,x1,hd1⟩:=I7 hd (n:=((n+1:Nat):Int)) (by omega) (by omega)
 rw [e1]
 simp only [Option.bind_some]
 obtain ⟨m,rfl⟩:∃ m:Nat,x=(m:Int):=⟨x.toNat,by omega⟩
 obtain ⟨r,e,inv,d',rfl,h1,h2,h3⟩:=R3 (b1:=a1j) (fun k s=>∃ (d:Dice) (inv:Inventory),s=(d.L,d.At,inv.Channels,(k:Int))∧DOK d∧VI inv∧NB inv (m - k)∧k≤m) (fun r=>∃ (inv:Inventory) (d:Dice),r=(d.L,d.At,inv.Channels)∧VI inv∧NB inv m∧DOK d) (fun k s ⟨d,inv,es,hd,hv,hnb,hk⟩=>by
  subst es
  unfold a1j
  simp only
  by_cases hk0:0<k
  ·rw [if_pos (decide_eq_true (by omega))]
   obtain ⟨c,d2,e2,hc,hd2⟩:=b4c (d:=d) hd hv
   rw [show U4 ⟨d.L,d.At⟩ ⟨inv.Channels⟩=some (c,d2) from e2]
   simp only [Option.bind_some]
   rw [show a0p ⟨inv.Channels⟩ c=some (apN inv c) from (a6a hv.fi hc.cf).2.1]
   simp only [Option.bind_some]
   have hw:w64 ((k:Int) - 1)=((k - 1:Nat):Int):=by rw [G6 (by omega) (by omega)];omega
   unfold Y3
   simp only [Option.bind_some,hw]
   by_cases h0:(apN inv c).2=0
   ·rw [if_pos (by simpa using h0)]
    have hnb2:=apN_nb hv.fi hc.cf h0 hnb
    rw [show m - k+1=m - (k - 1) by omega] at hnb2
    exact .inl ⟨_,k - 1,rfl,⟨d2,(apN inv c).1,rfl,hd2,(a5J hv.fi hc.cf h0).out,hnb2,by omega⟩,by omega⟩
   ·rw [if_neg (by simpa using h0)]
    refine .inl ⟨_,k - 1,rfl,⟨d2,inv,rfl,hd2,hv,⟨by have:=hnb.1;omega,fun c hc=>by have:=hnb.2 c hc;omega⟩,by omega⟩,by omega⟩
  ·rw [if_neg (by simp;omega)]
   have hk0:k=0:=by omega
   subst hk0
   exact .inr ⟨_,rfl,inv,d,rfl,hv,hnb,hd⟩) m (d1.L,d1.At,[],(m:Int)) ⟨d1,⟨[]⟩,rfl,hd1,b3N,⟨by simp,fun c hc=>by cases hc⟩,Nat.le_refl _⟩
 rw [e]
 exact ⟨inv,d',rfl,h1,⟨by have:=h2.1;omega,fun c hc=>by have:=h2.2 c hc;omega⟩,h3⟩
theorem b4A {h:History} {c:Change} (hh:HV h) (hc:∀ d∈h.Changes,CD d) (hcd:CF c) (hn:h.Changes.length<256):∃ x,a2C h.Base h.Changes=some x∧VI x ∧
  (((apN x c).2=0∧a1m h c=some (⟨h.Base,h.Changes ++ [c]⟩,0))∨((apN x c).2≠0∧a1m h c=some (⟨⟨[]⟩,[]⟩,(apN x c).2))):=by
 have hf:HF h:=⟨hh.b.fi,by omega,fun d hd=>(hc d hd).cf⟩
 obtain ⟨x,hx,hv,_⟩:=hh.ver hf.c (Nat.le_refl _)
 rw [List.take_length] at hx
 refine ⟨x,hx,hv,?_⟩
 obtain ⟨b,_,b2,b3⟩:=b1x hf
 have:=b3.2 hh
 subst this
 unfold a1m
 rw [b2]
 simp only [Option.bind_some,Bool.not_true,Bool.false_eq_true,if_false]
 rw [if_neg (by simp;omega),a8A (Nat.le_refl _) (by omega) hh.b hf.c,List.take_length]
 have hfr:a5L h.Base h.Changes=(x,true):=by unfold a5L;rw [hx]
 rw [hfr]
 simp only [Option.bind_some]
 rw [(a6a hv.fi hcd).2.1]
 simp only [Option.bind_some]
 by_cases h0:(apN x c).2=0
 ·refine .inl ⟨h0,?_⟩
  have hce:CE c.Epoch:=by
   have hck:=(a5J hv.fi hcd h0).ck
   by_cases k1:c.Kind=1
   ·rcases hck.2 with h | h | h
    ·omega
    ·rw [h.2];exact noEp_ce
    ·omega
   ·exact (hck.ve k1).ce
  rw [if_neg (by rw [a2Z h0];simp),a6p hce,a8R hh.b.ci]
  simp only [Option.bind_some]
  rw [capp _ _ (by omega) (by decide)]
  simp only [Option.bind_some]
  rw [E5 _ _ _ (by simp;omega) (by decide)]
  rfl
 ·exact .inr ⟨h0,by rw [if_pos (a4d h0)]⟩
theorem HV.snoc {h:History} {c:Change} {x:Inventory} (hh:HV h) (hx:a2C h.Base h.Changes=some x) (h0:(apN x c).2=0) (hn:h.Changes.length<256):HV ⟨h.Base,h.Changes ++ [c]⟩:=⟨hh.b,by show (h.Changes ++ [c]).length≤256;simp;omega,by
 show (a2C h.Base (h.Changes ++ [c])).isSome=true
 rw [a6g hx,if_pos h0];rfl⟩
structure HD (h:History) (n:Nat):Prop where
 v:HV h
 c:∀ c∈h.Changes,CD c
 n:h.Changes.length≤n
theorem dhistory {d:Dice} (hd:DOK d) {n:Nat} (hn:n≤100):∃ h d',a0n d (n:Int)=some (h,d')∧HD h n∧DOK d':=by
 unfold a0n
 obtain ⟨base,d0,e0,hvb,_,hd0⟩:=b3v hd (n:=4) (by decide)
 rw [show X9 d 4=some (base,d0) from e0]
 simp only [Option.bind_some]
 rw [M6 (by omega)]
 obtain ⟨x,d1,e1,x0,x1,hd1⟩:=I7 hd0 (n:=((n+1:Nat):Int)) (by omega) (by omega)
 rw [e1]
 simp only [Option.bind_some]
 obtain ⟨m,rfl⟩:∃ m:Nat,x=(m:Int):=⟨x.toNat,by omega⟩
 obtain ⟨r,e,h,d',rfl,h1,h2⟩:=R3 (b1:=a2d) (fun k s=>∃ (d:Dice) (h:History),s=(d.L,d.At,h.Base.Channels,h.Changes,(k:Int))∧DOK d∧HD h (m - k)∧k≤m) (fun r=>∃ (h:History) (d:Dice),r=(d.L,d.At,h.Base.Channels,h.Changes)∧HD h m∧DOK d) (fun k s ⟨d,h,es,hd,hh,hk⟩=>by
  subst es
  unfold a2d
  simp only
  by_cases hk0:0<k
  ·rw [if_pos (decide_eq_true (by omega))]
   have hcf:∀ c∈h.Changes,CF c:=fun c hc=>(hh.c c hc).cf
   have hlen:=hh.n
   have hf:HF h:=⟨hh.v.b.fi,by omega,hcf⟩
   obtain ⟨y,hy,hvy,hver⟩:=hh.v.ver hcf (Nat.le_refl _)
   rw [show a2I ⟨⟨h.Base.Channels⟩,h.Changes⟩ (h.Changes.length:Int)=some (y,0) from (b3M hf _).2.trans (by rw [hver])]
   simp only [Option.bind_some]
   obtain ⟨c,d2,e2,hc,hd2⟩:=b4c (d:=d) hd hvy
   rw [show U4 ⟨d.L,d.At⟩ y=some (c,d2) from e2]
   simp only [Option.bind_some]
   obtain ⟨z,hz,hvz,hap⟩:=b4A hh.v hh.c hc.cf (by omega)
   have hw:w64 ((k:Int) - 1)=((k - 1:Nat):Int):=by rw [G6 (by omega) (by omega)];omega
   unfold a0o
   simp only [Option.bind_some,hw]
   rcases hap with ⟨h0,hap⟩ | ⟨h0,hap⟩
   ·rw [show a1m ⟨⟨h.Base.Channels⟩,h.Changes⟩ c=some (⟨h.Base,h.Changes ++ [c]⟩,0) from hap]
    refine .inl ⟨_,k - 1,rfl,⟨d2,⟨h.Base,h.Changes ++ [c]⟩,rfl,hd2,⟨hh.v.snoc hz h0 (by omega),fun e he=>?_,?_⟩,by omega⟩,by omega⟩
    ·rcases List.mem_append.1 he with he | he
     ·exact hh.c e he
     ·rcases List.mem_singleton.1 he with rfl;exact hc
    ·show (h.Changes ++ [c]).length≤_
     simp;omega
   ·rw [show a1m ⟨⟨h.Base.Channels⟩,h.Changes⟩ c=some (⟨⟨[]⟩,[]⟩,(apN z c).2) from hap]
    simp only [Option.bind_some]
    rw [if_neg (by simpa using h0)]
    exact .inl ⟨_,k - 1,rfl,⟨d2,h,rfl,hd2,⟨hh.v,hh.c,by omega⟩,by omega⟩,by omega⟩
  ·rw [if_neg (by simp;omega)]
   have hk0:k=0:=by omega
   subst hk0
   exact .inr ⟨_,rfl,h,d,rfl,hh,hd⟩) m (d1.L,d1.At,base.Channels,[],(m:Int)) ⟨d1,⟨base,[]⟩,rfl,hd1,⟨⟨hvb,by simp,rfl⟩,fun c hc=>(by cases hc),by simp⟩,Nat.le_refl _⟩
 rw [e]
 exact ⟨h,d',rfl,⟨h1.v,h1.c,by have:=h1.n;omega⟩,h2⟩
end Go.Proofs.YteanekphncdhiaaGreat.Sh
namespace Go.Proofs.YteanekphncdhiaaGreat.Sh
open Go
set_option linter.unusedVariables false
set_option linter.unusedSimpArgs false
theorem VI.one {inv:Inventory} (h:VI inv) {s:SourceID} {e f:Epoch} (he:InI inv s e) (hf:InI inv s f) (ho:a4H e f):e=f:=
 (h.toSI.vl s).one ((h.toSI.ep s e).2 he) ((h.toSI.ep s f).2 hf) ho
theorem VI.novr {inv:Inventory} (h:VI inv) (c:Change):¬ Over inv c:=by
 have:=h.n
 have:=h.ep32 c.Source
 unfold Over
 omega
theorem NB.novr {out:Inventory} {n:Nat} (h:NB out n) (hn:n≤32) (c:Change):¬ Over out c:=by
 have:=h.1
 have:(epL c.Source out.Channels).length≤n:=by
  rcases a3k c.Source out.Channels with ⟨h1,_⟩ | ⟨d,hd,_,h1⟩
  ·rw [h1];exact Nat.zero_le _
  ·rw [h1];exact h.2 d hd
 unfold Over
 omega
theorem ap_nb {inv:Inventory} {c:Change} {n:Nat} (hv:VI inv) (hk:CK c) (hc:CF c) (hf:Found inv c) (hn:¬ a7S inv c) (hb:NB inv n) (h32:n<32):∃ out,apN inv c=(out,0)∧Done inv c out:=by
 have h:=(a6a hv.fi hc).2.2
 revert h
 generalize apN inv c=r
 intro h
 cases h with
 | bad h=>exact absurd ⟨hv,hk⟩ h
 | none _ h=>exact absurd hf h
 | clash _ _ h=>exact absurd h hn
 | over _ _ _ o h h'=>exact absurd h' ((h.nb n hb).novr (by omega) c)
 | ok _ _ _ o h h'=>exact ⟨o,rfl,hv,hk,hf,hn,h,h'⟩
def noCh:Change:=⟨0,b1z,0,noEp⟩
inductive InvTo (inv:Inventory) (c:Change):Change × Int→Prop where
 | bad (h:(apN inv c).2≠0):InvTo inv c (noCh,(apN inv c).2)
 | add (h:(apN inv c).2=0) (h0:c.Kind=0):InvTo inv c (⟨1,c.Source,c.From,noEp⟩,0)
 | rem (h:(apN inv c).2=0) (h0:c.Kind=1) (e:Epoch) (he:InI inv c.Source e) (hf:e.From=c.From):InvTo inv c (⟨0,c.Source,c.From,e⟩,0)
 | rep (h:(apN inv c).2=0) (h0:c.Kind=2) (e:Epoch) (he:InI inv c.Source e) (hf:e.From=c.From):InvTo inv c (⟨2,c.Source,c.Epoch.From,e⟩,0)
def exS:SourceID:=⟨⟨#[65]⟩,⟨#[66]⟩,ByteArray.empty,⟨#[72,72,90]⟩⟩
def exE (t:Int):Epoch:=⟨10,t,⟨100,1⟩,⟨0,0,0⟩,⟨[]⟩⟩
theorem a9o:a5j exS=true:=by decide
theorem exE_ok {t:Int} (h:10<t) (h1:t≤100):VE (exE t):=
 ⟨show (0:Int)≤10 by decide,h,show t≤9007199254740992 by omega,show RV ⟨100,1⟩ from ⟨by decide,by decide,by decide,by decide,by decide⟩,show RP [] from ⟨fun s hs=>(by cases hs),by decide,by decide⟩,
  show (-1048576:Int)≤0∧(0:Int)≤1048576 by decide,show (-1048576:Int)≤0∧(0:Int)≤1048576 by decide,show (-16384:Int)≤0∧(0:Int)≤1048576 by decide⟩
theorem sane20:a4Y=some true:=by
 have v1:=exE_ok (t:=20) (by decide) (by decide)
 have v2:=exE_ok (t:=25) (by decide) (by decide)
 have hn:∀ s e,¬ InI ⟨[]⟩ s e:=fun s e ⟨c,hc,_⟩=>by cases hc
 obtain ⟨x,e1,d1⟩:=ap_nb (inv:=⟨[]⟩) (c:=⟨0,exS,10,exE 20⟩) b3N ⟨a9o,.inl ⟨rfl,v1,rfl⟩⟩ ⟨a6A a9o,v1.ce.ef⟩ (.inl rfl) (fun h=>by obtain ⟨_,e,he,_⟩:=h;exact hn _ _ he.1) nb_nil (by decide)
 have m1:∀ s e,InI x s e↔s=exS∧e=exE 20:=fun s e=>by
  rw [d1.res.mem]
  unfold After
  constructor
  ·rintro (h | h)
   ·exact absurd h.1 (hn _ _)
   ·exact ⟨h.1,h.2.2⟩
  ·exact fun h=>.inr ⟨h.1,by decide,h.2⟩
 obtain ⟨y,e2,d2⟩:=ap_nb (inv:=x) (c:=⟨2,exS,10,exE 25⟩) d1.out ⟨a9o,.inr (.inr ⟨rfl,v2⟩)⟩ ⟨a6A a9o,v2.ce.ef⟩ (.inr ⟨exE 20,(m1 _ _).2 ⟨rfl,rfl⟩,rfl⟩) (fun h=>by
  obtain ⟨_,e,he,_⟩:=h
  have:=((m1 _ _).1 he.1).2
  subst this
  exact he.2 (by decide) rfl) (d1.res.nb 0 nb_nil) (by decide)
 have m2:∀ s e,InI y s e↔s=exS∧e=exE 25:=fun s e=>by
  rw [d2.res.mem]
  unfold After
  constructor
  ·rintro (⟨h,h'⟩ | h)
   ·obtain ⟨rfl,rfl⟩:=(m1 _ _).1 h
    exact absurd rfl (h' rfl (by decide))
   ·exact ⟨h.1,h.2.2⟩
  ·exact fun h=>.inr ⟨h.1,by decide,h.2⟩
 have a1:∀ s z e,EpA (epL s x.Channels) z e↔(s=exS∧e=exE 20)∧e.From≤z∧z<e.To:=fun s z e=>by unfold EpA;rw [d1.out.toSI.ep,m1]
 have a2:∀ s z e,EpA (epL s y.Channels) z e↔(s=exS∧e=exE 25)∧e.From≤z∧z<e.To:=fun s z e=>by unfold EpA;rw [d2.out.toSI.ep,m2]
 have hA:AffP x y [⟨exS,[⟨20,25⟩]⟩]:=by
  refine ⟨List.pairwise_singleton _ _,fun f hf=>?_,fun s z=>?_⟩
  ·rcases List.mem_singleton.1 hf with rfl
   refine ⟨⟨fun t ht=>?_,List.pairwise_singleton _ _⟩,by simp,by simp⟩
   rcases List.mem_singleton.1 ht with rfl;decide
  ·unfold a1d
   simp only [a1,a2]
   constructor
   ·rintro ⟨f,hf,rfl,hm⟩
    rcases List.mem_singleton.1 hf with rfl
    rw [a0M] at hm
    simp only at hm
    refine ⟨⟨exE 25,.inr ⟨⟨rfl,rfl⟩,by show (10:Int)≤z;omega,hm.2⟩⟩,?_⟩
    rintro ⟨e,f,⟨⟨_,rfl⟩,h⟩,_⟩
    have:z<20:=h.2
    omega
   ·rintro ⟨⟨e,h⟩,hn⟩
    have hs:s=exS:=h.elim (fun h=>h.1.1) (fun h=>h.1.1)
    refine ⟨_,List.mem_singleton.2 rfl,hs.symm,?_⟩
    rw [a0M]
    have h10:10≤z∧z<25:=by
     rcases h with ⟨⟨_,rfl⟩,h1,h2⟩ | ⟨⟨_,rfl⟩,h1,h2⟩
     ·have h1:10≤z:=h1
      have h2:z<20:=h2
      omega
     ·have h1:10≤z:=h1
      have h2:z<25:=h2
      omega
    by_cases h20:z<20
    ·exact absurd ⟨exE 20,exE 25,⟨⟨hs,rfl⟩,h10.1,h20⟩,⟨⟨hs,rfl⟩,h10.1,h10.2⟩,rfl,rfl,rfl⟩ hn
    ·exact ⟨by show (20:Int)≤z;omega,h10.2⟩
 have hL:affN x y=[⟨exS,[⟨20,25⟩]⟩]:=by
  rw [a6S ⟨d1.out,d2.out⟩]
  exact (a5Y d1.out d2.out).uniq hA fun _ _=>Iff.rfl
 have f1:M0 ⟨[]⟩ ⟨0,exS,10,exE 20⟩=some (x,0):=by rw [(a6a b3N.fi ⟨a6A a9o,v1.ce.ef⟩).1,e1]
 have f2:M0 x ⟨2,exS,10,exE 25⟩=some (y,0):=by rw [(a6a d1.out.fi ⟨a6A a9o,v2.ce.ef⟩).1,e2]
 have f3:=(a9K d1.out.fi d2.out.fi).1
 rw [hL] at f3
 unfold a4Y
 rw [show M0 (⟨([]:List Channel)⟩:Inventory) (⟨0,(⟨(⟨#[65]⟩:ByteArray),(⟨#[66]⟩:ByteArray),ByteArray.empty,(⟨#[72,72,90]⟩:ByteArray)⟩:SourceID),10,(⟨10,20,(⟨100,1⟩:Rate),(⟨0,0,0⟩:Position),(⟨([]:List Stage)⟩:Response)⟩:Epoch)⟩:Change)=some (x,0) from f1]
 simp only [Option.bind_some]
 rw [show M0 x (⟨2,(⟨(⟨#[65]⟩:ByteArray),(⟨#[66]⟩:ByteArray),ByteArray.empty,(⟨#[72,72,90]⟩:ByteArray)⟩:SourceID),10,(⟨10,25,(⟨100,1⟩:Rate),(⟨0,0,0⟩:Position),(⟨([]:List Stage)⟩:Response)⟩:Epoch)⟩:Change)=some (y,0) from f2]
 simp only [Option.bind_some]
 rw [f3]
 simp only [Option.bind_some]
 have i0:ix ([⟨exS,[⟨20,25⟩]⟩]:List Affected) 0=some ⟨exS,[⟨20,25⟩]⟩:=rfl
 rw [if_pos (by simp),i0]
 simp only [Option.bind_some]
 have hs:((exS.Network == (⟨#[65]⟩:ByteArray)) && ((exS.Station == (⟨#[66]⟩:ByteArray)) && ((exS.Location == ByteArray.empty) && ((exS.Channel == (⟨#[72,72,90]⟩:ByteArray)) && true))))=true:=(b2o (a:=exS) (b:=exS)).2 rfl
 rw [hs,if_pos rfl,b1D _ (by simp)]
 rfl
end Go.Proofs.YteanekphncdhiaaGreat.Sh
namespace Go.Proofs.YteanekphncdhiaaGreat.Sh
open Go
set_option linter.unusedVariables false
set_option linter.unusedSimpArgs false
theorem a9n (l:List Epoch) (x:Int):¬ a1d l l x:=fun ⟨⟨e,h⟩,hn⟩=>hn ⟨e,e,h.elim id id,h.elim id id,SD.refl e⟩
theorem aff_self {inv:Inventory} (h:VI inv):affN inv inv=[]:=by
 rw [a6S ⟨h,h⟩]
 refine List.eq_nil_iff_forall_not_mem.2 fun f hf=>?_
 have ha:=a5Y h h
 obtain ⟨h1,h2,_⟩:=ha.vs f hf
 obtain ⟨x,hx⟩:=b0e h1 h2
 exact a9n _ x ((ha.at hf x).1 hx)
def Near (inv:Inventory) (c:Change) (x:Int):Prop:=(c.Kind≠1∧c.Epoch.From≤x∧x<c.Epoch.To)∨(c.Kind≠0∧∃ e,InI inv c.Source e∧e.From=c.From∧e.From≤x∧x<e.To)
theorem Done.other {inv:Inventory} {c:Change} {out:Inventory} (h:Done inv c out) {s:SourceID} (hs:s≠c.Source):epL s out.Channels=epL s inv.Channels:=
 (h.out.toSI.vl s).uniq (h.vi.toSI.vl s) fun e=>by
  rw [h.out.toSI.ep,h.vi.toSI.ep,h.res.mem]
  exact ⟨fun h=>h.elim (fun h=>h.1) (fun h=>absurd h.1 hs),fun h=>.inl ⟨h,fun h=>absurd h hs⟩⟩
theorem Done.near {inv:Inventory} {c:Change} {out:Inventory} (h:Done inv c out) {s:SourceID} {x:Int} (hd:a1d (epL s inv.Channels) (epL s out.Channels) x):s=c.Source∧Near inv c x:=by
 by_cases hs:s=c.Source
 case neg=>rw [h.other hs] at hd;exact absurd hd (a9n _ x)
 subst hs
 refine ⟨rfl,Classical.byContradiction fun hn=>?_⟩
 have hn1:¬ (c.Kind≠1∧c.Epoch.From≤x∧x<c.Epoch.To):=fun h=>hn (.inl h)
 have hn2:∀ e,InI inv c.Source e→c.Kind≠0→e.From=c.From→¬ (e.From≤x∧x<e.To):=fun e h1 h2 h3 h4=>hn (.inr ⟨h2,e,h1,h3,h4⟩)
 obtain ⟨⟨e,he⟩,hno⟩:=hd
 have key:EpA (epL c.Source inv.Channels) x e∧EpA (epL c.Source out.Channels) x e:=by
  unfold EpA at he ⊢
  simp only [h.out.toSI.ep,h.vi.toSI.ep,h.res.mem,After] at he ⊢
  rcases he with ⟨h1,h2⟩ | ⟨⟨h1,h3⟩ | ⟨_,h1,rfl⟩,h2⟩
  ·exact ⟨⟨h1,h2⟩,.inl ⟨h1,fun _ h0 h3=>hn2 e h1 h0 h3 h2⟩,h2⟩
  ·exact ⟨⟨h1,h2⟩,.inl ⟨h1,h3⟩,h2⟩
  ·exact absurd ⟨h1,h2⟩ hn1
 exact hno ⟨e,e,key.1,key.2,SD.refl e⟩
end Go.Proofs.YteanekphncdhiaaGreat.Sh
namespace Go.Proofs.YteanekphncdhiaaGreat.Sh
open Go
set_option linter.unusedVariables false
set_option linter.unusedSimpArgs false
end Go.Proofs.YteanekphncdhiaaGreat.Sh
namespace Go.Proofs.YteanekphncdhiaaGreat.Sh
open Go
set_option linter.unusedVariables false
set_option linter.unusedSimpArgs false
structure MT (p q:List Span) (i k:Nat) (out:List Span):Prop where
 vs:VS out
 mem:∀ z,Mem out z↔Mem p z∧Mem q z∧¬ (Mem (p.drop i) z∧Mem (q.drop k) z)
 ord:∀ s∈out,(∀ u∈p.drop i,s.To<u.From)∨(∀ u∈q.drop k,s.To<u.From)
 len:out.length≤i+k
 eb:∀ lo hi,EB lo hi p→EB lo hi q→EB lo hi out
theorem MT.zero {p q:List Span}:MT p q 0 0 []:=⟨VS.nil,fun z=>by
 simp only [List.drop_zero]
 exact ⟨fun h=>absurd h Mem.nil,fun ⟨h1,h2,h3⟩=>absurd ⟨h1,h2⟩ h3⟩,fun s h=>(by cases h),Nat.le_refl _,fun _ _ _ _ s h=>(by cases h)⟩
theorem MT.step {p q out out':List Span} {i k:Nat} (hp:VS p) (hq:VS q) (h:MT p q i k out) (hi:i<p.length) (hk:k<q.length)
  (ho:out'=if max p[i].From q[k].From<min p[i].To q[k].To then out ++ [⟨max p[i].From q[k].From,min p[i].To q[k].To⟩] else out) :
  (p[i].To<q[k].To→MT p q (i+1) k out')∧(q[k].To≤p[i].To→MT p q i (k+1) out'):=by
 have nx:=hp.ne _ (List.getElem_mem hi)
 have ny:=hq.ne _ (List.getElem_mem hk)
 have hvs:VS out':=by
  rw [ho]
  split
  ·next hlt=>
   refine h.vs.snoc hlt (fun s hs=>?_)
   simp only
   rcases h.ord s hs with h1 | h1
   ·have:=h1 p[i] (by rw [List.drop_eq_getElem_cons hi];exact List.mem_cons_self)
    omega
   ·have:=h1 q[k] (by rw [List.drop_eq_getElem_cons hk];exact List.mem_cons_self)
    omega
  ·exact h.vs
 have hmem:∀ z,Mem out' z↔Mem out z∨((p[i].From≤z∧z<p[i].To)∧(q[k].From≤z∧z<q[k].To)):=by
  intro z
  rw [ho]
  split
  ·rw [mem_append,a0M]
   simp only
   constructor
   ·rintro (h | h)
    ·exact .inl h
    ·exact .inr (by omega)
   ·rintro (h | h)
    ·exact .inl h
    ·exact .inr (by omega)
  ·constructor
   ·exact .inl
   ·rintro (h | h)
    ·exact h
    ·omega
 have hsub:∀ s∈out',s∈out∨(s.To=min p[i].To q[k].To):=by
  intro s hs
  rw [ho] at hs
  split at hs
  ·rcases List.mem_append.1 hs with hs | hs
   ·exact .inl hs
   ·rcases List.mem_singleton.1 hs with rfl;exact .inr rfl
  ·exact .inl hs
 have hlen:out'.length≤out.length+1:=by rw [ho];split <;> simp
 have heb:∀ lo hi,EB lo hi p→EB lo hi q→EB lo hi out':=by
  intro lo hi' hp' hq'
  rw [ho]
  have b1:=hp' _ (List.getElem_mem hi)
  have b2:=hq' _ (List.getElem_mem hk)
  split
  ·exact (h.eb lo hi' hp' hq').app (EB.one (by simp only;omega))
  ·exact h.eb lo hi' hp' hq'
 have xA:∀ z,(p[i].From≤z∧z<p[i].To)→Mem p z:=fun z hz=>⟨_,List.getElem_mem hi,hz⟩
 have yB:∀ z,(q[k].From≤z∧z<q[k].To)→Mem q z:=fun z hz=>⟨_,List.getElem_mem hk,hz⟩
 have p1:∀ z,Mem (p.drop (i+1)) z→p[i].To<z:=fun z hz=>hp.laterM hi hz
 have q1:∀ z,Mem (q.drop (k+1)) z→q[k].To<z:=fun z hz=>hq.laterM hk hz
 have hl:=h.len
 constructor
 ·intro hc
  refine ⟨hvs,fun z=>?_,fun s hs=>?_,by omega,heb⟩
  ·rw [hmem,h.mem,a8O hi,a8O hk]
   have a1:=xA z;have a2:=yB z;have a3:=p1 z;have a4:=q1 z
   constructor
   ·rintro (⟨h1,h2,h3⟩ | ⟨h1,h2⟩)
    ·exact ⟨h1,h2,fun h=>h3 ⟨.inr h.1,h.2⟩⟩
    ·exact ⟨a1 h1,a2 h2,fun h=>by have:=a3 h.1;omega⟩
   ·rintro ⟨h1,h2,h3⟩
    by_cases hx:p[i].From≤z∧z<p[i].To
    ·by_cases hy:q[k].From≤z∧z<q[k].To
     ·exact .inr ⟨hx,hy⟩
     ·refine .inl ⟨h1,h2,fun h=>?_⟩
      rcases h.2 with h | h
      ·exact hy h
      ·have:=a4 h;omega
    ·refine .inl ⟨h1,h2,fun h=>?_⟩
     rcases h.1 with h' | h'
     ·exact hx h'
     ·exact h3 ⟨h',h.2⟩
  ·rcases hsub s hs with hs | hs
   ·rcases h.ord s hs with h1 | h1
    ·exact .inl fun u hu=>h1 u (by rw [List.drop_eq_getElem_cons hi];exact List.mem_cons_of_mem _ hu)
    ·exact .inr h1
   ·refine .inl fun u hu=>?_
    have:=hp.later hi u hu
    omega
 ·intro hc
  refine ⟨hvs,fun z=>?_,fun s hs=>?_,by omega,heb⟩
  ·rw [hmem,h.mem,a8O hi,a8O hk]
   have a1:=xA z;have a2:=yB z;have a3:=p1 z;have a4:=q1 z
   constructor
   ·rintro (⟨h1,h2,h3⟩ | ⟨h1,h2⟩)
    ·exact ⟨h1,h2,fun h=>h3 ⟨h.1,.inr h.2⟩⟩
    ·exact ⟨a1 h1,a2 h2,fun h=>by have:=a4 h.2;omega⟩
   ·rintro ⟨h1,h2,h3⟩
    by_cases hy:q[k].From≤z∧z<q[k].To
    ·by_cases hx:p[i].From≤z∧z<p[i].To
     ·exact .inr ⟨hx,hy⟩
     ·refine .inl ⟨h1,h2,fun h=>?_⟩
      rcases h.1 with h | h
      ·exact hx h
      ·have:=a3 h;omega
    ·refine .inl ⟨h1,h2,fun h=>?_⟩
     rcases h.2 with h' | h'
     ·exact hy h'
     ·exact h3 ⟨h.1,h'⟩
  ·rcases hsub s hs with hs | hs
   ·rcases h.ord s hs with h1 | h1
    ·exact .inl h1
    ·exact .inr fun u hu=>h1 u (by rw [List.drop_eq_getElem_cons hk];exact List.mem_cons_of_mem _ hu)
   ·refine .inr fun u hu=>?_
    have:=hq.later hk u hu
    omega
structure MS (p q r:List Span):Prop where
 vs:VS r
 mem:∀ z,Mem r z↔Mem p z∧Mem q z
 len:r.length≤p.length+q.length
 eb:∀ lo hi,EB lo hi p→EB lo hi q→EB lo hi r
end Go.Proofs.YteanekphncdhiaaGreat.Sh
namespace Go.Proofs.YteanekphncdhiaaGreat.Sh
open Go
set_option linter.unusedVariables false
set_option linter.unusedSimpArgs false
theorem b4M:maxLen=9223372036854775807:=rfl
theorem key_ok {s:SourceID} (h:a5j s=true):MkKey.ok s:=by
 obtain ⟨h1,h2,h3,h4⟩:=a6A h
 refine ⟨?_,?_,?_,?_⟩ <;> rw [b4M] <;> assumption
theorem b3U {a b:Inventory} (ha:VI a) (hb:VI b) {f:Affected} (hf:f∈a0j a b):a5j f.Source=true:=by
 have h:=(a6Y.1 hf).1
 unfold a0Z at h
 rw [a5N (fun _ _=>a2n),List.mem_map] at h
 obtain ⟨c,hc,e⟩:=h
 rw [← e]
 rcases List.mem_append.1 hc with hc | hc
 ·exact ha.s c hc
 ·exact hb.s c hc
theorem b3n {a b:Inventory} (ha:VI a) (hb:VI b):(a0j a b).length≤256∧∀ f∈a0j a b,f.Spans.length≤128:=by
 refine ⟨?_,fun f hf=>?_⟩
 ·have h1:=b0N a b
  have h2:=ha.n
  have h3:=hb.n
  have:=a3v (f:=a6T a b) (m:=1) (l:=a0Z a b) fun _ _=>a9l _ _ _
  unfold a0j
  omega
 ·rw [(a6Y.1 hf).2.1]
  exact (b0a ha hb f.Source).2.len
end Go.Proofs.YteanekphncdhiaaGreat.Sh
namespace Go.Proofs.YteanekphncdhiaaGreat.Sh
open Go
set_option linter.unusedVariables false
set_option linter.unusedSimpArgs false
theorem b1r {a b:List Epoch} {x:Int} (h:a1d a b x):a1d b a x:=⟨by obtain ⟨e,h⟩:=h.1;exact ⟨e,h.symm⟩,fun ⟨e,f,h1,h2,h3⟩=>h.2 ⟨f,e,h2,h1,h3.symm⟩⟩
theorem SD.trans {a b c:Epoch} (h1:SD a b) (h2:SD b c):SD a c:=⟨h1.1.trans h2.1,h1.2.1.trans h2.2.1,h1.2.2.trans h2.2.2⟩
theorem b3u {a b c:List Epoch} (hb:VL b) {x:Int} (h1:¬ a1d a b x) (h2:¬ a1d b c x):¬ a1d a c x:=by
 rintro ⟨⟨e,he⟩,hn⟩
 have k1:∀ e,(EpA a x e∨EpA b x e)→∃ e f,EpA a x e∧EpA b x f∧SD e f:=fun e he=>Classical.byContradiction fun h=>h1 ⟨⟨e,he⟩,h⟩
 have k2:∀ e,(EpA b x e∨EpA c x e)→∃ e f,EpA b x e∧EpA c x f∧SD e f:=fun e he=>Classical.byContradiction fun h=>h2 ⟨⟨e,he⟩,h⟩
 rcases he with he | he
 ·obtain ⟨e1,f1,g1,g2,g3⟩:=k1 e (.inl he)
  obtain ⟨e2,f2,g4,g5,g6⟩:=k2 f1 (.inl g2)
  obtain rfl:=hb.at_one g2 g4
  exact hn ⟨e1,f2,g1,g5,g3.trans g6⟩
 ·obtain ⟨e2,f2,g4,g5,g6⟩:=k2 e (.inr he)
  obtain ⟨e1,f1,g1,g2,g3⟩:=k1 e2 (.inr g4)
  obtain rfl:=hb.at_one g2 g4
  exact hn ⟨e1,f2,g1,g5,g3.trans g6⟩
theorem b0n {v:Nat→List Epoch} {x:Int}:∀ {k:Nat},(∀ i,i≤k→VL (v i))→a1d (v 0) (v k) x→∃ j,j<k∧a1d (v j) (v (j+1)) x
 | 0,_,h=>absurd h (a9n _ x)
 | k+1,hv,h=>Classical.byContradiction fun hn=>by
  have h1:¬ a1d (v 0) (v k) x:=fun h'=>by
   obtain ⟨j,hj,h''⟩:=b0n (fun i hi=>hv i (by omega)) h'
   exact hn ⟨j,by omega,h''⟩
  have h2:¬ a1d (v k) (v (k+1)) x:=fun h'=>hn ⟨k,by omega,h'⟩
  exact b3u (hv k (by omega)) h1 h2 h
noncomputable def ver (h:History) (i:Nat):Inventory:=(verN h (i:Int)).1
theorem a6B {h:History} (hv:HV h) (hc:∀ c∈h.Changes,CF c) {i:Nat} (hi:i≤h.Changes.length):verN h (i:Int)=(ver h i,0)∧VI (ver h i)∧a2C h.Base (h.Changes.take i)=some (ver h i):=by
 obtain ⟨x,hx,vx,ex⟩:=hv.ver hc hi
 unfold ver
 rw [ex]
 exact ⟨rfl,vx,hx⟩
theorem b3e {h:History} (hv:HV h) (hc:∀ c∈h.Changes,CF c) {i:Nat} (hi:i<h.Changes.length):Done (ver h i) h.Changes[i] (ver h (i+1)):=by
 obtain ⟨_,v1,f1⟩:=a6B hv hc (i:=i) (by omega)
 obtain ⟨_,v2,f2⟩:=a6B hv hc (i:=i+1) (by omega)
 rw [C9 hi,a6g f1] at f2
 by_cases h0:(apN (ver h i) h.Changes[i]).2=0
 ·rw [if_pos h0] at f2
  have:=a5J v1.fi (hc _ (List.getElem_mem hi)) h0
  rw [Option.some.inj f2] at this
  exact this
 ·rw [if_neg h0] at f2;cases f2
theorem betw {h:History} (hf:HF h) (hv:HV h) {i j:Nat} (hi:i≤h.Changes.length) (hj:j≤h.Changes.length):P5 h (i:Int) (j:Int)=some (a0j (ver h i) (ver h j),0):=by
 obtain ⟨e1,v1,_⟩:=a6B hv hf.c hi
 obtain ⟨e2,v2,_⟩:=a6B hv hf.c hj
 unfold P5
 rw [(b3M hf _).1,(b3M hf _).1,e1,e2]
 simp only [Option.bind_some,bne_self_eq_false,Bool.false_eq_true,if_false]
 rw [(a9K v1.fi v2.fi).1,a6S ⟨v1,v2⟩]
 rfl
theorem b3T {inv:Inventory} {c:Change} {out:Inventory} (h:Done inv c out):(a0j inv out).length≤1∧∀ f∈a0j inv out,f.Source=c.Source:=by
 have ha:=a5Y h.vi h.out
 have hs:∀ f∈a0j inv out,f.Source=c.Source:=fun f hf=>by
  obtain ⟨z,hz⟩:=b0e (ha.vs f hf).1 (ha.vs f hf).2.1
  exact (h.near ((ha.at hf z).1 hz)).1
 refine ⟨?_,hs⟩
 have hp:=List.pairwise_iff_getElem.1 ha.asc
 rcases Nat.lt_or_ge 1 (a0j inv out).length with hl | hl
 ·have:=hp 0 1 (by omega) hl (by decide)
  rw [hs _ (List.getElem_mem _),hs _ (List.getElem_mem _),a3j] at this
  omega
 ·exact hl
structure SumI (h:History) (i:Nat) (m:Mk SourceID (List Span)):Prop where
 n:m.n≤i
 l:∀ s,(m.at_ s).length≤128 * i
 m:∀ s z j,j<i→a1d (epL s (ver h j).Channels) (epL s (ver h (j+1)).Channels) z→Mem (m.at_ s) z
theorem laws_l11 {h:History × Dice} (hv:HV h.1) (hf:HF h.1) {i:Nat} (hi:i<h.1.Changes.length) (h5:h.1.Changes.length≤5) {m:Mk SourceID (List Span)} (hm:SumI h.1 i m):∃ m',o5 (R7 h (m,(i:Int)) (a0j (ver h.1 i) (ver h.1 (i+1)),0)) (m,0)=some (.inl (m',((i+1:Nat):Int)))∧SumI h.1 (i+1) m':=by
 have hd:=b3e hv hf.c hi
 obtain ⟨hl1,hsrc⟩:=b3T hd
 have hle:=b3n hd.vi hd.out
 have hap:=a5Y hd.vi hd.out
 obtain ⟨r,er,m',hr,hI⟩:=Y5 (body:=R7 h (m,(i:Int)) (a0j (ver h.1 i) (ver h.1 (i+1)),0)) (fun (a:Mk SourceID (List Span)) j=>(a,j)) (a0j (ver h.1 i) (ver h.1 (i+1))).length
  (fun j a=>a.n≤i+j∧(∀ s,(a.at_ s).length≤128 * (i+j))∧(∀ s z,Mem (m.at_ s) z→Mem (a.at_ s) z)∧∀ s z,(∃ f∈(a0j (ver h.1 i) (ver h.1 (i+1))).take j,f.Source=s∧Mem f.Spans z)→Mem (a.at_ s) z) (fun r=>∃ m',r=.inl (m',((i+1:Nat):Int))∧SumI h.1 (i+1) m') (fun j hj a ⟨a1,a2,a3,a4⟩=>by
  have hfm:=List.getElem_mem hj
  have hko:=key_ok (b3U hd.vi hd.out hfm)
  have hs:=hsrc _ hfm
  have b1:=a2 (a0j (ver h.1 i) (ver h.1 (i+1)))[j].Source
  have b2:=hle.2 _ hfm
  obtain ⟨u,eu,hu⟩:=a9O (a:=a.at_ (a0j (ver h.1 i) (ver h.1 (i+1)))[j].Source) (b:=(a0j (ver h.1 i) (ver h.1 (i+1)))[j].Spans) (by omega)
  obtain ⟨a',p1,p2,p3,p4⟩:=Mk.put_of (m:=a) (v:=u) hko (by omega)
  have hul:=hu.len
  rw [List.length_append] at hul
  refine ⟨a',?_,by omega,fun s=>?_,fun s z hz=>?_,fun s z ⟨f,hft,hfs,hz⟩=>?_⟩
  ·unfold R7
   simp only
   rw [if_pos (decide_eq_true (by omega)),w9 _ _ hj,w9 _ _ hi]
   simp only [Option.bind_some,a7G]
   rw [decide_eq_true hs]
   simp only [Bool.not_true,Bool.false_eq_true,if_false]
   rw [Mk.get_of hko]
   simp only [Option.bind_some]
   rw [eu]
   simp only [Option.bind_some]
   rw [p1,M6 (by omega)]
   rfl
  ·by_cases e:s=(a0j (ver h.1 i) (ver h.1 (i+1)))[j].Source
   ·rw [e,p3];omega
   ·rw [p4 s e];have:=a2 s;omega
  ·by_cases e:s=(a0j (ver h.1 i) (ver h.1 (i+1)))[j].Source
   ·subst e;rw [p3,hu.mem,mem_append];exact .inl (a3 _ z hz)
   ·rw [p4 s e];exact a3 s z hz
  ·by_cases e:s=(a0j (ver h.1 i) (ver h.1 (i+1)))[j].Source
   ·subst e
    rw [p3,hu.mem,mem_append]
    rw [C9 hj] at hft
    rcases List.mem_append.1 hft with hft | hft
    ·exact .inl (a4 _ z ⟨f,hft,hfs,hz⟩)
    ·rcases List.mem_singleton.1 hft with rfl;exact .inr hz
   ·rw [p4 s e]
    rw [C9 hj] at hft
    rcases List.mem_append.1 hft with hft | hft
    ·exact a4 s z ⟨f,hft,hfs,hz⟩
    ·rcases List.mem_singleton.1 hft with rfl;exact absurd hfs.symm e) (fun a ⟨a1,a2,a3,a4⟩=>by
  unfold R7
  simp only
  rw [if_neg (by simp),M6 (by omega)]
  refine ⟨_,rfl,a,rfl,by omega,fun s=>by have:=a2 s;omega,fun s z j hj hz=>?_⟩
  by_cases e:j<i
  ·exact a3 s z (hm.m s z j e hz)
  ·have:j=i:=by omega
   subst this
   rw [List.take_length] at a4
   exact a4 s z ((hap.mem s z).2 hz)) m ⟨by have:=hm.n;omega,fun s=>by have:=hm.l s;omega,fun s z h=>h,fun s z ⟨f,hft,_⟩=>by simp at hft⟩
 exact ⟨m',by rw [er,hr],hI⟩
theorem laws_l13 {h:History × Dice} (hv:HV h.1) (hf:HF h.1) (h5:h.1.Changes.length≤5) {m:Mk SourceID (List Span)} {k:Int} (hm:SumI h.1 h.1.Changes.length m):o5 (R8 (a0j (ver h.1 0) (ver h.1 h.1.Changes.length),0) (m,k)) 0=some true:=by
 obtain ⟨_,v0,_⟩:=a6B hv hf.c (i:=0) (Nat.zero_le _)
 obtain ⟨_,vn,_⟩:=a6B hv hf.c (Nat.le_refl _)
 have hle:=b3n v0 vn
 have hap:=a5Y v0 vn
 obtain ⟨r,er,rfl⟩:=Y5 (body:=R8 (a0j (ver h.1 0) (ver h.1 h.1.Changes.length),0) (m,k)) (fun (_:Unit) i=>i) (a0j (ver h.1 0) (ver h.1 h.1.Changes.length)).length (fun _ _=>True) (fun r=>r=true) (fun i hi a _=>by
  refine ⟨(),?_,trivial⟩
  have hfm:=List.getElem_mem hi
  have hko:=key_ok (b3U v0 vn hfm)
  have b1:=hm.l (a0j (ver h.1 0) (ver h.1 h.1.Changes.length))[i].Source
  have b2:=hle.2 _ hfm
  obtain ⟨w,ew,hw⟩:=a9b (a:=(a0j (ver h.1 0) (ver h.1 h.1.Changes.length))[i].Spans) (b:=m.at_ (a0j (ver h.1 0) (ver h.1 h.1.Changes.length))[i].Source) (Nat.le_trans (Nat.mul_le_mul b2 (show _≤641 by omega)) (by decide)) (by omega) (by omega)
  have hwn:w=[]:=by
   by_cases hwn:w=[]
   ·exact hwn
   ·obtain ⟨z,hz⟩:=b0e hw.vs hwn
    obtain ⟨g1,g2⟩:=(hw.mem z).1 hz
    obtain ⟨j,hj,hdj⟩:=b0n (v:=fun q=>epL (a0j (ver h.1 0) (ver h.1 h.1.Changes.length))[i].Source (ver h.1 q).Channels) (k:=h.1.Changes.length) (fun q hq=>(a6B hv hf.c hq).2.1.toSI.vl _) ((hap.at hfm z).1 g1)
    exact absurd (hm.m _ z j hj hdj) g2
  unfold R8
  simp only
  rw [if_pos (decide_eq_true (by omega)),w9 _ _ hi]
  simp only [Option.bind_some]
  rw [Mk.get_of hko]
  simp only [Option.bind_some]
  rw [ew,hwn]
  simp only [Option.bind_some]
  rw [if_neg (by simp),M6 (by omega)]) (fun a _=>by
  unfold R8
  simp only
  rw [if_neg (by simp),sane20]
  exact ⟨_,rfl,rfl⟩) () trivial
 exact er
theorem a5M (t:List Int) (_:(t.length:Int)≤140737488355328∧∀ x∈t,-9223372036854775808≤x∧x≤9223372036854775807):a3a t=some true:=by
 unfold a3a
 rw [b3A]
 simp only [Option.bind_some]
 by_cases hl:t.length≤500
 case neg=>rw [decide_eq_false hl,sane20];rfl
 rw [decide_eq_true hl]
 simp only [Bool.not_true,Bool.false_eq_true,if_false,a9r,Option.bind_some]
 obtain ⟨h,d1,e1,hh,hd1⟩:=dhistory (DOK.roll hl) (n:=5) (by decide)
 rw [show a0n ⟨t,0⟩ 5=some (h,d1) from e1]
 simp only [Option.bind_some]
 have hcf:∀ c∈h.Changes,CF c:=fun c hc=>(hh.c c hc).cf
 have hlen:=hh.n
 have hf:HF h:=⟨hh.v.b.fi,by omega,hcf⟩
 obtain ⟨_,v0,_⟩:=a6B hh.v hcf (i:=0) (Nat.zero_le _)
 obtain ⟨_,vn,_⟩:=a6B hh.v hcf (Nat.le_refl _)
 have b1:P5 h 0 (h.Changes.length:Int)=some (a0j (ver h 0) (ver h h.Changes.length),0):=betw hf hh.v (i:=0) (Nat.zero_le _) (Nat.le_refl _)
 have b2:P5 h (h.Changes.length:Int) 0=some (a0j (ver h h.Changes.length) (ver h 0),0):=betw hf hh.v (j:=0) (Nat.le_refl _) (Nat.zero_le _)
 have hsym:a0j (ver h h.Changes.length) (ver h 0)=a0j (ver h 0) (ver h h.Changes.length):=(a5Y vn v0).uniq (a5Y v0 vn) fun s x=>⟨b1r,b1r⟩
 have hnil:a0j (ver h h.Changes.length) (ver h h.Changes.length)=[]:=by rw [← a6S ⟨vn,vn⟩,aff_self vn]
 rw [b1,b2,betw hf hh.v (Nat.le_refl _) (Nat.le_refl _),hsym,hnil]
 simp only [Option.bind_some,bne_self_eq_false,Bool.or_self,List.length_nil,Bool.false_eq_true,if_false]
 have hle:=b3n v0 vn
 have hsm:a1n (a0j (ver h 0) (ver h h.Changes.length)) (a0j (ver h 0) (ver h h.Changes.length))=some true:=by
  unfold a1n
  rw [if_neg (by simp)]
  obtain ⟨r,er,rfl⟩:=Y5 (body:=a0g (a0j (ver h 0) (ver h h.Changes.length)) (a0j (ver h 0) (ver h h.Changes.length))) (fun (_:Unit) i=>i) (a0j (ver h 0) (ver h h.Changes.length)).length (fun _ _=>True) (fun r=>r=true) (fun i hi a _=>by
   refine ⟨(),?_,trivial⟩
   unfold a0g
   rw [if_pos (decide_eq_true (by omega)),w9 _ _ hi]
   simp only [Option.bind_some,a7G,decide_eq_true (rfl:(a0j (ver h 0) (ver h h.Changes.length))[i].Source=_),Bool.not_true,Bool.false_eq_true,if_false]
   rw [b1D _ (by have:=hle.2 _ (List.getElem_mem hi);omega),M6 (by omega)]
   rfl) (fun a _=>by
   unfold a0g
   rw [if_neg (by simp)]
   exact ⟨_,rfl,rfl⟩) () trivial
  exact er
 have hz:((((0:Nat):Int)) != 0)=false:=by decide
 simp only [hz,Bool.false_eq_true,if_false]
 rw [hsm]
 simp only [Option.bind_some,Bool.not_true,Bool.false_eq_true,if_false]
 obtain ⟨r,er,rfl⟩:=Y5 (body:=a0f (h,d1) (h.Changes.length:Int) (a0j (ver h 0) (ver h h.Changes.length),0)) (fun (a:Mk SourceID (List Span)) i=>(a,i)) h.Changes.length (fun i a=>SumI h i a) (fun r=>r=true) (fun i hi a ha=>by
  obtain ⟨m',em,hm⟩:=laws_l11 (h:=(h,d1)) hh.v hf hi hlen ha
  refine ⟨m',?_,hm⟩
  have ho:=(b3T (b3e hh.v hcf hi)).1
  unfold a0f
  simp only
  rw [if_pos (decide_eq_true (by omega)),M6 (by omega),betw hf hh.v (by omega) (by omega)]
  simp only [Option.bind_some]
  rw [if_neg (by simp;omega)]
  exact em) (fun a ha=>by
  unfold a0f
  simp only
  rw [if_neg (by simp),laws_l13 (h:=(h,d1)) hh.v hf hlen ha]
  exact ⟨_,rfl,rfl⟩) ⟨0,fun _=>[]⟩ ⟨Nat.le_refl _,fun s=>by simp,fun s z j hj=>absurd hj (by omega)⟩
 exact er
end Go.Proofs.YteanekphncdhiaaGreat.Sh

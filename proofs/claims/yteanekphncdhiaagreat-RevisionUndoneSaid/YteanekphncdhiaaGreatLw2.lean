/- The plain law: what the plain programs compute, put together in one text. -/
import Derived.Test.YteanekphncdhiaaGreatLw1
namespace Go.Proofs.YteanekphncdhiaaGreat.Sh
open Go
set_option linter.unusedVariables false
set_option linter.unusedSimpArgs false
theorem CD.cf {c:Change} (h:CD c):CF c:=⟨a2T h.s,h.e.ef⟩
noncomputable def apN (inv:Inventory) (c:Change):Inventory × Int:=(H7 inv c).getD (⟨[]⟩,1)
theorem a3V {inv:Inventory} {c:Change} (hf:FI inv) (hc:CF c):H7 inv c=some (apN inv c)∧Y1 inv c=some (apN inv c)∧ApplyTo inv c (apN inv c):=by
 obtain ⟨r,h1,h2,h3⟩:=b3f hf hc
 have:apN inv c=r:=by unfold apN;rw [h1];rfl
 rw [this];exact ⟨h1,h2,h3⟩
structure Done (inv:Inventory) (c:Change) (out:Inventory):Prop where
 vi:VI inv
 ck:CK c
 fnd:Found inv c
 ncl:¬ a6K inv c
 res:Res20 inv c out
 novr:¬ Over out c
theorem Done.out {inv:Inventory} {c:Change} {out:Inventory} (h:Done inv c out):VI out:=h.res.vi h.vi h.novr
theorem ApplyTo.done {inv:Inventory} {c:Change} {r:Inventory × Int} (h:ApplyTo inv c r) (h0:r.2=0):Done inv c r.1:=by
 cases h with
 | bad=>cases h0
 | none=>cases h0
 | clash=>cases h0
 | over=>cases h0
 | ok h h1 h2 _ h3 h4=>exact ⟨h.1,h.2,h1,h2,h3,h4⟩
theorem Done.ap {inv:Inventory} {c:Change} {out:Inventory} (h:Done inv c out) (hc:CF c):apN inv c=(out,0):=(a3V h.vi.fi hc).2.2.uniq (.ok ⟨h.vi,h.ck⟩ h.fnd h.ncl _ h.res h.novr)
theorem a4N {inv:Inventory} {c:Change} (hf:FI inv) (hc:CF c) (h0:(apN inv c).2=0):Done inv c (apN inv c).1:=(a3V hf hc).2.2.done h0
theorem apN_nb {inv:Inventory} {c:Change} (hf:FI inv) (hc:CF c) (h0:(apN inv c).2=0) {n:Nat} (hn:NB inv n):NB (apN inv c).1 (n+1):=(a4N hf hc h0).res.nb n hn
noncomputable def a2D (inv:Inventory):List Change→Option Inventory
 | []=>some inv
 | c :: l=>if (apN inv c).2=0 then a2D (apN inv c).1 l else none
theorem a6e (inv:Inventory) (a b:List Change):a2D inv (a ++ b)=(a2D inv a).bind fun x=>a2D x b:=by
 induction a generalizing inv with
 | nil=>rfl
 | cons c a ih=>
  simp only [List.cons_append,a2D]
  split
  ·exact ih _
  ·rfl
theorem a6f {inv x:Inventory} {a:List Change} {c:Change} (h:a2D inv a=some x):a2D inv (a ++ [c])=if (apN x c).2=0 then some (apN x c).1 else none:=by
 rw [a6e,h];rfl
theorem foldN_vi {l:List Change}:∀ {inv x:Inventory},VI inv→(∀ c∈l,CF c)→a2D inv l=some x→VI x:=by
 induction l with
 | nil=>intro inv x hv _ h;cases h;exact hv
 | cons c l ih=>
  intro inv x hv hc h
  unfold a2D at h
  split at h
  ·rename_i h0
   exact ih (a4N hv.fi (hc c List.mem_cons_self) h0).out (fun d hd=>hc d (List.mem_cons_of_mem _ hd)) h
  ·cases h
noncomputable def a5L (inv:Inventory) (l:List Change):Inventory × Bool:=match a2D inv l with
 | some x=>(x,true)
 | none=>(⟨[]⟩,false)
theorem b1g {l:List Change} {base:Inventory} {body:List Channel × Int→Option ((List Channel × Int) ⊕ (Inventory × Bool))} (hl:l.length≤1000000) (hv:VI base) (hc:∀ c∈l,CF c)
  (h1:∀ (x:Inventory) i (hi:i<l.length),VI x→body (x.Channels,(i:Int))=if (apN x l[i]).2=0 then some (.inl ((apN x l[i]).1.Channels,((i+1:Nat):Int))) else some (.inr (⟨[]⟩,false))) (h2:∀ x:Inventory,body (x.Channels,(l.length:Int))=some (.inr (x,true))) :
  o5 body (base.Channels,0)=some (a5L base l):=by
 obtain ⟨r,e,rfl⟩:=P6 (b1:=body) (fun m s=>∃ (i:Nat) (x:Inventory),s=(x.Channels,(i:Int))∧m+i=l.length∧VI x∧a2D base (l.take i)=some x) (fun r=>r=a5L base l) (fun m s ⟨i,x,es,hm,hx,hf⟩=>by
  subst es
  by_cases hil:i<l.length
  ·rw [h1 x i hil hx]
   have hci:=hc _ (List.getElem_mem hil)
   by_cases h0:(apN x l[i]).2=0
   ·rw [if_pos h0]
    refine .inl ⟨_,m - 1,rfl,⟨i+1,(apN x l[i]).1,rfl,by omega,(a4N hx.fi hci h0).out,?_⟩,by omega⟩
    rw [D5 hil,a6f hf,if_pos h0]
   ·rw [if_neg h0]
    refine .inr ⟨_,rfl,?_⟩
    have:a2D base l=none:=by
     rw [← List.take_append_drop (i+1) l,a6e,D5 hil,a6f hf,if_neg h0];rfl
    unfold a5L;rw [this]
  ·have hi:i=l.length:=by omega
   subst hi
   rw [h2]
   refine .inr ⟨_,rfl,?_⟩
   rw [List.take_length] at hf
   unfold a5L;rw [hf]) l.length (base.Channels,0) ⟨0,base,rfl,by omega,hv,rfl⟩
 exact e
theorem b3N {base:Inventory} {l:List Change} (hl:l.length≤1000000) (hv:VI base) (hc:∀ c∈l,CF c):a2G base l=some (a5L base l):=by
 unfold a2G
 rw [b3J hv.ci]
 simp only [Option.bind_some]
 refine b1g hl hv hc (fun x i hi hx=>?_) (fun x=>?_)
 ·unfold a4a
  simp only
  rw [if_pos (decide_eq_true (by omega)),q8 _ _ hi]
  simp only [Option.bind_some]
  rw [(a3V (inv:=x) hx.fi (hc _ (List.getElem_mem hi))).1,N8 (by omega)]
  simp only [Option.bind_some]
  by_cases h0:(apN x l[i]).2=0
  ·rw [if_neg (by rw [a1X h0];simp),if_pos h0]
  ·rw [if_pos (a3c h0),if_neg h0]
 ·unfold a4a
  simp only
  rw [if_neg (by simp)];rfl
theorem a8s {h:History} {n:Nat} (hn:n≤h.Changes.length) (hl:n≤1000000) (hv:VI h.Base) (hc:∀ c∈h.Changes,CF c):a1E h (n:Int)=some (a5L h.Base (h.Changes.take n)):=by
 unfold a1E
 rw [a8J hv.ci]
 simp only [Option.bind_some]
 have hlen:(h.Changes.take n).length=n:=by rw [List.length_take];omega
 refine b1g (l:=h.Changes.take n) (by omega) hv (fun c hc'=>hc c (List.mem_of_mem_take hc')) (fun x i hi hx=>?_) (fun x=>?_)
 ·unfold a3Y
  simp only
  rw [if_pos (decide_eq_true (by omega)),q8 _ _ (show i<h.Changes.length by omega)]
  simp only [Option.bind_some,List.getElem_take]
  rw [(a3V (inv:=x) hx.fi (hc _ (List.getElem_mem (show i<h.Changes.length by omega)))).2.1,N8 (by omega)]
  simp only [Option.bind_some]
  by_cases h0:(apN x (h.Changes[i]'(by omega))).2=0
  ·rw [if_neg (by rw [a1X h0];simp),if_pos h0]
  ·rw [if_pos (a3c h0),if_neg h0]
 ·unfold a3Y
  simp only
  rw [if_neg (by simp [hlen])];rfl
structure HV (h:History):Prop where
 b:VI h.Base
 n:h.Changes.length≤256
 f:(a2D h.Base h.Changes).isSome=true
structure HF (h:History):Prop where
 b:FI h.Base
 n:h.Changes.length≤1000000
 c:∀ c∈h.Changes,CF c
theorem b4v (inv:Inventory) (l:List Change):(a5L inv l).2=(a2D inv l).isSome:=by
 unfold a5L;cases a2D inv l <;> rfl
theorem a9g {h:History} (hf:HF h):∃ b,a2e h=some b∧a4x h=some b∧(b=true↔HV h):=by
 obtain ⟨v,v1,v2⟩:=a7n hf.b
 obtain ⟨w,w1,w2⟩:=a5h hf.b
 have:w=v:=Bool.eq_iff_iff.2 (w2.trans v2.symm)
 subst this
 unfold a2e a4x
 rw [v1,w1]
 simp only [Option.bind_some]
 cases w with
 | false=>exact ⟨false,rfl,rfl,fun h=>(by cases h),fun h=>v2.2 h.b⟩
 | true=>
  have hv:=v2.1 rfl
  by_cases h256:(256:Int)<(h.Changes.length:Int)
  ·rw [decide_eq_true h256]
   exact ⟨false,rfl,rfl,fun h=>(by cases h),fun h=>by have:=h.n;omega⟩
  ·rw [decide_eq_false h256,b3N hf.n hv hf.c,a8s (Nat.le_refl _) hf.n hv hf.c,List.take_length]
   refine ⟨(a5L h.Base h.Changes).2,rfl,rfl,?_⟩
   rw [b4v]
   exact ⟨fun h=>⟨hv,by omega,h⟩,fun h=>h.f⟩
open Classical in
noncomputable def verN (h:History) (n:Int):Inventory × Int:=if ¬ HV h then (⟨[]⟩,1) else if n<0∨(h.Changes.length:Int)<n then (⟨[]⟩,2) else ((a5L h.Base (h.Changes.take n.toNat)).1,0)
theorem b3y {h:History} (hf:HF h) (n:Int):a0Q h n=some (verN h n)∧a2E h n=some (verN h n):=by
 obtain ⟨b,b1,b2,b3⟩:=a9g hf
 unfold a0Q a2E verN
 rw [b1,b2]
 simp only [Option.bind_some,a4v]
 cases b with
 | false=>
  have hn:¬ HV h:=fun h=>by have:=b3.2 h;cases this
  rw [if_pos hn];exact ⟨rfl,rfl⟩
 | true=>
  have hh:=b3.1 rfl
  rw [if_neg (show ¬ ¬ HV h from fun h=>h hh)]
  simp only [Bool.not_true,Bool.false_eq_true,if_false]
  have hlen:=hh.n
  by_cases hr:n<0∨(h.Changes.length:Int)<n
  ·have h1:(decide (n<0) || decide ((h.Changes.length:Int)<n))=true:=by rw [Bool.or_eq_true,decide_eq_true_eq,decide_eq_true_eq];exact hr
   have h2:inB n 0 (h.Changes.length:Int)=false:=by
    cases hh:inB n 0 (h.Changes.length:Int) with
    | false=>rfl
    | true=>have:=a0a.1 hh;omega
   rw [h1,h2,if_pos hr];exact ⟨rfl,rfl⟩
  ·have h1:(decide (n<0) || decide ((h.Changes.length:Int)<n))=false:=by rw [Bool.or_eq_false_iff,decide_eq_false_iff_not,decide_eq_false_iff_not];omega
   have h2:inB n 0 (h.Changes.length:Int)=true:=a0a.2 (by omega)
   rw [h1,h2,if_neg hr]
   simp only [Bool.not_true,Bool.false_eq_true,if_false]
   obtain ⟨k,rfl⟩:∃ k:Nat,n=(k:Int):=⟨n.toNat,by omega⟩
   have hs:D7 h.Changes 0 (k:Int)=some (h.Changes.take k):=by
    have:=a0u h.Changes 0 k (Nat.zero_le _) (by omega)
    simpa using this
   rw [hs]
   simp only [Option.bind_some,Int.toNat_natCast]
   rw [b3N (by rw [List.length_take];omega) hh.b (fun c hc=>hf.c c (List.mem_of_mem_take hc)),a8s (by omega) (by omega) hh.b hf.c]
   exact ⟨rfl,rfl⟩
theorem HV.pre {h:History} (hv:HV h) {k:Nat} (hk:k≤h.Changes.length):∃ x,a2D h.Base (h.Changes.take k)=some x:=by
 have:=hv.f
 rw [← List.take_append_drop k h.Changes,a6e] at this
 cases hx:a2D h.Base (h.Changes.take k) with
 | none=>rw [hx] at this;cases this
 | some x=>exact ⟨x,rfl⟩
theorem HV.ver {h:History} (hv:HV h) (hc:∀ c∈h.Changes,CF c) {k:Nat} (hk:k≤h.Changes.length):∃ x,a2D h.Base (h.Changes.take k)=some x∧VI x∧verN h (k:Int)=(x,0):=by
 obtain ⟨x,hx⟩:=hv.pre hk
 refine ⟨x,hx,foldN_vi hv.b (fun c hc'=>hc c (List.mem_of_mem_take hc')) hx,?_⟩
 unfold verN
 rw [if_neg (show ¬ ¬ HV h from fun h=>h hv),if_neg (by omega),Int.toNat_natCast]
 unfold a5L
 rw [hx]
theorem b3z:VI ⟨[]⟩:=⟨⟨(fun c hc=>by cases hc),(fun c hc=>by cases hc),List.Pairwise.nil⟩,by simp,(fun c hc=>by cases hc)⟩
theorem nb_nil:NB ⟨[]⟩ 0:=⟨Nat.le_refl _,fun c hc=>by cases hc⟩
theorem b3h {d:Dice} (hd:DOK d) {n:Nat} (hn:n≤100):∃ inv d',X6 d (n:Int)=some (inv,d')∧VI inv∧NB inv n∧DOK d':=by
 unfold X6
 rw [N8 (by omega)]
 obtain ⟨x,d1,e1,x0,x1,hd1⟩:=I7 hd (n:=((n+1:Nat):Int)) (by omega) (by omega)
 rw [e1]
 simp only [Option.bind_some]
 obtain ⟨m,rfl⟩:∃ m:Nat,x=(m:Int):=⟨x.toNat,by omega⟩
 obtain ⟨r,e,inv,d',rfl,h1,h2,h3⟩:=P6 (b1:=a1d) (fun k s=>∃ (d:Dice) (inv:Inventory),s=(d.L,d.At,inv.Channels,(k:Int))∧DOK d∧VI inv∧NB inv (m - k)∧k≤m) (fun r=>∃ (inv:Inventory) (d:Dice),r=(d.L,d.At,inv.Channels)∧VI inv∧NB inv m∧DOK d) (fun k s ⟨d,inv,es,hd,hv,hnb,hk⟩=>by
  subst es
  unfold a1d
  simp only
  by_cases hk0:0<k
  ·rw [if_pos (decide_eq_true (by omega))]
   obtain ⟨c,d2,e2,hc,hd2⟩:=b3L (d:=d) hd hv
   rw [show U2 ⟨d.L,d.At⟩ ⟨inv.Channels⟩=some (c,d2) from e2]
   simp only [Option.bind_some]
   rw [show Y1 ⟨inv.Channels⟩ c=some (apN inv c) from (a3V hv.fi hc.cf).2.1]
   simp only [Option.bind_some]
   have hw:w64 ((k:Int) - 1)=((k - 1:Nat):Int):=by rw [F6 (by omega) (by omega)];omega
   unfold X9
   simp only [Option.bind_some,hw]
   by_cases h0:(apN inv c).2=0
   ·rw [if_pos (by simpa using h0)]
    have hnb2:=apN_nb hv.fi hc.cf h0 hnb
    rw [show m - k+1=m - (k - 1) by omega] at hnb2
    exact .inl ⟨_,k - 1,rfl,⟨d2,(apN inv c).1,rfl,hd2,(a4N hv.fi hc.cf h0).out,hnb2,by omega⟩,by omega⟩
   ·rw [if_neg (by simpa using h0)]
    refine .inl ⟨_,k - 1,rfl,⟨d2,inv,rfl,hd2,hv,⟨by have:=hnb.1;omega,fun c hc=>by have:=hnb.2 c hc;omega⟩,by omega⟩,by omega⟩
  ·rw [if_neg (by simp;omega)]
   have hk0:k=0:=by omega
   subst hk0
   exact .inr ⟨_,rfl,inv,d,rfl,hv,hnb,hd⟩) m (d1.L,d1.At,[],(m:Int)) ⟨d1,⟨[]⟩,rfl,hd1,b3z,⟨by simp,fun c hc=>by cases hc⟩,Nat.le_refl _⟩
 rw [e]
 exact ⟨inv,d',rfl,h1,⟨by have:=h2.1;omega,fun c hc=>by have:=h2.2 c hc;omega⟩,h3⟩
theorem b4m {h:History} {c:Change} (hh:HV h) (hc:∀ d∈h.Changes,CD d) (hcd:CF c) (hn:h.Changes.length<256):∃ x,a2D h.Base h.Changes=some x∧VI x ∧
  (((apN x c).2=0∧a1h h c=some (⟨h.Base,h.Changes ++ [c]⟩,0))∨((apN x c).2≠0∧a1h h c=some (⟨⟨[]⟩,[]⟩,(apN x c).2))):=by
 have hf:HF h:=⟨hh.b.fi,by omega,fun d hd=>(hc d hd).cf⟩
 obtain ⟨x,hx,hv,_⟩:=hh.ver hf.c (Nat.le_refl _)
 rw [List.take_length] at hx
 refine ⟨x,hx,hv,?_⟩
 obtain ⟨b,_,b2,b3⟩:=a9g hf
 have:=b3.2 hh
 subst this
 unfold a1h
 rw [b2]
 simp only [Option.bind_some,Bool.not_true,Bool.false_eq_true,if_false]
 rw [if_neg (by simp;omega),a8s (Nat.le_refl _) (by omega) hh.b hf.c,List.take_length]
 have hfr:a5L h.Base h.Changes=(x,true):=by unfold a5L;rw [hx]
 rw [hfr]
 simp only [Option.bind_some]
 rw [(a3V hv.fi hcd).2.1]
 simp only [Option.bind_some]
 by_cases h0:(apN x c).2=0
 ·refine .inl ⟨h0,?_⟩
  have hce:CE c.Epoch:=by
   have hck:=(a4N hv.fi hcd h0).ck
   by_cases k1:c.Kind=1
   ·rcases hck.2 with h | h | h
    ·omega
    ·rw [h.2];exact b3V
    ·omega
   ·exact (hck.ve k1).ce
  rw [if_neg (by rw [a1X h0];simp),a4T hce,a8J hh.b.ci]
  simp only [Option.bind_some]
  rw [capp _ _ (by omega) (by decide)]
  simp only [Option.bind_some]
  rw [D9 _ _ _ (by simp;omega) (by decide)]
  rfl
 ·exact .inr ⟨h0,by rw [if_pos (a3c h0)]⟩
theorem HV.snoc {h:History} {c:Change} {x:Inventory} (hh:HV h) (hx:a2D h.Base h.Changes=some x) (h0:(apN x c).2=0) (hn:h.Changes.length<256):HV ⟨h.Base,h.Changes ++ [c]⟩:=⟨hh.b,by show (h.Changes ++ [c]).length≤256;simp;omega,by
 show (a2D h.Base (h.Changes ++ [c])).isSome=true
 rw [a6f hx,if_pos h0];rfl⟩
structure HD (h:History) (n:Nat):Prop where
 v:HV h
 c:∀ c∈h.Changes,CD c
 n:h.Changes.length≤n
theorem dhistory {d:Dice} (hd:DOK d) {n:Nat} (hn:n≤100):∃ h d',a0g d (n:Int)=some (h,d')∧HD h n∧DOK d':=by
 unfold a0g
 obtain ⟨base,d0,e0,hvb,_,hd0⟩:=b3h hd (n:=4) (by decide)
 rw [show X6 d 4=some (base,d0) from e0]
 simp only [Option.bind_some]
 rw [N8 (by omega)]
 obtain ⟨x,d1,e1,x0,x1,hd1⟩:=I7 hd0 (n:=((n+1:Nat):Int)) (by omega) (by omega)
 rw [e1]
 simp only [Option.bind_some]
 obtain ⟨m,rfl⟩:∃ m:Nat,x=(m:Int):=⟨x.toNat,by omega⟩
 obtain ⟨r,e,h,d',rfl,h1,h2⟩:=P6 (b1:=a1Z) (fun k s=>∃ (d:Dice) (h:History),s=(d.L,d.At,h.Base.Channels,h.Changes,(k:Int))∧DOK d∧HD h (m - k)∧k≤m) (fun r=>∃ (h:History) (d:Dice),r=(d.L,d.At,h.Base.Channels,h.Changes)∧HD h m∧DOK d) (fun k s ⟨d,h,es,hd,hh,hk⟩=>by
  subst es
  unfold a1Z
  simp only
  by_cases hk0:0<k
  ·rw [if_pos (decide_eq_true (by omega))]
   have hcf:∀ c∈h.Changes,CF c:=fun c hc=>(hh.c c hc).cf
   have hlen:=hh.n
   have hf:HF h:=⟨hh.v.b.fi,by omega,hcf⟩
   obtain ⟨y,hy,hvy,hver⟩:=hh.v.ver hcf (Nat.le_refl _)
   rw [show a2E ⟨⟨h.Base.Channels⟩,h.Changes⟩ (h.Changes.length:Int)=some (y,0) from (b3y hf _).2.trans (by rw [hver])]
   simp only [Option.bind_some]
   obtain ⟨c,d2,e2,hc,hd2⟩:=b3L (d:=d) hd hvy
   rw [show U2 ⟨d.L,d.At⟩ y=some (c,d2) from e2]
   simp only [Option.bind_some]
   obtain ⟨z,hz,hvz,hap⟩:=b4m hh.v hh.c hc.cf (by omega)
   have hw:w64 ((k:Int) - 1)=((k - 1:Nat):Int):=by rw [F6 (by omega) (by omega)];omega
   unfold a0h
   simp only [Option.bind_some,hw]
   rcases hap with ⟨h0,hap⟩ | ⟨h0,hap⟩
   ·rw [show a1h ⟨⟨h.Base.Channels⟩,h.Changes⟩ c=some (⟨h.Base,h.Changes ++ [c]⟩,0) from hap]
    refine .inl ⟨_,k - 1,rfl,⟨d2,⟨h.Base,h.Changes ++ [c]⟩,rfl,hd2,⟨hh.v.snoc hz h0 (by omega),fun e he=>?_,?_⟩,by omega⟩,by omega⟩
    ·rcases List.mem_append.1 he with he | he
     ·exact hh.c e he
     ·rcases List.mem_singleton.1 he with rfl;exact hc
    ·show (h.Changes ++ [c]).length≤_
     simp;omega
   ·rw [show a1h ⟨⟨h.Base.Channels⟩,h.Changes⟩ c=some (⟨⟨[]⟩,[]⟩,(apN z c).2) from hap]
    simp only [Option.bind_some]
    rw [if_neg (by simpa using h0)]
    exact .inl ⟨_,k - 1,rfl,⟨d2,h,rfl,hd2,⟨hh.v,hh.c,by omega⟩,by omega⟩,by omega⟩
  ·rw [if_neg (by simp;omega)]
   have hk0:k=0:=by omega
   subst hk0
   exact .inr ⟨_,rfl,h,d,rfl,hh,hd⟩) m (d1.L,d1.At,base.Channels,[],(m:Int)) ⟨d1,⟨base,[]⟩,rfl,hd1,⟨⟨hvb,by simp,rfl⟩,fun c hc=>(by cases hc),by simp⟩,Nat.le_refl _⟩
 rw [e]
 exact ⟨h,d',rfl,⟨h1.v,h1.c,by have:=h1.n;omega⟩,h2⟩
end Go.Proofs.YteanekphncdhiaaGreat.Sh
namespace Go.Proofs.YteanekphncdhiaaGreat.Sh
open Go
set_option linter.unusedVariables false
set_option linter.unusedSimpArgs false
theorem b0s {inv:Inventory} (h:CI inv):a5c inv inv=some true:=by
 unfold a5c
 rw [if_neg (by simp)]
 obtain ⟨r,er,rfl⟩:=a0K (body:=a4n inv inv) (fun (_:Unit) i=>i) inv.Channels.length (fun _ _=>True) (fun r=>r=true) (fun i hi a _=>by
  refine ⟨(),?_,trivial⟩
  have hc:=h.2 _ (List.getElem_mem hi)
  have hn:=h.1
  unfold a4n
  rw [if_pos (decide_eq_true (by omega)),q8 _ _ hi]
  simp only [Option.bind_some,a8U,decide_eq_true (rfl:inv.Channels[i].Source=inv.Channels[i].Source),Bool.not_true,Bool.false_or,bne_self_eq_false,Bool.false_eq_true,if_false]
  obtain ⟨r,er,rfl⟩:=a0K (body:=a3z (i:Int) inv.Channels[i] inv.Channels[i]) (fun (_:Unit) i=>i) inv.Channels[i].Epochs.length (fun _ _=>True) (fun r=>r=.inl ((i+1:Nat):Int)) (fun k hk a _=>by
   refine ⟨(),?_,trivial⟩
   have he:=hc.2 _ (List.getElem_mem hk)
   unfold a3z
   obtain ⟨c,e1,h1⟩:=a5D (a:=inv.Channels[i].Epochs[k]) (b:=inv.Channels[i].Epochs[k]) he.ef
   rw [if_pos (decide_eq_true (by omega)),q8 _ _ hk]
   simp only [Option.bind_some]
   rw [e1,h1.2 rfl,N8 (by omega)]
   rfl) (fun a _=>by
   unfold a3z
   rw [if_neg (by simp),N8 (by omega)]
   exact ⟨_,rfl,rfl⟩) () trivial
  exact er) (fun a _=>by
  unfold a4n
  rw [if_neg (by simp)]
  exact ⟨_,rfl,rfl⟩) () trivial
 exact er
theorem VI.vin {inv:Inventory} (h:VI inv) {s:SourceID} {e:Epoch} (he:InI inv s e):VE e:=by
 obtain ⟨c,hc,_,hm⟩:=he
 exact (h.e c hc).v e hm
theorem VI.one {inv:Inventory} (h:VI inv) {s:SourceID} {e f:Epoch} (he:InI inv s e) (hf:InI inv s f) (ho:a4u e f):e=f:=
 (h.toSI.vl s).one ((h.toSI.ep s e).2 he) ((h.toSI.ep s f).2 hf) ho
theorem VE.same_from {e f:Epoch} (he:VE e) (hf:VE f) (h:e.From=f.From):a4u e f:=⟨by have:=hf.ft;omega,by have:=he.ft;omega⟩
theorem VI.one_from {inv:Inventory} (h:VI inv) {s:SourceID} {e f:Epoch} (he:InI inv s e) (hf:InI inv s f) (ho:e.From=f.From):e=f:=h.one he hf ((h.vin he).same_from (h.vin hf) ho)
theorem VI.novr {inv:Inventory} (h:VI inv) (c:Change):¬ Over inv c:=by
 have:=h.n
 have:=h.ep32 c.Source
 unfold Over
 omega
theorem ap_to {inv:Inventory} {c:Change} {out:Inventory} (hv:VI inv) (hk:CK c) (hc:CF c) (hf:Found inv c) (hn:¬ a6K inv c) (ho:VI out) (hm:∀ s e,InI out s e↔After inv c s e):apN inv c=(out,0):=by
 have h:=(a3V hv.fi hc).2.2
 revert h
 generalize apN inv c=r
 intro h
 cases h with
 | bad h=>exact absurd ⟨hv,hk⟩ h
 | none _ h=>exact absurd hf h
 | clash _ _ h=>exact absurd h hn
 | over _ _ _ o h h'=>
  obtain rfl:=h.si.uniq ho.toSI fun s e=>(h.mem s e).trans (hm s e).symm
  exact absurd h' (ho.novr c)
 | ok _ _ _ o h h'=>
  obtain rfl:=h.si.uniq ho.toSI fun s e=>(h.mem s e).trans (hm s e).symm
  rfl
theorem NB.novr {out:Inventory} {n:Nat} (h:NB out n) (hn:n≤32) (c:Change):¬ Over out c:=by
 have:=h.1
 have:(epL c.Source out.Channels).length≤n:=by
  rcases a3e c.Source out.Channels with ⟨h1,_⟩ | ⟨d,hd,_,h1⟩
  ·rw [h1];exact Nat.zero_le _
  ·rw [h1];exact h.2 d hd
 unfold Over
 omega
theorem ap_nb {inv:Inventory} {c:Change} {n:Nat} (hv:VI inv) (hk:CK c) (hc:CF c) (hf:Found inv c) (hn:¬ a6K inv c) (hb:NB inv n) (h32:n<32):∃ out,apN inv c=(out,0)∧Done inv c out:=by
 have h:=(a3V hv.fi hc).2.2
 revert h
 generalize apN inv c=r
 intro h
 cases h with
 | bad h=>exact absurd ⟨hv,hk⟩ h
 | none _ h=>exact absurd hf h
 | clash _ _ h=>exact absurd h hn
 | over _ _ _ o h h'=>exact absurd h' ((h.nb n hb).novr (by omega) c)
 | ok _ _ _ o h h'=>exact ⟨o,rfl,hv,hk,hf,hn,h,h'⟩
theorem b0Z {a b:Int} (h:a=b):(a == b)=true:=by simpa using h
def noCh:Change:=⟨0,b1i,0,b0f⟩
inductive InvTo (inv:Inventory) (c:Change):Change × Int→Prop where
 | bad (h:(apN inv c).2≠0):InvTo inv c (noCh,(apN inv c).2)
 | add (h:(apN inv c).2=0) (h0:c.Kind=0):InvTo inv c (⟨1,c.Source,c.From,b0f⟩,0)
 | rem (h:(apN inv c).2=0) (h0:c.Kind=1) (e:Epoch) (he:InI inv c.Source e) (hf:e.From=c.From):InvTo inv c (⟨0,c.Source,c.From,e⟩,0)
 | rep (h:(apN inv c).2=0) (h0:c.Kind=2) (e:Epoch) (he:InI inv c.Source e) (hf:e.From=c.From):InvTo inv c (⟨2,c.Source,c.Epoch.From,e⟩,0)
theorem b3n {inv:Inventory} {c:Change} (hf:FI inv) (hc:CF c):∃ r,a2q inv c=some r∧a7R inv c=some r∧InvTo inv c r:=by
 obtain ⟨h1,h2,h3⟩:=a3V hf hc
 unfold a2q a7R
 rw [h1,h2]
 simp only [Option.bind_some]
 by_cases h0:(apN inv c).2=0
 case neg=>
  simp only [a3c h0,if_true]
  exact ⟨_,rfl,rfl,.bad h0⟩
 simp only [a1X h0,Bool.false_eq_true,if_false]
 have hd:=a4N hf hc h0
 by_cases hk0:c.Kind=0
 ·simp only [b0Z hk0,if_true]
  exact ⟨_,rfl,rfl,.add h0 hk0⟩
 ·simp only [a7T hk0,Bool.false_eq_true,if_false]
  obtain ⟨e,he,hef⟩:=hd.fnd.resolve_left hk0
  have hv:=hd.vi
  have hel:=(hv.toSI.ep c.Source e).2 he
  rw [find_ok hv.ci]
  simp only [Option.bind_some,a3p]
  obtain ⟨w,ew,hw⟩:=b3j (fun e=>e.From == c.From) (fun y0=>a0R y0 c.From) (epL c.Source inv.Channels) (fun _=>rfl) (by have:=hv.ep32 c.Source;omega)
  have hc1:∃ i:Nat,∃ h:i<(epL c.Source inv.Channels).length,a2r (epL c.Source inv.Channels) c.From=some (i:Int)∧(epL c.Source inv.Channels)[i]=e:=by
   rcases hw with ⟨rfl,hw⟩ | ⟨i,hi,rfl,hw⟩
   ·have:=hw e hel
    rw [hef] at this
    simp at this
   ·refine ⟨i,hi,by unfold a2r;rw [ew];rfl,?_⟩
    exact hv.one_from ((hv.toSI.ep c.Source _).1 (List.getElem_mem hi)) he (by rw [hef];simpa using hw)
  obtain ⟨i,hi,e1,e2⟩:=hc1
  rw [e1]
  simp only [Option.bind_some]
  rw [q8 _ _ hi,e2]
  simp only [Option.bind_some]
  have hc2:∃ i k:Int,a3j inv c=some (i,k)∧∃ d,ix inv.Channels i=some d∧ix d.Epochs k=some e:=by
   obtain ⟨i,k,er,h⟩:=b1l hv c
   refine ⟨i,k,er,?_⟩
   obtain ⟨d,hdm,hds,hde⟩:=he
   rcases h with ⟨_,_,h⟩ | ⟨n,hn,rfl,hs,h⟩
   ·exact absurd hds (h d hdm)
   ·obtain rfl:=hv.toSI.src hdm (List.getElem_mem hn) (hds.trans hs.symm)
    rcases h with ⟨_,h⟩ | ⟨m,hm,rfl,hm'⟩
    ·exact absurd hef (h e hde)
    ·refine ⟨_,q8 _ _ hn,?_⟩
     rw [q8 _ _ hm]
     congr 1
     exact hv.one_from (s:=c.Source) ⟨_,List.getElem_mem hn,hs,List.getElem_mem hm⟩ ⟨_,List.getElem_mem hn,hs,hde⟩ (hm'.trans hef.symm)
  obtain ⟨a,b,f1,d,f2,f3⟩:=hc2
  rw [f1]
  simp only [Option.bind_some]
  rw [f2]
  simp only [Option.bind_some]
  rw [f3]
  simp only [Option.bind_some]
  rw [a4T (hv.vin he).ce]
  simp only [Option.bind_some]
  by_cases hk1:c.Kind=1
  ·rw [if_pos (b0Z hk1)]
   exact ⟨_,rfl,rfl,.rem h0 hk1 e he hef⟩
  ·rw [if_neg (by simpa using hk1)]
   refine ⟨_,rfl,rfl,.rep h0 ?_ e he hef⟩
   rcases hd.ck.2 with h | h | h
   ·exact absurd h.1 hk0
   ·exact absurd h.1 hk1
   ·exact h.1
theorem b3W:EF b0f:=b3V.ef
theorem undo_ok {inv:Inventory} {c:Change} (hf:FI inv) (hc:CF c) (h0:(apN inv c).2=0) {r:Change × Int} (hr:InvTo inv c r):r.2=0∧CF r.1∧apN (apN inv c).1 r.1=(inv,0):=by
 have hd:=a4N hf hc h0
 have hv:=hd.vi
 have hv':=hd.out
 have hm:=hd.res.mem
 obtain ⟨out,hout⟩:∃ out,(apN inv c).1=out:=⟨_,rfl⟩
 rw [hout] at hd hv' hm ⊢
 have hck:=hd.ck
 have hncl:∀ e,InI inv c.Source e→(c.Kind≠0→e.From≠c.From)→c.Kind≠1→e.From≠c.Epoch.From:=fun e he hs hk ht=>hd.ncl ⟨hk,e,⟨he,hs⟩,(hv.vin he).same_from (hck.ve hk) ht⟩
 cases hr with
 | bad h=>exact absurd h0 h
 | add _ hk=>
  have hcf:c.From=c.Epoch.From:=by
   rcases hck.2 with h | h | h
   ·exact h.2.2
   ·rw [hk] at h;exact absurd h.1 (by decide)
   ·rw [hk] at h;exact absurd h.1 (by decide)
  refine ⟨rfl,⟨a2T hck.1,b3W⟩,ap_to hv' ⟨hck.1,.inr (.inl ⟨rfl,rfl⟩)⟩ ⟨a2T hck.1,b3W⟩ (.inr ⟨c.Epoch,(hm _ _).2 (.inr ⟨rfl,by omega,rfl⟩),hcf.symm⟩) (fun h=>h.1 rfl) hv fun s e=>?_⟩
  unfold After
  simp only
  rw [hm]
  unfold After
  constructor
  ·intro h
   refine .inl ⟨.inl ⟨h,fun _ h'=>absurd hk h'⟩,fun hs _=>?_⟩
   subst hs
   rw [hcf]
   exact hncl e h (fun h'=>absurd hk h') (by omega)
  ·rintro (⟨h | ⟨h1,h2,h3⟩,h'⟩ | h)
   ·exact h.1
   ·rw [h3] at h'
    exact absurd hcf.symm (h' h1 (by decide))
   ·exact absurd rfl h.2.1
 | rem _ hk e0 he0 hef=>
  have hve:=hv.vin he0
  refine ⟨rfl,⟨a2T hck.1,hve.ce.ef⟩,ap_to hv' ⟨hck.1,.inl ⟨rfl,hve,hef.symm⟩⟩ ⟨a2T hck.1,hve.ce.ef⟩ (.inl rfl) (fun h=>?_) hv fun s e=>?_⟩
  ·obtain ⟨_,e,⟨h1,_⟩,h2⟩:=h
   rcases (hm _ _).1 h1 with h | h
   ·have:=hv.one h.1 he0 h2
    subst this
    exact h.2 rfl (by omega) hef
   ·exact h.2.1 hk
  ·unfold After
   simp only
   rw [hm]
   unfold After
   constructor
   ·intro h
    by_cases hs:s=c.Source∧e.From=c.From
    ·obtain ⟨rfl,hs⟩:=hs
     exact .inr ⟨rfl,by decide,hv.one_from h he0 (hs.trans hef.symm)⟩
    ·exact .inl ⟨.inl ⟨h,fun h1 _ h2=>hs ⟨h1,h2⟩⟩,fun _ h=>absurd rfl h⟩
   ·rintro (⟨h | h,_⟩ | ⟨rfl,_,rfl⟩)
    ·exact h.1
    ·exact absurd hk h.2.1
    ·exact he0
 | rep _ hk e0 he0 hef=>
  have hve:=hv.vin he0
  have hce:=hck.ve (show c.Kind≠1 by omega)
  refine ⟨rfl,⟨a2T hck.1,hve.ce.ef⟩,ap_to hv' ⟨hck.1,.inr (.inr ⟨rfl,hve⟩)⟩ ⟨a2T hck.1,hve.ce.ef⟩ (.inr ⟨c.Epoch,(hm _ _).2 (.inr ⟨rfl,by omega,rfl⟩),rfl⟩) (fun h=>?_) hv fun s e=>?_⟩
  ·obtain ⟨_,e,⟨h1,h3⟩,h2⟩:=h
   rcases (hm _ _).1 h1 with h | h
   ·have:=hv.one h.1 he0 h2
    subst this
    exact h.2 rfl (by omega) hef
   ·rw [h.2.2] at h3
    exact h3 (fun h=>absurd h (show (2:Int)≠0 by decide)) rfl
  ·unfold After
   simp only
   rw [hm]
   unfold After
   constructor
   ·intro h
    by_cases hs:s=c.Source∧e.From=c.From
    ·obtain ⟨rfl,hs⟩:=hs
     exact .inr ⟨rfl,by decide,hv.one_from h he0 (hs.trans hef.symm)⟩
    ·refine .inl ⟨.inl ⟨h,fun h1 _ h2=>hs ⟨h1,h2⟩⟩,fun h1 _=>?_⟩
     subst h1
     exact hncl e h (fun _ h2=>hs ⟨rfl,h2⟩) (by omega)
   ·rintro (⟨h | h,h'⟩ | ⟨rfl,_,rfl⟩)
    ·exact h.1
    ·rw [h.2.2] at h'
     exact absurd rfl (h' h.1 (by decide))
    ·exact he0
def exS:SourceID:=⟨⟨#[65]⟩,⟨#[66]⟩,ByteArray.empty,⟨#[72,72,90]⟩⟩
def exE (t:Int):Epoch:=⟨10,t,⟨100,1⟩,⟨0,0,0⟩,⟨[]⟩⟩
theorem a9d:a5H exS=true:=by decide
theorem exE_ok {t:Int} (h:10<t) (h1:t≤100):VE (exE t):=
 ⟨show (0:Int)≤10 by decide,h,show t≤9007199254740992 by omega,show RV ⟨100,1⟩ from ⟨by decide,by decide,by decide,by decide,by decide⟩,show RP [] from ⟨fun s hs=>(by cases hs),by decide,by decide⟩,
  show (-1048576:Int)≤0∧(0:Int)≤1048576 by decide,show (-1048576:Int)≤0∧(0:Int)≤1048576 by decide,show (-16384:Int)≤0∧(0:Int)≤1048576 by decide⟩
theorem sane20:a4Q=some true:=by
 have v1:=exE_ok (t:=20) (by decide) (by decide)
 have v2:=exE_ok (t:=25) (by decide) (by decide)
 have hn:∀ s e,¬ InI ⟨[]⟩ s e:=fun s e ⟨c,hc,_⟩=>by cases hc
 obtain ⟨x,e1,d1⟩:=ap_nb (inv:=⟨[]⟩) (c:=⟨0,exS,10,exE 20⟩) b3z ⟨a9d,.inl ⟨rfl,v1,rfl⟩⟩ ⟨a2T a9d,v1.ce.ef⟩ (.inl rfl) (fun h=>by obtain ⟨_,e,he,_⟩:=h;exact hn _ _ he.1) nb_nil (by decide)
 have m1:∀ s e,InI x s e↔s=exS∧e=exE 20:=fun s e=>by
  rw [d1.res.mem]
  unfold After
  constructor
  ·rintro (h | h)
   ·exact absurd h.1 (hn _ _)
   ·exact ⟨h.1,h.2.2⟩
  ·exact fun h=>.inr ⟨h.1,by decide,h.2⟩
 obtain ⟨y,e2,d2⟩:=ap_nb (inv:=x) (c:=⟨2,exS,10,exE 25⟩) d1.out ⟨a9d,.inr (.inr ⟨rfl,v2⟩)⟩ ⟨a2T a9d,v2.ce.ef⟩ (.inr ⟨exE 20,(m1 _ _).2 ⟨rfl,rfl⟩,rfl⟩) (fun h=>by
  obtain ⟨_,e,he,_⟩:=h
  have:=((m1 _ _).1 he.1).2
  subst this
  exact he.2 (by decide) rfl) (d1.res.nb 0 nb_nil) (by decide)
 have m2:∀ s e,InI y s e↔s=exS∧e=exE 25:=fun s e=>by
  rw [d2.res.mem]
  unfold After
  constructor
  ·rintro (⟨h,h'⟩ | h)
   ·obtain ⟨rfl,rfl⟩:=(m1 _ _).1 h
    exact absurd rfl (h' rfl (by decide))
   ·exact ⟨h.1,h.2.2⟩
  ·exact fun h=>.inr ⟨h.1,by decide,h.2⟩
 have a1:∀ s z e,EpA (epL s x.Channels) z e↔(s=exS∧e=exE 20)∧e.From≤z∧z<e.To:=fun s z e=>by unfold EpA;rw [d1.out.toSI.ep,m1]
 have a2:∀ s z e,EpA (epL s y.Channels) z e↔(s=exS∧e=exE 25)∧e.From≤z∧z<e.To:=fun s z e=>by unfold EpA;rw [d2.out.toSI.ep,m2]
 have hA:AffP x y [⟨exS,[⟨20,25⟩]⟩]:=by
  refine ⟨List.pairwise_singleton _ _,fun f hf=>?_,fun s z=>?_⟩
  ·rcases List.mem_singleton.1 hf with rfl
   refine ⟨⟨fun t ht=>?_,List.pairwise_singleton _ _⟩,by simp,by simp⟩
   rcases List.mem_singleton.1 ht with rfl;decide
  ·unfold a7K
   simp only [a1,a2]
   constructor
   ·rintro ⟨f,hf,rfl,hm⟩
    rcases List.mem_singleton.1 hf with rfl
    rw [a1f] at hm
    simp only at hm
    refine ⟨⟨exE 25,.inr ⟨⟨rfl,rfl⟩,by show (10:Int)≤z;omega,hm.2⟩⟩,?_⟩
    rintro ⟨e,f,⟨⟨_,rfl⟩,h⟩,_⟩
    have:z<20:=h.2
    omega
   ·rintro ⟨⟨e,h⟩,hn⟩
    have hs:s=exS:=h.elim (fun h=>h.1.1) (fun h=>h.1.1)
    refine ⟨_,List.mem_singleton.2 rfl,hs.symm,?_⟩
    rw [a1f]
    have h10:10≤z∧z<25:=by
     rcases h with ⟨⟨_,rfl⟩,h1,h2⟩ | ⟨⟨_,rfl⟩,h1,h2⟩
     ·have h1:10≤z:=h1
      have h2:z<20:=h2
      omega
     ·have h1:10≤z:=h1
      have h2:z<25:=h2
      omega
    by_cases h20:z<20
    ·exact absurd ⟨exE 20,exE 25,⟨⟨hs,rfl⟩,h10.1,h20⟩,⟨⟨hs,rfl⟩,h10.1,h10.2⟩,rfl,rfl,rfl⟩ hn
    ·exact ⟨by show (20:Int)≤z;omega,h10.2⟩
 have hL:affN x y=[⟨exS,[⟨20,25⟩]⟩]:=by
  rw [b2l ⟨d1.out,d2.out⟩]
  exact (affL_ok d1.out d2.out).uniq hA fun _ _=>Iff.rfl
 have f1:H7 ⟨[]⟩ ⟨0,exS,10,exE 20⟩=some (x,0):=by rw [(a3V b3z.fi ⟨a2T a9d,v1.ce.ef⟩).1,e1]
 have f2:H7 x ⟨2,exS,10,exE 25⟩=some (y,0):=by rw [(a3V d1.out.fi ⟨a2T a9d,v2.ce.ef⟩).1,e2]
 have f3:=(b2m d1.out.fi d2.out.fi).1
 rw [hL] at f3
 unfold a4Q
 rw [show H7 (⟨([]:List Channel)⟩:Inventory) (⟨0,(⟨(⟨#[65]⟩:ByteArray),(⟨#[66]⟩:ByteArray),ByteArray.empty,(⟨#[72,72,90]⟩:ByteArray)⟩:SourceID),10,(⟨10,20,(⟨100,1⟩:Rate),(⟨0,0,0⟩:Position),(⟨([]:List Stage)⟩:Response)⟩:Epoch)⟩:Change)=some (x,0) from f1]
 simp only [Option.bind_some]
 rw [show H7 x (⟨2,(⟨(⟨#[65]⟩:ByteArray),(⟨#[66]⟩:ByteArray),ByteArray.empty,(⟨#[72,72,90]⟩:ByteArray)⟩:SourceID),10,(⟨10,25,(⟨100,1⟩:Rate),(⟨0,0,0⟩:Position),(⟨([]:List Stage)⟩:Response)⟩:Epoch)⟩:Change)=some (y,0) from f2]
 simp only [Option.bind_some]
 rw [f3]
 simp only [Option.bind_some]
 have i0:ix ([⟨exS,[⟨20,25⟩]⟩]:List Affected) 0=some ⟨exS,[⟨20,25⟩]⟩:=rfl
 rw [if_pos (by simp),i0]
 simp only [Option.bind_some]
 have hs:((exS.Network == (⟨#[65]⟩:ByteArray)) && ((exS.Station == (⟨#[66]⟩:ByteArray)) && ((exS.Location == ByteArray.empty) && ((exS.Channel == (⟨#[72,72,90]⟩:ByteArray)) && true))))=true:=(b1Z (a:=exS) (b:=exS)).2 rfl
 rw [hs,if_pos rfl,b4G _ (by simp)]
 rfl
end Go.Proofs.YteanekphncdhiaaGreat.Sh
namespace Go.Proofs.YteanekphncdhiaaGreat.Sh
open Go
set_option linter.unusedVariables false
set_option linter.unusedSimpArgs false
theorem a5i (t:List Int) (_:(t.length:Int)≤140737488355328∧∀ x∈t,-9223372036854775808≤x∧x≤9223372036854775807):a1Y t=some true:=by
 unfold a1Y
 rw [b3o]
 simp only [Option.bind_some]
 by_cases hl:t.length≤500
 case neg=>rw [decide_eq_false hl,sane20];rfl
 rw [decide_eq_true hl]
 simp only [Bool.not_true,Bool.false_eq_true,if_false,a9h,Option.bind_some]
 obtain ⟨h,d',e1,hh,_⟩:=dhistory (DOK.roll hl) (n:=6) (by decide)
 rw [show a0g ⟨t,0⟩ 6=some (h,d') from e1]
 simp only [Option.bind_some]
 have hcf:∀ c∈h.Changes,CF c:=fun c hc=>(hh.c c hc).cf
 have hn:=hh.n
 have hf:HF h:=⟨hh.v.b.fi,by omega,hcf⟩
 rw [show w64 ((h.Changes.length:Int) - 1)=(h.Changes.length:Int) - 1 from F6 (by omega) (by omega)]
 obtain ⟨r,er,rfl⟩:=P6 (b1:=a0J (h,d')) (fun k s=>s=(k:Int) - 1∧k≤h.Changes.length) (fun r=>r=true) (fun k s ⟨es,hk⟩=>by
  subst es
  unfold a0J
  simp only
  rcases k with _ | i
  ·rw [if_neg (by simp)]
   obtain ⟨b,b1,_,b2⟩:=a9g hf
   rw [b1,b2.2 hh.v,sane20]
   exact .inr ⟨true,rfl,rfl⟩
  ·obtain ⟨x,hx,vx,ex⟩:=hh.v.ver hcf (k:=i) (by omega)
   obtain ⟨y,hy,vy,ey⟩:=hh.v.ver hcf (k:=i+1) (by omega)
   have hi:i<h.Changes.length:=by omega
   rw [D5 hi,a6f hx] at hy
   have hcc:=hcf _ (List.getElem_mem hi)
   by_cases h0:(apN x h.Changes[i]).2=0
   case neg=>rw [if_neg h0] at hy;cases hy
   rw [if_pos h0] at hy
   obtain rfl:(apN x h.Changes[i]).1=y:=Option.some.inj hy
   obtain ⟨w,w1,_,w2⟩:=b3n vx.fi hcc
   obtain ⟨u1,u2,u3⟩:=undo_ok vx.fi hcc h0 w2
   rw [show ((i+1:Nat):Int) - 1=(i:Int) by omega,if_pos (decide_eq_true (by omega)),N8 (by omega),(b3y hf _).1,(b3y hf _).1,ex,ey,q8 _ _ hi]
   simp only [Option.bind_some]
   rw [(a3V vx.fi hcc).1,w1]
   simp only [Option.bind_some]
   rw [(a3V vy.fi u2).1,u3]
   simp only [Option.bind_some]
   rw [if_neg (by simp [h0,u1]),b0s vy.ci]
   simp only [Option.bind_some,Bool.not_true,Bool.false_eq_true,if_false]
   rw [b0s vx.ci]
   simp only [Option.bind_some,Bool.not_true,Bool.false_eq_true,if_false]
   rw [F6 (by omega) (by omega)]
   exact .inl ⟨_,i,rfl,⟨rfl,by omega⟩,by omega⟩) h.Changes.length _ ⟨rfl,Nat.le_refl _⟩
 exact er
end Go.Proofs.YteanekphncdhiaaGreat.Sh

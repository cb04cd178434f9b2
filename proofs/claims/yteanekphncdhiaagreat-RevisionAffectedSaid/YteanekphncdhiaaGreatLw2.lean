/- The plain law: what the plain programs compute, put together in one text. -/
import Derived.Test.YteanekphncdhiaaGreatLw1
import Derived.Test.YteanekphncdhiaaGreatLa1
namespace Go.Proofs.YteanekphncdhiaaGreat.Sh
open Go
set_option linter.unusedVariables false
set_option linter.unusedSimpArgs false
theorem CD.cf {c:Change} (h:CD c):CF c:=⟨a6R h.s,h.e.ef⟩
noncomputable def apN (inv:Inventory) (c:Change):Inventory × Int:=(M3 inv c).getD (⟨[]⟩,1)
theorem a6q {inv:Inventory} {c:Change} (hf:FI inv) (hc:CF c):M3 inv c=some (apN inv c)∧a0t inv c=some (apN inv c)∧ApplyTo inv c (apN inv c):=by
 obtain ⟨r,h1,h2,h3⟩:=b3I hf hc
 have:apN inv c=r:=by unfold apN;rw [h1];rfl
 rw [this];exact ⟨h1,h2,h3⟩
structure Done (inv:Inventory) (c:Change) (out:Inventory):Prop where
 vi:VI inv
 ck:CK c
 fnd:Found inv c
 ncl:¬ a8f inv c
 res:Res20 inv c out
 novr:¬ Over out c
theorem Done.out {inv:Inventory} {c:Change} {out:Inventory} (h:Done inv c out):VI out:=h.res.vi h.vi h.novr
theorem ApplyTo.done {inv:Inventory} {c:Change} {r:Inventory × Int} (h:ApplyTo inv c r) (h0:r.2=0):Done inv c r.1:=by
 cases h with
 | bad=>cases h0
 | none=>cases h0
 | clash=>cases h0
 | over=>cases h0
 | ok h h1 h2 _ h3 h4=>exact ⟨h.1,h.2,h1,h2,h3,h4⟩
theorem Done.ap {inv:Inventory} {c:Change} {out:Inventory} (h:Done inv c out) (hc:CF c):apN inv c=(out,0):=(a6q h.vi.fi hc).2.2.uniq (.ok ⟨h.vi,h.ck⟩ h.fnd h.ncl _ h.res h.novr)
theorem a7i {inv:Inventory} {c:Change} (hf:FI inv) (hc:CF c) (h0:(apN inv c).2=0):Done inv c (apN inv c).1:=(a6q hf hc).2.2.done h0
theorem apN_nb {inv:Inventory} {c:Change} (hf:FI inv) (hc:CF c) (h0:(apN inv c).2=0) {n:Nat} (hn:NB inv n):NB (apN inv c).1 (n+1):=(a7i hf hc h0).res.nb n hn
noncomputable def a2M (inv:Inventory):List Change→Option Inventory
 | []=>some inv
 | c :: l=>if (apN inv c).2=0 then a2M (apN inv c).1 l else none
theorem a6v (inv:Inventory) (a b:List Change):a2M inv (a ++ b)=(a2M inv a).bind fun x=>a2M x b:=by
 induction a generalizing inv with
 | nil=>rfl
 | cons c a ih=>
  simp only [List.cons_append,a2M]
  split
  ·exact ih _
  ·rfl
theorem a8n {inv x:Inventory} {a:List Change} {c:Change} (h:a2M inv a=some x):a2M inv (a ++ [c])=if (apN x c).2=0 then some (apN x c).1 else none:=by
 rw [a6v,h];rfl
theorem foldN_vi {l:List Change}:∀ {inv x:Inventory},VI inv→(∀ c∈l,CF c)→a2M inv l=some x→VI x:=by
 induction l with
 | nil=>intro inv x hv _ h;cases h;exact hv
 | cons c l ih=>
  intro inv x hv hc h
  unfold a2M at h
  split at h
  ·rename_i h0
   exact ih (a7i hv.fi (hc c List.mem_cons_self) h0).out (fun d hd=>hc d (List.mem_cons_of_mem _ hd)) h
  ·cases h
noncomputable def a5Y (inv:Inventory) (l:List Change):Inventory × Bool:=match a2M inv l with
 | some x=>(x,true)
 | none=>(⟨[]⟩,false)
theorem b1K {l:List Change} {base:Inventory} {body:List Channel × Int→Option ((List Channel × Int) ⊕ (Inventory × Bool))} (hl:l.length≤1000000) (hv:VI base) (hc:∀ c∈l,CF c)
  (h1:∀ (x:Inventory) i (hi:i<l.length),VI x→body (x.Channels,(i:Int))=if (apN x l[i]).2=0 then some (.inl ((apN x l[i]).1.Channels,((i+1:Nat):Int))) else some (.inr (⟨[]⟩,false))) (h2:∀ x:Inventory,body (x.Channels,(l.length:Int))=some (.inr (x,true))) :
  o5 body (base.Channels,0)=some (a5Y base l):=by
 obtain ⟨r,e,rfl⟩:=P8 (b1:=body) (fun m s=>∃ (i:Nat) (x:Inventory),s=(x.Channels,(i:Int))∧m+i=l.length∧VI x∧a2M base (l.take i)=some x) (fun r=>r=a5Y base l) (fun m s ⟨i,x,es,hm,hx,hf⟩=>by
  subst es
  by_cases hil:i<l.length
  ·rw [h1 x i hil hx]
   have hci:=hc _ (List.getElem_mem hil)
   by_cases h0:(apN x l[i]).2=0
   ·rw [if_pos h0]
    refine .inl ⟨_,m - 1,rfl,⟨i+1,(apN x l[i]).1,rfl,by omega,(a7i hx.fi hci h0).out,?_⟩,by omega⟩
    rw [C8 hil,a8n hf,if_pos h0]
   ·rw [if_neg h0]
    refine .inr ⟨_,rfl,?_⟩
    have:a2M base l=none:=by
     rw [← List.take_append_drop (i+1) l,a6v,C8 hil,a8n hf,if_neg h0];rfl
    unfold a5Y;rw [this]
  ·have hi:i=l.length:=by omega
   subst hi
   rw [h2]
   refine .inr ⟨_,rfl,?_⟩
   rw [List.take_length] at hf
   unfold a5Y;rw [hf]) l.length (base.Channels,0) ⟨0,base,rfl,by omega,hv,rfl⟩
 exact e
theorem b4r {base:Inventory} {l:List Change} (hl:l.length≤1000000) (hv:VI base) (hc:∀ c∈l,CF c):a4u base l=some (a5Y base l):=by
 unfold a4u
 rw [b4n hv.ci]
 simp only [Option.bind_some]
 refine b1K hl hv hc (fun x i hi hx=>?_) (fun x=>?_)
 ·unfold a4j
  simp only
  rw [if_pos (decide_eq_true (by omega)),o9 _ _ hi]
  simp only [Option.bind_some]
  rw [(a6q (inv:=x) hx.fi (hc _ (List.getElem_mem hi))).1,M5 (by omega)]
  simp only [Option.bind_some]
  by_cases h0:(apN x l[i]).2=0
  ·rw [if_neg (by rw [a3c h0];simp),if_pos h0]
  ·rw [if_pos (a4d h0),if_neg h0]
 ·unfold a4j
  simp only
  rw [if_neg (by simp)];rfl
theorem a8K {h:History} {n:Nat} (hn:n≤h.Changes.length) (hl:n≤1000000) (hv:VI h.Base) (hc:∀ c∈h.Changes,CF c):a1Q h (n:Int)=some (a5Y h.Base (h.Changes.take n)):=by
 unfold a1Q
 rw [a9c hv.ci]
 simp only [Option.bind_some]
 have hlen:(h.Changes.take n).length=n:=by rw [List.length_take];omega
 refine b1K (l:=h.Changes.take n) (by omega) hv (fun c hc'=>hc c (List.mem_of_mem_take hc')) (fun x i hi hx=>?_) (fun x=>?_)
 ·unfold a4h
  simp only
  rw [if_pos (decide_eq_true (by omega)),o9 _ _ (show i<h.Changes.length by omega)]
  simp only [Option.bind_some,List.getElem_take]
  rw [(a6q (inv:=x) hx.fi (hc _ (List.getElem_mem (show i<h.Changes.length by omega)))).2.1,M5 (by omega)]
  simp only [Option.bind_some]
  by_cases h0:(apN x (h.Changes[i]'(by omega))).2=0
  ·rw [if_neg (by rw [a3c h0];simp),if_pos h0]
  ·rw [if_pos (a4d h0),if_neg h0]
 ·unfold a4h
  simp only
  rw [if_neg (by simp [hlen])];rfl
structure HV (h:History):Prop where
 b:VI h.Base
 n:h.Changes.length≤256
 f:(a2M h.Base h.Changes).isSome=true
structure HF (h:History):Prop where
 b:FI h.Base
 n:h.Changes.length≤1000000
 c:∀ c∈h.Changes,CF c
theorem b5a (inv:Inventory) (l:List Change):(a5Y inv l).2=(a2M inv l).isSome:=by
 unfold a5Y;cases a2M inv l <;> rfl
theorem b1L {h:History} (hf:HF h):∃ b,a5n h=some b∧a4A h=some b∧(b=true↔HV h):=by
 obtain ⟨v,v1,v2⟩:=a7J hf.b
 obtain ⟨w,w1,w2⟩:=a5o hf.b
 have:w=v:=Bool.eq_iff_iff.2 (w2.trans v2.symm)
 subst this
 unfold a5n a4A
 rw [v1,w1]
 simp only [Option.bind_some]
 cases w with
 | false=>exact ⟨false,rfl,rfl,fun h=>(by cases h),fun h=>v2.2 h.b⟩
 | true=>
  have hv:=v2.1 rfl
  by_cases h256:(256:Int)<(h.Changes.length:Int)
  ·rw [decide_eq_true h256]
   exact ⟨false,rfl,rfl,fun h=>(by cases h),fun h=>by have:=h.n;omega⟩
  ·rw [decide_eq_false h256,b4r hf.n hv hf.c,a8K (Nat.le_refl _) hf.n hv hf.c,List.take_length]
   refine ⟨(a5Y h.Base h.Changes).2,rfl,rfl,?_⟩
   rw [b5a]
   exact ⟨fun h=>⟨hv,by omega,h⟩,fun h=>h.f⟩
open Classical in
noncomputable def b0l (h:History) (n:Int):Inventory × Int:=if ¬ HV h then (⟨[]⟩,1) else if n<0∨(h.Changes.length:Int)<n then (⟨[]⟩,2) else ((a5Y h.Base (h.Changes.take n.toNat)).1,0)
theorem ver_ok {h:History} (hf:HF h) (n:Int):a6f h n=some (b0l h n)∧a1P h n=some (b0l h n):=by
 obtain ⟨b,b1,b2,b3⟩:=b1L hf
 unfold a6f a1P b0l
 rw [b1,b2]
 simp only [Option.bind_some,a4y]
 cases b with
 | false=>
  have hn:¬ HV h:=fun h=>by have:=b3.2 h;cases this
  rw [if_pos hn];exact ⟨rfl,rfl⟩
 | true=>
  have hh:=b3.1 rfl
  rw [if_neg (show ¬ ¬ HV h from fun h=>h hh)]
  simp only [Bool.not_true,Bool.false_eq_true,if_false]
  have hlen:=hh.n
  by_cases hr:n<0∨(h.Changes.length:Int)<n
  ·have h1:(decide (n<0) || decide ((h.Changes.length:Int)<n))=true:=by rw [Bool.or_eq_true,decide_eq_true_eq,decide_eq_true_eq];exact hr
   have h2:inB n 0 (h.Changes.length:Int)=false:=by
    cases hh:inB n 0 (h.Changes.length:Int) with
    | false=>rfl
    | true=>have:=a0j.1 hh;omega
   rw [h1,h2,if_pos hr];exact ⟨rfl,rfl⟩
  ·have h1:(decide (n<0) || decide ((h.Changes.length:Int)<n))=false:=by rw [Bool.or_eq_false_iff,decide_eq_false_iff_not,decide_eq_false_iff_not];omega
   have h2:inB n 0 (h.Changes.length:Int)=true:=a0j.2 (by omega)
   rw [h1,h2,if_neg hr]
   simp only [Bool.not_true,Bool.false_eq_true,if_false]
   obtain ⟨k,rfl⟩:∃ k:Nat,n=(k:Int):=⟨n.toNat,by omega⟩
   have hs:E5 h.Changes 0 (k:Int)=some (h.Changes.take k):=by
    have:=a0J h.Changes 0 k (Nat.zero_le _) (by omega)
    simpa using this
   rw [hs]
   simp only [Option.bind_some,Int.toNat_natCast]
   rw [b4r (by rw [List.length_take];omega) hh.b (fun c hc=>hf.c c (List.mem_of_mem_take hc)),a8K (by omega) (by omega) hh.b hf.c]
   exact ⟨rfl,rfl⟩
theorem HV.pre {h:History} (hv:HV h) {k:Nat} (hk:k≤h.Changes.length):∃ x,a2M h.Base (h.Changes.take k)=some x:=by
 have:=hv.f
 rw [← List.take_append_drop k h.Changes,a6v] at this
 cases hx:a2M h.Base (h.Changes.take k) with
 | none=>rw [hx] at this;cases this
 | some x=>exact ⟨x,rfl⟩
theorem HV.ver {h:History} (hv:HV h) (hc:∀ c∈h.Changes,CF c) {k:Nat} (hk:k≤h.Changes.length):∃ x,a2M h.Base (h.Changes.take k)=some x∧VI x∧b0l h (k:Int)=(x,0):=by
 obtain ⟨x,hx⟩:=hv.pre hk
 refine ⟨x,hx,foldN_vi hv.b (fun c hc'=>hc c (List.mem_of_mem_take hc')) hx,?_⟩
 unfold b0l
 rw [if_neg (show ¬ ¬ HV h from fun h=>h hv),if_neg (by omega),Int.toNat_natCast]
 unfold a5Y
 rw [hx]
theorem b4c {h:History} (hc:∀ c∈h.Changes,CF c) (n:Int):((b0l h n).2=0∧VI (b0l h n).1)∨((b0l h n).2≠0∧(b0l h n).1=⟨[]⟩):=by
 by_cases hv:HV h
 ·by_cases hr:n<0∨(h.Changes.length:Int)<n
  ·unfold b0l;rw [if_neg (show ¬ ¬ HV h from fun h=>h hv),if_pos hr];exact .inr ⟨by decide,rfl⟩
  ·obtain ⟨k,rfl⟩:∃ k:Nat,n=(k:Int):=⟨n.toNat,by omega⟩
   obtain ⟨x,_,h1,h2⟩:=hv.ver hc (k:=k) (by omega)
   rw [h2];exact .inl ⟨rfl,h1⟩
 ·unfold b0l;rw [if_pos hv];exact .inr ⟨by simp,rfl⟩
theorem b2D:VI ⟨[]⟩:=⟨⟨(fun c hc=>by cases hc),(fun c hc=>by cases hc),List.Pairwise.nil⟩,by simp,(fun c hc=>by cases hc)⟩
theorem nb_nil:NB ⟨[]⟩ 0:=⟨Nat.le_refl _,fun c hc=>by cases hc⟩
theorem b3K {d:Dice} (hd:DOK d) {n:Nat} (hn:n≤100):∃ inv d',Y5 d (n:Int)=some (inv,d')∧VI inv∧NB inv n∧DOK d':=by
 unfold Y5
 rw [M5 (by omega)]
 obtain ⟨x,d1,e1,x0,x1,hd1⟩:=I4 hd (n:=((n+1:Nat):Int)) (by omega) (by omega)
 rw [e1]
 simp only [Option.bind_some]
 obtain ⟨m,rfl⟩:∃ m:Nat,x=(m:Int):=⟨x.toNat,by omega⟩
 obtain ⟨r,e,inv,d',rfl,h1,h2,h3⟩:=P8 (b1:=a1p) (fun k s=>∃ (d:Dice) (inv:Inventory),s=(d.L,d.At,inv.Channels,(k:Int))∧DOK d∧VI inv∧NB inv (m - k)∧k≤m) (fun r=>∃ (inv:Inventory) (d:Dice),r=(d.L,d.At,inv.Channels)∧VI inv∧NB inv m∧DOK d) (fun k s ⟨d,inv,es,hd,hv,hnb,hk⟩=>by
  subst es
  unfold a1p
  simp only
  by_cases hk0:0<k
  ·rw [if_pos (decide_eq_true (by omega))]
   obtain ⟨c,d2,e2,hc,hd2⟩:=b4p (d:=d) hd hv
   rw [show V4 ⟨d.L,d.At⟩ ⟨inv.Channels⟩=some (c,d2) from e2]
   simp only [Option.bind_some]
   rw [show a0t ⟨inv.Channels⟩ c=some (apN inv c) from (a6q hv.fi hc.cf).2.1]
   simp only [Option.bind_some]
   have hw:w64 ((k:Int) - 1)=((k - 1:Nat):Int):=by rw [F4 (by omega) (by omega)];omega
   unfold Y8
   simp only [Option.bind_some,hw]
   by_cases h0:(apN inv c).2=0
   ·rw [if_pos (by simpa using h0)]
    have hnb2:=apN_nb hv.fi hc.cf h0 hnb
    rw [show m - k+1=m - (k - 1) by omega] at hnb2
    exact .inl ⟨_,k - 1,rfl,⟨d2,(apN inv c).1,rfl,hd2,(a7i hv.fi hc.cf h0).out,hnb2,by omega⟩,by omega⟩
   ·rw [if_neg (by simpa using h0)]
    refine .inl ⟨_,k - 1,rfl,⟨d2,inv,rfl,hd2,hv,⟨by have:=hnb.1;omega,fun c hc=>by have:=hnb.2 c hc;omega⟩,by omega⟩,by omega⟩
  ·rw [if_neg (by simp;omega)]
   have hk0:k=0:=by omega
   subst hk0
   exact .inr ⟨_,rfl,inv,d,rfl,hv,hnb,hd⟩) m (d1.L,d1.At,[],(m:Int)) ⟨d1,⟨[]⟩,rfl,hd1,b2D,⟨by simp,fun c hc=>by cases hc⟩,Nat.le_refl _⟩
 rw [e]
 exact ⟨inv,d',rfl,h1,⟨by have:=h2.1;omega,fun c hc=>by have:=h2.2 c hc;omega⟩,h3⟩
theorem b4R {h:History} {c:Change} (hh:HV h) (hc:∀ d∈h.Changes,CD d) (hcd:CF c) (hn:h.Changes.length<256):∃ x,a2M h.Base h.Changes=some x∧VI x ∧
  (((apN x c).2=0∧a1s h c=some (⟨h.Base,h.Changes ++ [c]⟩,0))∨((apN x c).2≠0∧a1s h c=some (⟨⟨[]⟩,[]⟩,(apN x c).2))):=by
 have hf:HF h:=⟨hh.b.fi,by omega,fun d hd=>(hc d hd).cf⟩
 obtain ⟨x,hx,hv,_⟩:=hh.ver hf.c (Nat.le_refl _)
 rw [List.take_length] at hx
 refine ⟨x,hx,hv,?_⟩
 obtain ⟨b,_,b2,b3⟩:=b1L hf
 have:=b3.2 hh
 subst this
 unfold a1s
 rw [b2]
 simp only [Option.bind_some,Bool.not_true,Bool.false_eq_true,if_false]
 rw [if_neg (by simp;omega),a8K (Nat.le_refl _) (by omega) hh.b hf.c,List.take_length]
 have hfr:a5Y h.Base h.Changes=(x,true):=by unfold a5Y;rw [hx]
 rw [hfr]
 simp only [Option.bind_some]
 rw [(a6q hv.fi hcd).2.1]
 simp only [Option.bind_some]
 by_cases h0:(apN x c).2=0
 ·refine .inl ⟨h0,?_⟩
  have hce:CE c.Epoch:=by
   have hck:=(a7i hv.fi hcd h0).ck
   by_cases k1:c.Kind=1
   ·rcases hck.2 with h | h | h
    ·omega
    ·rw [h.2];exact noEp_ce
    ·omega
   ·exact (hck.ve k1).ce
  rw [if_neg (by rw [a3c h0];simp),a6E hce,a9c hh.b.ci]
  simp only [Option.bind_some]
  rw [capp _ _ (by omega) (by decide)]
  simp only [Option.bind_some]
  rw [D5 _ _ _ (by simp;omega) (by decide)]
  rfl
 ·exact .inr ⟨h0,by rw [if_pos (a4d h0)]⟩
theorem HV.snoc {h:History} {c:Change} {x:Inventory} (hh:HV h) (hx:a2M h.Base h.Changes=some x) (h0:(apN x c).2=0) (hn:h.Changes.length<256):HV ⟨h.Base,h.Changes ++ [c]⟩:=⟨hh.b,by show (h.Changes ++ [c]).length≤256;simp;omega,by
 show (a2M h.Base (h.Changes ++ [c])).isSome=true
 rw [a8n hx,if_pos h0];rfl⟩
structure HD (h:History) (n:Nat):Prop where
 v:HV h
 c:∀ c∈h.Changes,CD c
 n:h.Changes.length≤n
theorem dhistory {d:Dice} (hd:DOK d) {n:Nat} (hn:n≤100):∃ h d',a0r d (n:Int)=some (h,d')∧HD h n∧DOK d':=by
 unfold a0r
 obtain ⟨base,d0,e0,hvb,_,hd0⟩:=b3K hd (n:=4) (by decide)
 rw [show Y5 d 4=some (base,d0) from e0]
 simp only [Option.bind_some]
 rw [M5 (by omega)]
 obtain ⟨x,d1,e1,x0,x1,hd1⟩:=I4 hd0 (n:=((n+1:Nat):Int)) (by omega) (by omega)
 rw [e1]
 simp only [Option.bind_some]
 obtain ⟨m,rfl⟩:∃ m:Nat,x=(m:Int):=⟨x.toNat,by omega⟩
 obtain ⟨r,e,h,d',rfl,h1,h2⟩:=P8 (b1:=a2i) (fun k s=>∃ (d:Dice) (h:History),s=(d.L,d.At,h.Base.Channels,h.Changes,(k:Int))∧DOK d∧HD h (m - k)∧k≤m) (fun r=>∃ (h:History) (d:Dice),r=(d.L,d.At,h.Base.Channels,h.Changes)∧HD h m∧DOK d) (fun k s ⟨d,h,es,hd,hh,hk⟩=>by
  subst es
  unfold a2i
  simp only
  by_cases hk0:0<k
  ·rw [if_pos (decide_eq_true (by omega))]
   have hcf:∀ c∈h.Changes,CF c:=fun c hc=>(hh.c c hc).cf
   have hlen:=hh.n
   have hf:HF h:=⟨hh.v.b.fi,by omega,hcf⟩
   obtain ⟨y,hy,hvy,hver⟩:=hh.v.ver hcf (Nat.le_refl _)
   rw [show a1P ⟨⟨h.Base.Channels⟩,h.Changes⟩ (h.Changes.length:Int)=some (y,0) from (ver_ok hf _).2.trans (by rw [hver])]
   simp only [Option.bind_some]
   obtain ⟨c,d2,e2,hc,hd2⟩:=b4p (d:=d) hd hvy
   rw [show V4 ⟨d.L,d.At⟩ y=some (c,d2) from e2]
   simp only [Option.bind_some]
   obtain ⟨z,hz,hvz,hap⟩:=b4R hh.v hh.c hc.cf (by omega)
   have hw:w64 ((k:Int) - 1)=((k - 1:Nat):Int):=by rw [F4 (by omega) (by omega)];omega
   unfold a0s
   simp only [Option.bind_some,hw]
   rcases hap with ⟨h0,hap⟩ | ⟨h0,hap⟩
   ·rw [show a1s ⟨⟨h.Base.Channels⟩,h.Changes⟩ c=some (⟨h.Base,h.Changes ++ [c]⟩,0) from hap]
    refine .inl ⟨_,k - 1,rfl,⟨d2,⟨h.Base,h.Changes ++ [c]⟩,rfl,hd2,⟨hh.v.snoc hz h0 (by omega),fun e he=>?_,?_⟩,by omega⟩,by omega⟩
    ·rcases List.mem_append.1 he with he | he
     ·exact hh.c e he
     ·rcases List.mem_singleton.1 he with rfl;exact hc
    ·show (h.Changes ++ [c]).length≤_
     simp;omega
   ·rw [show a1s ⟨⟨h.Base.Channels⟩,h.Changes⟩ c=some (⟨⟨[]⟩,[]⟩,(apN z c).2) from hap]
    simp only [Option.bind_some]
    rw [if_neg (by simpa using h0)]
    exact .inl ⟨_,k - 1,rfl,⟨d2,h,rfl,hd2,⟨hh.v,hh.c,by omega⟩,by omega⟩,by omega⟩
  ·rw [if_neg (by simp;omega)]
   have hk0:k=0:=by omega
   subst hk0
   exact .inr ⟨_,rfl,h,d,rfl,hh,hd⟩) m (d1.L,d1.At,base.Channels,[],(m:Int)) ⟨d1,⟨base,[]⟩,rfl,hd1,⟨⟨hvb,by simp,rfl⟩,fun c hc=>(by cases hc),by simp⟩,Nat.le_refl _⟩
 rw [e]
 exact ⟨h,d',rfl,⟨h1.v,h1.c,by have:=h1.n;omega⟩,h2⟩
end Go.Proofs.YteanekphncdhiaaGreat.Sh
namespace Go.Proofs.YteanekphncdhiaaGreat.Sh
open Go
set_option linter.unusedVariables false
set_option linter.unusedSimpArgs false
theorem VI.one {inv:Inventory} (h:VI inv) {s:SourceID} {e f:Epoch} (he:InI inv s e) (hf:InI inv s f) (ho:a4E e f):e=f:=
 (h.toSI.vl s).one ((h.toSI.ep s e).2 he) ((h.toSI.ep s f).2 hf) ho
theorem VI.novr {inv:Inventory} (h:VI inv) (c:Change):¬ Over inv c:=by
 have:=h.n
 have:=h.ep32 c.Source
 unfold Over
 omega
theorem NB.novr {out:Inventory} {n:Nat} (h:NB out n) (hn:n≤32) (c:Change):¬ Over out c:=by
 have:=h.1
 have:(epL c.Source out.Channels).length≤n:=by
  rcases a3n c.Source out.Channels with ⟨h1,_⟩ | ⟨d,hd,_,h1⟩
  ·rw [h1];exact Nat.zero_le _
  ·rw [h1];exact h.2 d hd
 unfold Over
 omega
theorem ap_nb {inv:Inventory} {c:Change} {n:Nat} (hv:VI inv) (hk:CK c) (hc:CF c) (hf:Found inv c) (hn:¬ a8f inv c) (hb:NB inv n) (h32:n<32):∃ out,apN inv c=(out,0)∧Done inv c out:=by
 have h:=(a6q hv.fi hc).2.2
 revert h
 generalize apN inv c=r
 intro h
 cases h with
 | bad h=>exact absurd ⟨hv,hk⟩ h
 | none _ h=>exact absurd hf h
 | clash _ _ h=>exact absurd h hn
 | over _ _ _ o h h'=>exact absurd h' ((h.nb n hb).novr (by omega) c)
 | ok _ _ _ o h h'=>exact ⟨o,rfl,hv,hk,hf,hn,h,h'⟩
theorem a7L {a b:Int} (h:a=b):(a == b)=true:=by simpa using h
def noCh:Change:=⟨0,b1N,0,noEp⟩
inductive InvTo (inv:Inventory) (c:Change):Change × Int→Prop where
 | bad (h:(apN inv c).2≠0):InvTo inv c (noCh,(apN inv c).2)
 | add (h:(apN inv c).2=0) (h0:c.Kind=0):InvTo inv c (⟨1,c.Source,c.From,noEp⟩,0)
 | rem (h:(apN inv c).2=0) (h0:c.Kind=1) (e:Epoch) (he:InI inv c.Source e) (hf:e.From=c.From):InvTo inv c (⟨0,c.Source,c.From,e⟩,0)
 | rep (h:(apN inv c).2=0) (h0:c.Kind=2) (e:Epoch) (he:InI inv c.Source e) (hf:e.From=c.From):InvTo inv c (⟨2,c.Source,c.Epoch.From,e⟩,0)
def exS:SourceID:=⟨⟨#[65]⟩,⟨#[66]⟩,ByteArray.empty,⟨#[72,72,90]⟩⟩
def exE (t:Int):Epoch:=⟨10,t,⟨100,1⟩,⟨0,0,0⟩,⟨[]⟩⟩
theorem a9z:a5p exS=true:=by decide
theorem exE_ok {t:Int} (h:10<t) (h1:t≤100):VE (exE t):=
 ⟨show (0:Int)≤10 by decide,h,show t≤9007199254740992 by omega,show RV ⟨100,1⟩ from ⟨by decide,by decide,by decide,by decide,by decide⟩,show RP [] from ⟨fun s hs=>(by cases hs),by decide,by decide⟩,
  show (-1048576:Int)≤0∧(0:Int)≤1048576 by decide,show (-1048576:Int)≤0∧(0:Int)≤1048576 by decide,show (-16384:Int)≤0∧(0:Int)≤1048576 by decide⟩
theorem sane20:a4W=some true:=by
 have v1:=exE_ok (t:=20) (by decide) (by decide)
 have v2:=exE_ok (t:=25) (by decide) (by decide)
 have hn:∀ s e,¬ InI ⟨[]⟩ s e:=fun s e ⟨c,hc,_⟩=>by cases hc
 obtain ⟨x,e1,d1⟩:=ap_nb (inv:=⟨[]⟩) (c:=⟨0,exS,10,exE 20⟩) b2D ⟨a9z,.inl ⟨rfl,v1,rfl⟩⟩ ⟨a6R a9z,v1.ce.ef⟩ (.inl rfl) (fun h=>by obtain ⟨_,e,he,_⟩:=h;exact hn _ _ he.1) nb_nil (by decide)
 have m1:∀ s e,InI x s e↔s=exS∧e=exE 20:=fun s e=>by
  rw [d1.res.mem]
  unfold After
  constructor
  ·rintro (h | h)
   ·exact absurd h.1 (hn _ _)
   ·exact ⟨h.1,h.2.2⟩
  ·exact fun h=>.inr ⟨h.1,by decide,h.2⟩
 obtain ⟨y,e2,d2⟩:=ap_nb (inv:=x) (c:=⟨2,exS,10,exE 25⟩) d1.out ⟨a9z,.inr (.inr ⟨rfl,v2⟩)⟩ ⟨a6R a9z,v2.ce.ef⟩ (.inr ⟨exE 20,(m1 _ _).2 ⟨rfl,rfl⟩,rfl⟩) (fun h=>by
  obtain ⟨_,e,he,_⟩:=h
  have:=((m1 _ _).1 he.1).2
  subst this
  exact he.2 (by decide) rfl) (d1.res.nb 0 nb_nil) (by decide)
 have m2:∀ s e,InI y s e↔s=exS∧e=exE 25:=fun s e=>by
  rw [d2.res.mem]
  unfold After
  constructor
  ·rintro (⟨h,h'⟩ | h)
   ·obtain ⟨rfl,rfl⟩:=(m1 _ _).1 h
    exact absurd rfl (h' rfl (by decide))
   ·exact ⟨h.1,h.2.2⟩
  ·exact fun h=>.inr ⟨h.1,by decide,h.2⟩
 have a1:∀ s z e,EpA (epL s x.Channels) z e↔(s=exS∧e=exE 20)∧e.From≤z∧z<e.To:=fun s z e=>by unfold EpA;rw [d1.out.toSI.ep,m1]
 have a2:∀ s z e,EpA (epL s y.Channels) z e↔(s=exS∧e=exE 25)∧e.From≤z∧z<e.To:=fun s z e=>by unfold EpA;rw [d2.out.toSI.ep,m2]
 have hA:AffP x y [⟨exS,[⟨20,25⟩]⟩]:=by
  refine ⟨List.pairwise_singleton _ _,fun f hf=>?_,fun s z=>?_⟩
  ·rcases List.mem_singleton.1 hf with rfl
   refine ⟨⟨fun t ht=>?_,List.pairwise_singleton _ _⟩,by simp,by simp⟩
   rcases List.mem_singleton.1 ht with rfl;decide
  ·unfold a4L
   simp only [a1,a2]
   constructor
   ·rintro ⟨f,hf,rfl,hm⟩
    rcases List.mem_singleton.1 hf with rfl
    rw [a0k] at hm
    simp only at hm
    refine ⟨⟨exE 25,.inr ⟨⟨rfl,rfl⟩,by show (10:Int)≤z;omega,hm.2⟩⟩,?_⟩
    rintro ⟨e,f,⟨⟨_,rfl⟩,h⟩,_⟩
    have:z<20:=h.2
    omega
   ·rintro ⟨⟨e,h⟩,hn⟩
    have hs:s=exS:=h.elim (fun h=>h.1.1) (fun h=>h.1.1)
    refine ⟨_,List.mem_singleton.2 rfl,hs.symm,?_⟩
    rw [a0k]
    have h10:10≤z∧z<25:=by
     rcases h with ⟨⟨_,rfl⟩,h1,h2⟩ | ⟨⟨_,rfl⟩,h1,h2⟩
     ·have h1:10≤z:=h1
      have h2:z<20:=h2
      omega
     ·have h1:10≤z:=h1
      have h2:z<25:=h2
      omega
    by_cases h20:z<20
    ·exact absurd ⟨exE 20,exE 25,⟨⟨hs,rfl⟩,h10.1,h20⟩,⟨⟨hs,rfl⟩,h10.1,h10.2⟩,rfl,rfl,rfl⟩ hn
    ·exact ⟨by show (20:Int)≤z;omega,h10.2⟩
 have hL:affN x y=[⟨exS,[⟨20,25⟩]⟩]:=by
  rw [b0w ⟨d1.out,d2.out⟩]
  exact (b1X d1.out d2.out).uniq hA fun _ _=>Iff.rfl
 have f1:M3 ⟨[]⟩ ⟨0,exS,10,exE 20⟩=some (x,0):=by rw [(a6q b2D.fi ⟨a6R a9z,v1.ce.ef⟩).1,e1]
 have f2:M3 x ⟨2,exS,10,exE 25⟩=some (y,0):=by rw [(a6q d1.out.fi ⟨a6R a9z,v2.ce.ef⟩).1,e2]
 have f3:=(a9W d1.out.fi d2.out.fi).1
 rw [hL] at f3
 unfold a4W
 rw [show M3 (⟨([]:List Channel)⟩:Inventory) (⟨0,(⟨(⟨#[65]⟩:ByteArray),(⟨#[66]⟩:ByteArray),ByteArray.empty,(⟨#[72,72,90]⟩:ByteArray)⟩:SourceID),10,(⟨10,20,(⟨100,1⟩:Rate),(⟨0,0,0⟩:Position),(⟨([]:List Stage)⟩:Response)⟩:Epoch)⟩:Change)=some (x,0) from f1]
 simp only [Option.bind_some]
 rw [show M3 x (⟨2,(⟨(⟨#[65]⟩:ByteArray),(⟨#[66]⟩:ByteArray),ByteArray.empty,(⟨#[72,72,90]⟩:ByteArray)⟩:SourceID),10,(⟨10,25,(⟨100,1⟩:Rate),(⟨0,0,0⟩:Position),(⟨([]:List Stage)⟩:Response)⟩:Epoch)⟩:Change)=some (y,0) from f2]
 simp only [Option.bind_some]
 rw [f3]
 simp only [Option.bind_some]
 have i0:ix ([⟨exS,[⟨20,25⟩]⟩]:List Affected) 0=some ⟨exS,[⟨20,25⟩]⟩:=rfl
 rw [if_pos (by simp),i0]
 simp only [Option.bind_some]
 have hs:((exS.Network == (⟨#[65]⟩:ByteArray)) && ((exS.Station == (⟨#[66]⟩:ByteArray)) && ((exS.Location == ByteArray.empty) && ((exS.Channel == (⟨#[72,72,90]⟩:ByteArray)) && true))))=true:=(b2A (a:=exS) (b:=exS)).2 rfl
 rw [hs,if_pos rfl,b5o _ (by simp)]
 rfl
end Go.Proofs.YteanekphncdhiaaGreat.Sh
namespace Go.Proofs.YteanekphncdhiaaGreat.Sh
open Go
set_option linter.unusedVariables false
set_option linter.unusedSimpArgs false
theorem rat_ok {inv:Inventory} (hv:VI inv) (s:SourceID) (t:Int):∃ r,a5h inv s t=some r∧((r.2≠0∧∀ e,¬ EpA (epL s inv.Channels) t e)∨(r.2=0∧EpA (epL s inv.Channels) t r.1)):=by
 unfold a5h
 rw [hv.rvalid,b0P hv.ci]
 simp only [Option.bind_some,Bool.not_true,Bool.false_eq_true,if_false]
 have h32:=hv.ep32 s
 obtain ⟨q,hq⟩:∃ q,a7k s inv.Channels=q:=⟨_,rfl⟩
 have hqe:q.1.Epochs=epL s inv.Channels:=by rw [← hq,a3w]
 rw [hq,← hqe]
 rw [← hqe] at h32
 obtain ⟨r,e,hr⟩:=P8 (b1:=a7t t q) (fun k w=>∃ i:Nat,w=(i:Int)∧k+i=q.1.Epochs.length∧∀ e∈q.1.Epochs.take i,¬ (e.From≤t∧t<e.To))
  (fun r=>(r.2≠0∧∀ e,¬ EpA q.1.Epochs t e)∨(r.2=0∧EpA q.1.Epochs t r.1)) (fun k w ⟨i,hi,hk,hall⟩=>by
  subst hi
  unfold a7t
  by_cases hil:i<q.1.Epochs.length
  ·rw [if_pos (decide_eq_true (by omega)),o9 _ _ hil]
   simp only [Option.bind_some,iteT]
   by_cases hc:q.1.Epochs[i].From≤t∧t<q.1.Epochs[i].To
   ·rw [decide_eq_true hc.1,decide_eq_true hc.2]
    exact .inr ⟨_,rfl,.inr ⟨rfl,List.getElem_mem hil,hc⟩⟩
   ·have:(decide (q.1.Epochs[i].From≤t) && decide (t<q.1.Epochs[i].To))=false:=by rw [← Bool.not_eq_true,Bool.and_eq_true,decide_eq_true_eq,decide_eq_true_eq];exact hc
    rw [this,M5 (by omega)]
    refine .inl ⟨_,k - 1,rfl,⟨i+1,rfl,by omega,fun e he=>?_⟩,by omega⟩
    rw [C8 hil] at he
    rcases List.mem_append.1 he with he | he
    ·exact hall e he
    ·rcases List.mem_singleton.1 he with rfl;exact hc
  ·rw [if_neg (by simp;omega)]
   rw [List.take_of_length_le (by omega)] at hall
   exact .inr ⟨_,rfl,.inl ⟨by decide,fun e he=>hall e he.1 he.2⟩⟩) q.1.Epochs.length 0 ⟨0,rfl,rfl,by simp⟩
 exact ⟨r,e,hr⟩
theorem Done.other {inv:Inventory} {c:Change} {out:Inventory} (h:Done inv c out) {s:SourceID} (hs:s≠c.Source):epL s out.Channels=epL s inv.Channels:=
 (h.out.toSI.vl s).uniq (h.vi.toSI.vl s) fun e=>by
  rw [h.out.toSI.ep,h.vi.toSI.ep,h.res.mem]
  exact ⟨fun h=>h.elim (fun h=>h.1) (fun h=>absurd h.1 hs),fun h=>.inl ⟨h,fun h=>absurd h hs⟩⟩
end Go.Proofs.YteanekphncdhiaaGreat.Sh
namespace Go.Proofs.YteanekphncdhiaaGreat.Sh
open Go
set_option linter.unusedVariables false
set_option linter.unusedSimpArgs false
end Go.Proofs.YteanekphncdhiaaGreat.Sh
namespace Go.Proofs.YteanekphncdhiaaGreat.Sh
open Go
set_option linter.unusedVariables false
set_option linter.unusedSimpArgs false
structure MT (p q:List Span) (i k:Nat) (out:List Span):Prop where
 vs:VS out
 mem:∀ z,Mem out z↔Mem p z∧Mem q z∧¬ (Mem (p.drop i) z∧Mem (q.drop k) z)
 ord:∀ s∈out,(∀ u∈p.drop i,s.To<u.From)∨(∀ u∈q.drop k,s.To<u.From)
 len:out.length≤i+k
 eb:∀ lo hi,EB lo hi p→EB lo hi q→EB lo hi out
theorem MT.zero {p q:List Span}:MT p q 0 0 []:=⟨VS.nil,fun z=>by
 simp only [List.drop_zero]
 exact ⟨fun h=>absurd h Mem.nil,fun ⟨h1,h2,h3⟩=>absurd ⟨h1,h2⟩ h3⟩,fun s h=>(by cases h),Nat.le_refl _,fun _ _ _ _ s h=>(by cases h)⟩
theorem MT.step {p q out out':List Span} {i k:Nat} (hp:VS p) (hq:VS q) (h:MT p q i k out) (hi:i<p.length) (hk:k<q.length)
  (ho:out'=if max p[i].From q[k].From<min p[i].To q[k].To then out ++ [⟨max p[i].From q[k].From,min p[i].To q[k].To⟩] else out) :
  (p[i].To<q[k].To→MT p q (i+1) k out')∧(q[k].To≤p[i].To→MT p q i (k+1) out'):=by
 have nx:=hp.ne _ (List.getElem_mem hi)
 have ny:=hq.ne _ (List.getElem_mem hk)
 have hvs:VS out':=by
  rw [ho]
  split
  ·next hlt=>
   refine h.vs.snoc hlt (fun s hs=>?_)
   simp only
   rcases h.ord s hs with h1 | h1
   ·have:=h1 p[i] (by rw [List.drop_eq_getElem_cons hi];exact List.mem_cons_self)
    omega
   ·have:=h1 q[k] (by rw [List.drop_eq_getElem_cons hk];exact List.mem_cons_self)
    omega
  ·exact h.vs
 have hmem:∀ z,Mem out' z↔Mem out z∨((p[i].From≤z∧z<p[i].To)∧(q[k].From≤z∧z<q[k].To)):=by
  intro z
  rw [ho]
  split
  ·rw [mem_append,a0k]
   simp only
   constructor
   ·rintro (h | h)
    ·exact .inl h
    ·exact .inr (by omega)
   ·rintro (h | h)
    ·exact .inl h
    ·exact .inr (by omega)
  ·constructor
   ·exact .inl
   ·rintro (h | h)
    ·exact h
    ·omega
 have hsub:∀ s∈out',s∈out∨(s.To=min p[i].To q[k].To):=by
  intro s hs
  rw [ho] at hs
  split at hs
  ·rcases List.mem_append.1 hs with hs | hs
   ·exact .inl hs
   ·rcases List.mem_singleton.1 hs with rfl;exact .inr rfl
  ·exact .inl hs
 have hlen:out'.length≤out.length+1:=by rw [ho];split <;> simp
 have heb:∀ lo hi,EB lo hi p→EB lo hi q→EB lo hi out':=by
  intro lo hi' hp' hq'
  rw [ho]
  have b1:=hp' _ (List.getElem_mem hi)
  have b2:=hq' _ (List.getElem_mem hk)
  split
  ·exact (h.eb lo hi' hp' hq').app (EB.one (by simp only;omega))
  ·exact h.eb lo hi' hp' hq'
 have xA:∀ z,(p[i].From≤z∧z<p[i].To)→Mem p z:=fun z hz=>⟨_,List.getElem_mem hi,hz⟩
 have yB:∀ z,(q[k].From≤z∧z<q[k].To)→Mem q z:=fun z hz=>⟨_,List.getElem_mem hk,hz⟩
 have p1:∀ z,Mem (p.drop (i+1)) z→p[i].To<z:=fun z hz=>hp.laterM hi hz
 have q1:∀ z,Mem (q.drop (k+1)) z→q[k].To<z:=fun z hz=>hq.laterM hk hz
 have hl:=h.len
 constructor
 ·intro hc
  refine ⟨hvs,fun z=>?_,fun s hs=>?_,by omega,heb⟩
  ·rw [hmem,h.mem,a8Z hi,a8Z hk]
   have a1:=xA z;have a2:=yB z;have a3:=p1 z;have a4:=q1 z
   constructor
   ·rintro (⟨h1,h2,h3⟩ | ⟨h1,h2⟩)
    ·exact ⟨h1,h2,fun h=>h3 ⟨.inr h.1,h.2⟩⟩
    ·exact ⟨a1 h1,a2 h2,fun h=>by have:=a3 h.1;omega⟩
   ·rintro ⟨h1,h2,h3⟩
    by_cases hx:p[i].From≤z∧z<p[i].To
    ·by_cases hy:q[k].From≤z∧z<q[k].To
     ·exact .inr ⟨hx,hy⟩
     ·refine .inl ⟨h1,h2,fun h=>?_⟩
      rcases h.2 with h | h
      ·exact hy h
      ·have:=a4 h;omega
    ·refine .inl ⟨h1,h2,fun h=>?_⟩
     rcases h.1 with h' | h'
     ·exact hx h'
     ·exact h3 ⟨h',h.2⟩
  ·rcases hsub s hs with hs | hs
   ·rcases h.ord s hs with h1 | h1
    ·exact .inl fun u hu=>h1 u (by rw [List.drop_eq_getElem_cons hi];exact List.mem_cons_of_mem _ hu)
    ·exact .inr h1
   ·refine .inl fun u hu=>?_
    have:=hp.later hi u hu
    omega
 ·intro hc
  refine ⟨hvs,fun z=>?_,fun s hs=>?_,by omega,heb⟩
  ·rw [hmem,h.mem,a8Z hi,a8Z hk]
   have a1:=xA z;have a2:=yB z;have a3:=p1 z;have a4:=q1 z
   constructor
   ·rintro (⟨h1,h2,h3⟩ | ⟨h1,h2⟩)
    ·exact ⟨h1,h2,fun h=>h3 ⟨h.1,.inr h.2⟩⟩
    ·exact ⟨a1 h1,a2 h2,fun h=>by have:=a4 h.2;omega⟩
   ·rintro ⟨h1,h2,h3⟩
    by_cases hy:q[k].From≤z∧z<q[k].To
    ·by_cases hx:p[i].From≤z∧z<p[i].To
     ·exact .inr ⟨hx,hy⟩
     ·refine .inl ⟨h1,h2,fun h=>?_⟩
      rcases h.1 with h | h
      ·exact hx h
      ·have:=a3 h;omega
    ·refine .inl ⟨h1,h2,fun h=>?_⟩
     rcases h.2 with h' | h'
     ·exact hy h'
     ·exact h3 ⟨h.1,h'⟩
  ·rcases hsub s hs with hs | hs
   ·rcases h.ord s hs with h1 | h1
    ·exact .inl h1
    ·exact .inr fun u hu=>h1 u (by rw [List.drop_eq_getElem_cons hk];exact List.mem_cons_of_mem _ hu)
   ·refine .inr fun u hu=>?_
    have:=hq.later hk u hu
    omega
structure MS (p q r:List Span):Prop where
 vs:VS r
 mem:∀ z,Mem r z↔Mem p z∧Mem q z
 len:r.length≤p.length+q.length
 eb:∀ lo hi,EB lo hi p→EB lo hi q→EB lo hi r
theorem b5e {p q:List Span} (hp:VS p) (hq:VS q) (hl:p.length+q.length≤100000):∃ r,o5 (a6P p q) ([],0,0)=some r∧MS p q r:=by
 refine P8 (fun n s=>∃ i k:Nat,s.2.1=(i:Int)∧s.2.2=(k:Int)∧i≤p.length∧k≤q.length∧n+i+k=p.length+q.length∧MT p q i k s.1) (MS p q) ?_ (p.length+q.length) _ ⟨0,0,rfl,rfl,Nat.zero_le _,Nat.zero_le _,rfl,MT.zero⟩
 rintro n ⟨out,i',k'⟩ ⟨i,k,hi',hk',h1,h2,hn,h⟩
 simp only at hi' hk' h
 subst hi'
 subst hk'
 have hol:=h.len
 unfold a6P
 simp only
 by_cases hc:i<p.length∧k<q.length
 ·left
  obtain ⟨hi,hk⟩:=hc
  rw [if_pos (by simp;omega),o9 _ _ hi,o9 _ _ hk]
  simp only [Option.bind_some]
  have hs:a7U (⟨max p[i].From q[k].From,min p[i].To q[k].To⟩:Span)=some (decide (max p[i].From q[k].From<min p[i].To q[k].To)):=rfl
  rw [hs]
  simp only [Option.bind_some]
  have key:∀ o:List Span,a0D p q (out,(i:Int),(k:Int)) o=if p[i].To<q[k].To then some (.inl (o,((i+1:Nat):Int),(k:Int))) else some (.inl (o,(i:Int),((k+1:Nat):Int))):=by
   intro o
   unfold a0D a4S
   simp only
   rw [o9 _ _ hi,o9 _ _ hk,a6i (n:=i) (by omega),a6i (n:=k) (by omega)]
   simp only [Option.bind_some]
   by_cases ht:p[i].To<q[k].To
   ·rw [if_pos (decide_eq_true ht),if_pos ht]
   ·rw [if_neg (by simpa using ht),if_neg ht]
  have hstep:=MT.step hp hq h hi hk (out':=if max p[i].From q[k].From<min p[i].To q[k].To then out ++ [⟨max p[i].From q[k].From,min p[i].To q[k].To⟩] else out) rfl
  have hbody:(if decide (max p[i].From q[k].From<min p[i].To q[k].To)=true then (Q7 16 out [(⟨max p[i].From q[k].From,min p[i].To q[k].To⟩:Span)]).bind fun l=>a0D p q (out,(i:Int),(k:Int)) l else a0D p q (out,(i:Int),(k:Int)) out)
   =a0D p q (out,(i:Int),(k:Int)) (if max p[i].From q[k].From<min p[i].To q[k].To then out ++ [⟨max p[i].From q[k].From,min p[i].To q[k].To⟩] else out):=by
   by_cases hlt:max p[i].From q[k].From<min p[i].To q[k].To
   ·rw [if_pos (decide_eq_true hlt),if_pos hlt,D5 _ _ _ (by simp;omega) (by decide)]
    rfl
   ·rw [if_neg (by simpa using hlt),if_neg hlt]
  rw [hbody,key]
  by_cases ht:p[i].To<q[k].To
  ·rw [if_pos ht]
   exact ⟨_,n - 1,rfl,⟨i+1,k,rfl,rfl,by omega,h2,by omega,hstep.1 ht⟩,by omega⟩
  ·rw [if_neg ht]
   exact ⟨_,n - 1,rfl,⟨i,k+1,rfl,rfl,h1,by omega,by omega,hstep.2 (by omega)⟩,by omega⟩
 ·right
  rw [if_neg (by simp;omega)]
  refine ⟨out,rfl,h.vs,fun z=>?_,by omega,h.eb⟩
  rw [h.mem]
  have hnil:¬ (Mem (p.drop i) z∧Mem (q.drop k) z):=by
   rintro ⟨g1,g2⟩
   rcases Nat.lt_or_ge i p.length with hi | hi
   ·rw [List.drop_eq_nil_of_le (show q.length≤k by omega)] at g2
    exact Mem.nil g2
   ·rw [List.drop_eq_nil_of_le hi] at g1
    exact Mem.nil g1
  exact ⟨fun ⟨a,b,_⟩=>⟨a,b⟩,fun ⟨a,b⟩=>⟨a,b,hnil⟩⟩
theorem cut_ok {a:List Span} (ha:a.length≤5000) (x y:Int):∃ r,a9o a x y=some r∧(r=[]↔¬ ∃ z,Mem a z∧x≤z∧z<y):=by
 unfold a9o a9O
 obtain ⟨p,ep,hp⟩:=a5z (l:=a) (by omega)
 obtain ⟨q,eq,hq⟩:=a5z (l:=[⟨x,y⟩]) (by simp)
 rw [ep,eq]
 simp only [Option.bind_some]
 have l1:=hp.len
 have l2:=hq.len
 simp only [List.length_cons,List.length_nil] at l2
 obtain ⟨r,er,hr⟩:=b5e hp.vs hq.vs (by omega)
 rw [er]
 refine ⟨r,rfl,fun h=>?_,fun h=>?_⟩
 ·rintro ⟨z,h1,h2⟩
  have:=(hr.mem z).2 ⟨(hp.mem z).2 h1,(hq.mem z).2 (a0k.2 h2)⟩
  rw [h] at this
  exact Mem.nil this
 ·by_cases hn:r=[]
  ·exact hn
  ·obtain ⟨z,hz⟩:=b4K hr.vs hn
   obtain ⟨h1,h2⟩:=(hr.mem z).1 hz
   exact absurd ⟨z,(hp.mem z).1 h1,a0k.1 ((hq.mem z).1 h2)⟩ h
def Hit (l:List Affected) (s:SourceID) (x y:Int):Prop:=∃ f∈l,f.Source=s∧∃ z,Mem f.Spans z∧x≤z∧z<y
noncomputable def a8o (l:List Affected) (s:SourceID) (x y:Int):Bool:=@decide (Hit l s x y) (Classical.propDecidable _)
theorem a7l {l:List Affected} {s:SourceID} {x y:Int}:a8o l s x y=true↔Hit l s x y:=by unfold a8o;exact @decide_eq_true_iff _ (Classical.propDecidable _)
theorem touch1 {f:Affected} (hf:f.Spans.length≤5000) (s:SourceID) (x y:Int):R9 f s x y=some (a8o [f] s x y):=by
 obtain ⟨r,e,h⟩:=cut_ok hf x y
 unfold R9
 simp only [a9q]
 have hh:a8o [f] s x y=true↔f.Source=s∧r≠[]:=by
  rw [a7l]
  unfold Hit
  constructor
  ·rintro ⟨g,hg,h1,h2⟩
   rcases List.mem_singleton.1 hg with rfl
   exact ⟨h1,fun e=>(h.1 e) h2⟩
  ·rintro ⟨h1,h2⟩
   refine ⟨f,List.mem_singleton.2 rfl,h1,?_⟩
   exact Classical.byContradiction fun hn=>h2 (h.2 hn)
 by_cases hs:f.Source=s
 ·rw [if_pos (decide_eq_true hs),e]
  simp only [Option.bind_some]
  congr 1
  rw [Bool.eq_iff_iff,hh,decide_eq_true_eq]
  cases r <;> simp [hs]
 ·rw [if_neg (by simpa using hs)]
  simp only [Option.bind_some]
  congr 1
  rw [eq_comm,← Bool.not_eq_true,hh]
  exact fun h=>hs h.1
theorem b4v (l:List Affected) (s:SourceID) (x y:Int):(l.any fun f=>a8o [f] s x y)=a8o l s x y:=by
 rw [Bool.eq_iff_iff,List.any_eq_true,a7l]
 constructor
 ·rintro ⟨f,hf,h⟩
  obtain ⟨g,hg,h'⟩:=a7l.1 h
  rcases List.mem_singleton.1 hg with rfl
  exact ⟨_,hf,h'⟩
 ·rintro ⟨f,hf,h⟩
  exact ⟨f,hf,a7l.2 ⟨f,List.mem_singleton.2 rfl,h⟩⟩
theorem b4b {l:List Affected} (hl:l.length≤1000000) (hf:∀ f∈l,f.Spans.length≤5000) (s:SourceID) (x y:Int):a2z l s x y=some (a8o l s x y):=by
 unfold a2z K5 M8
 obtain ⟨r,e,hr⟩:=P8 (b1:=K6 l (fun y0=>R9 y0 s x y)) (fun k q=>∃ i:Nat,q=(i:Int)∧k+i=l.length∧∀ f∈l.take i,a8o [f] s x y=false)
  (fun r=>(0≤r↔a8o l s x y=true)) (fun k q ⟨i,hi,hk,hall⟩=>by
  subst hi
  unfold K6
  by_cases hil:i<l.length
  ·rw [if_pos (decide_eq_true (by omega)),o9 _ _ hil]
   simp only [Option.bind_some]
   rw [touch1 (hf _ (List.getElem_mem hil))]
   simp only [Option.bind_some]
   cases hb:a8o [l[i]] s x y with
   | true=>
    refine .inr ⟨_,rfl,⟨fun _=>?_,fun _=>by omega⟩⟩
    rw [← b4v,List.any_eq_true]
    exact ⟨_,List.getElem_mem hil,hb⟩
   | false=>
    refine .inl ⟨((i+1:Nat):Int),k - 1,?_,⟨i+1,rfl,by omega,fun f hf'=>?_⟩,by omega⟩
    ·rw [M5 (by omega)];rfl
    ·rw [C8 hil] at hf'
     rcases List.mem_append.1 hf' with hf' | hf'
     ·exact hall f hf'
     ·rcases List.mem_singleton.1 hf' with rfl;exact hb
  ·rw [if_neg (by simp;omega)]
   rw [List.take_of_length_le (by omega)] at hall
   refine .inr ⟨_,rfl,⟨fun h=>absurd h (by decide),fun h=>?_⟩⟩
   rw [← b4v,List.any_eq_true] at h
   obtain ⟨f,h1,h2⟩:=h
   rw [hall f h1] at h2
   cases h2) l.length 0 ⟨0,rfl,rfl,by simp⟩
 rw [e]
 simp only [Option.bind_some]
 congr 1
 rw [Bool.eq_iff_iff,decide_eq_true_eq,hr]
theorem AffP.hit {a b:Inventory} {l:List Affected} (h:AffP a b l) (s:SourceID) (x y:Int):Hit l s x y↔∃ z,a4L (epL s a.Channels) (epL s b.Channels) z∧x≤z∧z<y:=by
 constructor
 ·rintro ⟨f,hf,rfl,z,h1,h2⟩
  exact ⟨z,(h.at hf z).1 h1,h2⟩
 ·rintro ⟨z,h1,h2⟩
  obtain ⟨f,hf,hs,hm⟩:=(h.mem s z).2 h1
  exact ⟨f,hf,hs,z,hm,h2⟩
end Go.Proofs.YteanekphncdhiaaGreat.Sh
namespace Go.Proofs.YteanekphncdhiaaGreat.Sh
open Go
set_option linter.unusedVariables false
set_option linter.unusedSimpArgs false
theorem b3t {l:List Span} (h:VS l) (hl:l.length≤1000000):a5D l=some true:=by
 have hp:=List.pairwise_iff_getElem.1 h.ap
 unfold a5D
 obtain ⟨r,er,rfl⟩:=a0o (body:=a3G l) (fun (_:Unit) i=>i) l.length (fun _ _=>True) (fun r=>r=true) (fun i hi a _=>by
  refine ⟨(),?_,trivial⟩
  have hne:=h.ne _ (List.getElem_mem hi)
  unfold a3G
  rw [if_pos (decide_eq_true (by omega)),o9 _ _ hi]
  simp only [Option.bind_some]
  rw [if_neg (by simp;omega)]
  rcases i with _ | i
  ·rw [if_neg (by simp)]
   simp only [Option.bind_some,Bool.false_eq_true,if_false]
   rw [M5 (by omega)]
  ·have hw:w64 (((i+1:Nat):Int) - 1)=(i:Int):=by rw [F4 (by omega) (by omega)];omega
   have:=hp i (i+1) (by omega) hi (by omega)
   rw [if_pos (decide_eq_true (by omega)),hw,o9 _ _ (show i<l.length by omega)]
   simp only [Option.bind_some]
   rw [decide_eq_false (by omega)]
   simp only [Bool.false_eq_true,if_false]
   rw [M5 (by omega)]) (fun a _=>by
  unfold a3G
  rw [if_neg (by simp)]
  exact ⟨_,rfl,rfl⟩) () trivial
 exact er
theorem verN_vi' {h:History} (hc:∀ c∈h.Changes,CF c) (n:Int):VI (b0l h n).1:=by
 rcases b4c hc n with ⟨_,h⟩ | ⟨_,h⟩
 ·exact h
 ·rw [h];exact b2D
theorem b5d:maxLen=9223372036854775807:=rfl
theorem key_ok {s:SourceID} (h:a5p s=true):MkKey.ok s:=by
 obtain ⟨h1,h2,h3,h4⟩:=a6R h
 refine ⟨?_,?_,?_,?_⟩ <;> rw [b5d] <;> assumption
theorem aff_src {a b:Inventory} (ha:VI a) (hb:VI b) {f:Affected} (hf:f∈a4C a b):a5p f.Source=true:=by
 have h:=(a7p.1 hf).1
 unfold a1g at h
 rw [a5Z (fun _ _=>a2s),List.mem_map] at h
 obtain ⟨c,hc,e⟩:=h
 rw [← e]
 rcases List.mem_append.1 hc with hc | hc
 ·exact ha.s c hc
 ·exact hb.s c hc
theorem rdata' {a b:Epoch} (h:EF a):P7 ⟨b.From,b.To,a.Rate,a.Position,a.Response⟩ b=some (sdB a b):=by
 have:=b3l (a:=a) (b:=b) h
 unfold a6H at this
 revert this
 cases P7 ⟨b.From,b.To,a.Rate,a.Position,a.Response⟩ b with
 | none=>intro h;cases h
 | some c=>exact id
theorem affLen {a b:Inventory} (ha:VI a) (hb:VI b):(a4C a b).length≤256∧∀ f∈a4C a b,f.Spans.length≤128:=by
 refine ⟨?_,fun f hf=>?_⟩
 ·have h1:=b0X a b
  have h2:=ha.n
  have h3:=hb.n
  have:=a3x (f:=a7h a b) (m:=1) (l:=a1g a b) fun _ _=>a9x _ _ _
  unfold a4C
  omega
 ·rw [(a7p.1 hf).2.1]
  exact (b0n ha hb f.Source).2.len
end Go.Proofs.YteanekphncdhiaaGreat.Sh
namespace Go.Proofs.YteanekphncdhiaaGreat.Sh
open Go
set_option linter.unusedVariables false
set_option linter.unusedSimpArgs false
theorem b2L {a b:Inventory} (ha:VI a) (hb:VI b) (s:SourceID) (x:Int):∃ p q,a5h a s x=some p∧a5h b s x=some q ∧
  ((if (!((p.2 == 0) == (q.2 == 0)))=true then some true else ((if ((p.2 == 0) && (q.2 == 0))=true then (P7 ⟨q.1.From,q.1.To,p.1.Rate,p.1.Position,p.1.Response⟩ q.1).bind fun r=>some (!r) else some false)).bind fun c=>some c))=some (a8o (a4C a b) s x (x+1)):=by
 obtain ⟨p,e1,h1⟩:=rat_ok ha s x
 obtain ⟨q,e2,h2⟩:=rat_ok hb s x
 refine ⟨p,q,e1,e2,?_⟩
 have hh:a8o (a4C a b) s x (x+1)=true↔a4L (epL s a.Channels) (epL s b.Channels) x:=by
  rw [a7l,(b1X ha hb).hit]
  constructor
  ·rintro ⟨z,h,h3,h4⟩
   have:z=x:=by omega
   rw [← this];exact h
  ·exact fun h=>⟨x,h,by omega,by omega⟩
 have hva:=ha.toSI.vl s
 have hvb:=hb.toSI.vl s
 rcases h1 with ⟨p0,h1⟩ | ⟨p0,h1⟩ <;> rcases h2 with ⟨q0,h2⟩ | ⟨q0,h2⟩
 ·have:a8o (a4C a b) s x (x+1)=false:=by
   rw [← Bool.not_eq_true,hh]
   rintro ⟨⟨e,h | h⟩,_⟩
   ·exact h1 e h
   ·exact h2 e h
  rw [this,a3b p0,a3b q0]
  rfl
 ·have:a8o (a4C a b) s x (x+1)=true:=hh.2 ⟨⟨_,.inr h2⟩,fun ⟨e,f,h,_⟩=>h1 e h⟩
  rw [this,a3b p0,a7L q0]
  rfl
 ·have:a8o (a4C a b) s x (x+1)=true:=hh.2 ⟨⟨_,.inl h1⟩,fun ⟨e,f,_,h,_⟩=>h2 f h⟩
  rw [this,a7L p0,a3b q0]
  rfl
 ·rw [a7L p0,a7L q0,rdata' (hva.ef h1.1)]
  simp only [beq_self_eq_true,Bool.not_true,Bool.false_eq_true,if_false,Bool.and_self,if_true,Option.bind_some]
  congr 1
  rw [Bool.eq_iff_iff,hh,Bool.not_eq_true',← Bool.not_eq_true,a6O]
  constructor
  ·exact fun h=>⟨⟨_,.inl h1⟩,fun ⟨e,f,g1,g2,g3⟩=>h (by rw [hva.at_one h1 g1,hvb.at_one h2 g2];exact g3)⟩
  ·rintro ⟨_,h⟩ hs
   exact h ⟨_,_,h1,h2,hs⟩
theorem b2M {h:History × Dice} {bs:List Channel} {x:Int} {l:List SourceID} (ha:VI h.1.Base) (hb:VI ⟨bs⟩) (hx:-1000000000000000≤x∧x≤1000000000000000) (hl:l.length≤1000):o5 (Q0 h bs (a4C h.1.Base ⟨bs⟩) x l) 0=some true:=by
 have hle:=affLen ha hb
 obtain ⟨r,er,rfl⟩:=a0o (body:=Q0 h bs (a4C h.1.Base ⟨bs⟩) x l) (fun (_:Unit) i=>i) l.length (fun _ _=>True) (fun r=>r=true) (fun i hi a _=>by
  refine ⟨(),?_,trivial⟩
  obtain ⟨p,q,e1,e2,e3⟩:=b2L ha hb l[i] x
  unfold Q0
  rw [if_pos (decide_eq_true (by omega)),o9 _ _ hi]
  simp only [Option.bind_some]
  rw [e1,e2]
  simp only [Option.bind_some]
  have e4:w64 (x+1)=x+1:=F4 (by omega) (by omega)
  rw [e3]
  simp only [Option.bind_some]
  rw [e4,b4b (by omega) (fun f hf=>by have:=hle.2 f hf;omega)]
  simp only [Option.bind_some,beq_self_eq_true,Bool.not_true,Bool.false_eq_true,if_false]
  rw [M5 (by omega)]) (fun a _=>by
  unfold Q0
  rw [if_neg (by simp),sane20]
  exact ⟨_,rfl,rfl⟩) () trivial
 exact er
theorem a9V {n:Int} {h:History × Dice} {L:List Int} {A:Int} {bs:List Channel} (hn:0≤n∧n≤65535) (ha:VI h.1.Base) (hb:VI ⟨bs⟩) (hd:DOK ⟨L,A⟩):P9 n h L A bs=some true:=by
 unfold P9
 rw [(a9W ha.fi hb.fi).1,b0w ⟨ha,hb⟩]
 simp only [Option.bind_some]
 have hle:=affLen ha hb
 have hap:=b1X ha hb
 have hpw:=List.pairwise_iff_getElem.1 hap.asc
 have ht:Int.tmod (w64 n) 40000=n % 40000:=by rw [F4 (by omega) (by omega)];exact Int.tmod_eq_emod_of_nonneg hn.1
 have t0:0≤n % 40000:=Int.emod_nonneg _ (by decide)
 have t1:n % 40000<40000:=Int.emod_lt_of_pos _ (by decide)
 rw [ht]
 obtain ⟨x,hx⟩:∃ x,w64 ((w64 (1000000000000+n % 40000)) - 1000)=x:=⟨_,rfl⟩
 have hx1:-1000000000000000≤x∧x≤1000000000000000:=by
  rw [← hx,F4 (x:=1000000000000+n % 40000) (by omega) (by omega),F4 (by omega) (by omega)]
  omega
 rw [hx]
 have ca:=ha.n
 have cb:bs.length≤128:=hb.n
 obtain ⟨r,er,rfl⟩:=a0o (body:=U4 h L A bs (a4C h.1.Base ⟨bs⟩) x) (fun (m:Mk SourceID Bool) i=>(m,i)) (a4C h.1.Base ⟨bs⟩).length (fun i m=>m.n=i∧∀ s,m.at_ s=true→∃ f∈(a4C h.1.Base ⟨bs⟩).take i,f.Source=s) (fun r=>r=true) (fun i hi m ⟨hm1,hm2⟩=>by
  have hf:=List.getElem_mem hi
  have hko:=key_ok (aff_src ha hb hf)
  obtain ⟨v1,v2,v3⟩:=hap.vs _ hf
  have hno:m.at_ (a4C h.1.Base ⟨bs⟩)[i].Source=false:=by
   rw [← Bool.not_eq_true]
   intro hc
   obtain ⟨f,hft,hfs⟩:=hm2 _ hc
   obtain ⟨j,hj,e⟩:=List.mem_iff_getElem.1 hft
   rw [List.length_take] at hj
   rw [List.getElem_take] at e
   have:=hpw j i (by omega) hi (by omega)
   rw [e,hfs,a3m] at this
   omega
  obtain ⟨m',p1,p2,p3,p4⟩:=Mk.put_of (m:=m) (v:=true) hko (by omega)
  refine ⟨m',?_,by omega,fun s hs=>?_⟩
  ·unfold U4
   simp only
   rw [if_pos (decide_eq_true (by omega)),o9 _ _ hi]
   simp only [Option.bind_some]
   have hln:((a4C h.1.Base ⟨bs⟩)[i].Spans.length:Int)≠0:=by
    intro e
    exact v2 (List.eq_nil_of_length_eq_zero (by omega))
   rw [b3t v1 (by omega),a3b hln]
   simp only [Option.bind_some,Bool.not_true,Bool.or_self,Bool.false_eq_true,if_false]
   rw [Mk.get_of hko,hno]
   simp only [Option.bind_some,Bool.false_eq_true,if_false]
   rw [p1,M5 (by omega)]
   rfl
  ·by_cases e:s=(a4C h.1.Base ⟨bs⟩)[i].Source
   ·exact ⟨_,by rw [C8 hi];exact List.mem_append_right _ (List.mem_singleton.2 rfl),e.symm⟩
   ·rw [p4 s e] at hs
    obtain ⟨f,hft,hfs⟩:=hm2 s hs
    exact ⟨f,by rw [C8 hi];exact List.mem_append_left _ hft,hfs⟩) (fun m ⟨hm1,hm2⟩=>by
  obtain ⟨s,d2,e2,_,_⟩:=a8S hd
  have hfm:∀ l:List Channel,l.flatMap (fun c=>[c.Source])=l.map (·.Source):=fun l=>by induction l <;> simp_all
  unfold U4
  simp only
  rw [if_neg (by simp),capp _ _ (by omega) (by decide)]
  simp only [Option.bind_some]
  rw [D5 _ _ _ (by omega) (by decide)]
  simp only [Option.bind_some]
  rw [a2t (body:=U5 (h.1.Base.Channels ++ bs)) (h.1.Base.Channels ++ bs) (fun c=>[c.Source]) 1 1000 [] (fun _ _=>by simp) (by simp;omega) (fun i hi out ho=>by
    unfold U5
    simp only
    rw [if_pos (decide_eq_true (by omega)),o9 _ _ hi]
    simp only [Option.bind_some]
    rw [D5 _ _ _ (by simp;omega) (by decide),M5 (by rw [List.length_append] at hi;omega)]
    rfl) (fun out=>by
    unfold U5
    rw [if_neg (by simp)]),hfm]
  simp only [Option.bind_some,List.nil_append]
  rw [e2]
  simp only [Option.bind_some]
  rw [D5 _ _ _ (by simp;omega) (by decide)]
  simp only [Option.bind_some]
  rw [b2M ha hb hx1 (by simp;omega)]
  exact ⟨_,rfl,rfl⟩) ⟨0,fun _=>false⟩ ⟨rfl,fun s hs=>by cases hs⟩
 exact er
theorem a4Q (t:List Int) (n:Int) (_:(t.length:Int)≤140737488355328∧∀ x∈t,-9223372036854775808≤x∧x≤9223372036854775807) (hn:0≤n∧n≤65535):a1o t n=some true:=by
 unfold a1o
 rw [b3P]
 simp only [Option.bind_some]
 by_cases hl:t.length≤500
 case neg=>rw [decide_eq_false hl,sane20];rfl
 rw [decide_eq_true hl]
 simp only [Bool.not_true,Bool.false_eq_true,if_false,a9C,Option.bind_some]
 obtain ⟨h,d1,e1,hh,hd1⟩:=dhistory (DOK.roll hl) (n:=6) (by decide)
 rw [show a0r ⟨t,0⟩ 6=some (h,d1) from e1]
 simp only [Option.bind_some]
 have hcf:∀ c∈h.Changes,CF c:=fun c hc=>(hh.c c hc).cf
 have hlen:=hh.n
 have hf:HF h:=⟨hh.v.b.fi,by omega,hcf⟩
 by_cases h0:0<h.Changes.length
 ·rw [if_pos (decide_eq_true (by omega))]
  obtain ⟨k,d2,e2,_,_,hd2⟩:=I4 hd1 (n:=(h.Changes.length:Int)) (by omega) (by omega)
  rw [e2]
  simp only [Option.bind_some]
  rw [(ver_ok hf _).2]
  simp only [Option.bind_some]
  exact a9V (h:=(h,d1)) hn hh.v.b (verN_vi' hcf _) hd2
 ·rw [if_neg (fun h'=>h0 (by have:=of_decide_eq_true h';omega))]
  exact a9V (h:=(h,d1)) hn hh.v.b hh.v.b hd1
end Go.Proofs.YteanekphncdhiaaGreat.Sh

/- The plain law: what the plain programs compute, put together in one text. -/
import Derived.Test.YteanekphncdhiaaGreatLw1
namespace Go.Proofs.YteanekphncdhiaaGreat.Sh
open Go
set_option linter.unusedVariables false
set_option linter.unusedSimpArgs false
theorem CD.cf {c:Change} (h:CD c):CF c:=⟨a9h h.s,h.e.ef⟩
noncomputable def apN (inv:Inventory) (c:Change):Inventory × Int:=(J4 inv c).getD (⟨[]⟩,1)
theorem a4y {inv:Inventory} {c:Change} (hf:FI inv) (hc:CF c):J4 inv c=some (apN inv c)∧a0i inv c=some (apN inv c)∧ApplyTo inv c (apN inv c):=by
 obtain ⟨r,h1,h2,h3⟩:=b5r hf hc
 have:apN inv c=r:=by unfold apN;rw [h1];rfl
 rw [this];exact ⟨h1,h2,h3⟩
structure Done (inv:Inventory) (c:Change) (out:Inventory):Prop where
 vi:VI inv
 ck:CK c
 fnd:Found inv c
 ncl:¬ a9v inv c
 res:Res20 inv c out
 novr:¬ Over out c
theorem Done.out {inv:Inventory} {c:Change} {out:Inventory} (h:Done inv c out):VI out:=h.res.vi h.vi h.novr
theorem ApplyTo.done {inv:Inventory} {c:Change} {r:Inventory × Int} (h:ApplyTo inv c r) (h0:r.2=0):Done inv c r.1:=by
 cases h with
 | bad=>cases h0
 | none=>cases h0
 | clash=>cases h0
 | over=>cases h0
 | ok h h1 h2 _ h3 h4=>exact ⟨h.1,h.2,h1,h2,h3,h4⟩
theorem ApplyTo.fail {inv:Inventory} {c:Change} {r:Inventory × Int} (h:ApplyTo inv c r) (h0:r.2≠0):r.1=⟨[]⟩:=by
 cases h with
 | ok=>exact absurd rfl h0
 | _=>rfl
theorem Done.ap {inv:Inventory} {c:Change} {out:Inventory} (h:Done inv c out) (hc:CF c):apN inv c=(out,0):=(a4y h.vi.fi hc).2.2.uniq (.ok ⟨h.vi,h.ck⟩ h.fnd h.ncl _ h.res h.novr)
theorem a2U {inv:Inventory} {c:Change} (hf:FI inv) (hc:CF c) (h0:(apN inv c).2=0):Done inv c (apN inv c).1:=(a4y hf hc).2.2.done h0
theorem apN_nb {inv:Inventory} {c:Change} (hf:FI inv) (hc:CF c) (h0:(apN inv c).2=0) {n:Nat} (hn:NB inv n):NB (apN inv c).1 (n+1):=(a2U hf hc h0).res.nb n hn
noncomputable def a2V (inv:Inventory):List Change→Option Inventory
 | []=>some inv
 | c :: l=>if (apN inv c).2=0 then a2V (apN inv c).1 l else none
theorem a7E (inv:Inventory) (a b:List Change):a2V inv (a ++ b)=(a2V inv a).bind fun x=>a2V x b:=by
 induction a generalizing inv with
 | nil=>rfl
 | cons c a ih=>
  simp only [List.cons_append,a2V]
  split
  ·exact ih _
  ·rfl
theorem a9G {inv x:Inventory} {a:List Change} {c:Change} (h:a2V inv a=some x):a2V inv (a ++ [c])=if (apN x c).2=0 then some (apN x c).1 else none:=by
 rw [a7E,h];rfl
theorem foldN_vi {l:List Change}:∀ {inv x:Inventory},VI inv→(∀ c∈l,CF c)→a2V inv l=some x→VI x:=by
 induction l with
 | nil=>intro inv x hv _ h;cases h;exact hv
 | cons c l ih=>
  intro inv x hv hc h
  unfold a2V at h
  split at h
  ·rename_i h0
   exact ih (a2U hv.fi (hc c List.mem_cons_self) h0).out (fun d hd=>hc d (List.mem_cons_of_mem _ hd)) h
  ·cases h
noncomputable def a6q (inv:Inventory) (l:List Change):Inventory × Bool:=match a2V inv l with
 | some x=>(x,true)
 | none=>(⟨[]⟩,false)
theorem b3m {l:List Change} {base:Inventory} {body:List Channel × Int→Option ((List Channel × Int) ⊕ (Inventory × Bool))} (hl:l.length≤1000000) (hv:VI base) (hc:∀ c∈l,CF c)
  (h1:∀ (x:Inventory) i (hi:i<l.length),VI x→body (x.Channels,(i:Int))=if (apN x l[i]).2=0 then some (.inl ((apN x l[i]).1.Channels,((i+1:Nat):Int))) else some (.inr (⟨[]⟩,false))) (h2:∀ x:Inventory,body (x.Channels,(l.length:Int))=some (.inr (x,true))) :
  o6 body (base.Channels,0)=some (a6q base l):=by
 obtain ⟨r,e,rfl⟩:=S9 (b1:=body) (fun m s=>∃ (i:Nat) (x:Inventory),s=(x.Channels,(i:Int))∧m+i=l.length∧VI x∧a2V base (l.take i)=some x) (fun r=>r=a6q base l) (fun m s ⟨i,x,es,hm,hx,hf⟩=>by
  subst es
  by_cases hil:i<l.length
  ·rw [h1 x i hil hx]
   have hci:=hc _ (List.getElem_mem hil)
   by_cases h0:(apN x l[i]).2=0
   ·rw [if_pos h0]
    refine .inl ⟨_,m - 1,rfl,⟨i+1,(apN x l[i]).1,rfl,by omega,(a2U hx.fi hci h0).out,?_⟩,by omega⟩
    rw [F4 hil,a9G hf,if_pos h0]
   ·rw [if_neg h0]
    refine .inr ⟨_,rfl,?_⟩
    have:a2V base l=none:=by
     rw [← List.take_append_drop (i+1) l,a7E,F4 hil,a9G hf,if_neg h0];rfl
    unfold a6q;rw [this]
  ·have hi:i=l.length:=by omega
   subst hi
   rw [h2]
   refine .inr ⟨_,rfl,?_⟩
   rw [List.take_length] at hf
   unfold a6q;rw [hf]) l.length (base.Channels,0) ⟨0,base,rfl,by omega,hv,rfl⟩
 exact e
theorem b5Z {base:Inventory} {l:List Change} (hl:l.length≤1000000) (hv:VI base) (hc:∀ c∈l,CF c):a3N base l=some (a6q base l):=by
 unfold a3N
 rw [b3E hv.ci]
 simp only [Option.bind_some]
 refine b3m hl hv hc (fun x i hi hx=>?_) (fun x=>?_)
 ·unfold a5s
  simp only
  rw [if_pos (decide_eq_true (by omega)),y8 _ _ hi]
  simp only [Option.bind_some]
  rw [(a4y (inv:=x) hx.fi (hc _ (List.getElem_mem hi))).1,M0 (by omega)]
  simp only [Option.bind_some]
  by_cases h0:(apN x l[i]).2=0
  ·rw [if_neg (by rw [a0J h0];simp),if_pos h0]
  ·rw [if_pos (a1B h0),if_neg h0]
 ·unfold a5s
  simp only
  rw [if_neg (by simp)];rfl
theorem a8a {h:History} {n:Nat} (hn:n≤h.Changes.length) (hl:n≤1000000) (hv:VI h.Base) (hc:∀ c∈h.Changes,CF c):a2x h (n:Int)=some (a6q h.Base (h.Changes.take n)):=by
 unfold a2x
 rw [a8B hv.ci]
 simp only [Option.bind_some]
 have hlen:(h.Changes.take n).length=n:=by rw [List.length_take];omega
 refine b3m (l:=h.Changes.take n) (by omega) hv (fun c hc'=>hc c (List.mem_of_mem_take hc')) (fun x i hi hx=>?_) (fun x=>?_)
 ·unfold a5q
  simp only
  rw [if_pos (decide_eq_true (by omega)),y8 _ _ (show i<h.Changes.length by omega)]
  simp only [Option.bind_some,List.getElem_take]
  rw [(a4y (inv:=x) hx.fi (hc _ (List.getElem_mem (show i<h.Changes.length by omega)))).2.1,M0 (by omega)]
  simp only [Option.bind_some]
  by_cases h0:(apN x (h.Changes[i]'(by omega))).2=0
  ·rw [if_neg (by rw [a0J h0];simp),if_pos h0]
  ·rw [if_pos (a1B h0),if_neg h0]
 ·unfold a5q
  simp only
  rw [if_neg (by simp [hlen])];rfl
structure HV (h:History):Prop where
 b:VI h.Base
 n:h.Changes.length≤256
 f:(a2V h.Base h.Changes).isSome=true
structure HF (h:History):Prop where
 b:FI h.Base
 n:h.Changes.length≤1000000
 c:∀ c∈h.Changes,CF c
theorem b6O (inv:Inventory) (l:List Change):(a6q inv l).2=(a2V inv l).isSome:=by
 unfold a6q;cases a2V inv l <;> rfl
theorem a8Z {h:History} (hf:HF h):∃ b,a3b h=some b∧a4r h=some b∧(b=true↔HV h):=by
 obtain ⟨v,v1,v2⟩:=a8R hf.b
 obtain ⟨w,w1,w2⟩:=a6E hf.b
 have:w=v:=Bool.eq_iff_iff.2 (w2.trans v2.symm)
 subst this
 unfold a3b a4r
 rw [v1,w1]
 simp only [Option.bind_some]
 cases w with
 | false=>exact ⟨false,rfl,rfl,fun h=>(by cases h),fun h=>v2.2 h.b⟩
 | true=>
  have hv:=v2.1 rfl
  by_cases h256:(256:Int)<(h.Changes.length:Int)
  ·rw [decide_eq_true h256]
   exact ⟨false,rfl,rfl,fun h=>(by cases h),fun h=>by have:=h.n;omega⟩
  ·rw [decide_eq_false h256,b5Z hf.n hv hf.c,a8a (Nat.le_refl _) hf.n hv hf.c,List.take_length]
   refine ⟨(a6q h.Base h.Changes).2,rfl,rfl,?_⟩
   rw [b6O]
   exact ⟨fun h=>⟨hv,by omega,h⟩,fun h=>h.f⟩
open Classical in
noncomputable def a8S (h:History) (n:Int):Inventory × Int:=if ¬ HV h then (⟨[]⟩,1) else if n<0∨(h.Changes.length:Int)<n then (⟨[]⟩,2) else ((a6q h.Base (h.Changes.take n.toNat)).1,0)
theorem a7Z {h:History} (hf:HF h) (n:Int):a0e h n=some (a8S h n)∧a0h h n=some (a8S h n):=by
 obtain ⟨b,b1,b2,b3⟩:=a8Z hf
 unfold a0e a0h a8S
 rw [b1,b2]
 simp only [Option.bind_some,a5U]
 cases b with
 | false=>
  have hn:¬ HV h:=fun h=>by have:=b3.2 h;cases this
  rw [if_pos hn];exact ⟨rfl,rfl⟩
 | true=>
  have hh:=b3.1 rfl
  rw [if_neg (show ¬ ¬ HV h from fun h=>h hh)]
  simp only [Bool.not_true,Bool.false_eq_true,if_false]
  have hlen:=hh.n
  by_cases hr:n<0∨(h.Changes.length:Int)<n
  ·have h1:(decide (n<0) || decide ((h.Changes.length:Int)<n))=true:=by rw [Bool.or_eq_true,decide_eq_true_eq,decide_eq_true_eq];exact hr
   have h2:inB n 0 (h.Changes.length:Int)=false:=by
    cases hh:inB n 0 (h.Changes.length:Int) with
    | false=>rfl
    | true=>have:=a0Q.1 hh;omega
   rw [h1,h2,if_pos hr];exact ⟨rfl,rfl⟩
  ·have h1:(decide (n<0) || decide ((h.Changes.length:Int)<n))=false:=by rw [Bool.or_eq_false_iff,decide_eq_false_iff_not,decide_eq_false_iff_not];omega
   have h2:inB n 0 (h.Changes.length:Int)=true:=a0Q.2 (by omega)
   rw [h1,h2,if_neg hr]
   simp only [Bool.not_true,Bool.false_eq_true,if_false]
   obtain ⟨k,rfl⟩:∃ k:Nat,n=(k:Int):=⟨n.toNat,by omega⟩
   have hs:G5 h.Changes 0 (k:Int)=some (h.Changes.take k):=by
    have:=a1o h.Changes 0 k (Nat.zero_le _) (by omega)
    simpa using this
   rw [hs]
   simp only [Option.bind_some,Int.toNat_natCast]
   rw [b5Z (by rw [List.length_take];omega) hh.b (fun c hc=>hf.c c (List.mem_of_mem_take hc)),a8a (by omega) (by omega) hh.b hf.c]
   exact ⟨rfl,rfl⟩
theorem HV.pre {h:History} (hv:HV h) {k:Nat} (hk:k≤h.Changes.length):∃ x,a2V h.Base (h.Changes.take k)=some x:=by
 have:=hv.f
 rw [← List.take_append_drop k h.Changes,a7E] at this
 cases hx:a2V h.Base (h.Changes.take k) with
 | none=>rw [hx] at this;cases this
 | some x=>exact ⟨x,rfl⟩
theorem HV.ver {h:History} (hv:HV h) (hc:∀ c∈h.Changes,CF c) {k:Nat} (hk:k≤h.Changes.length):∃ x,a2V h.Base (h.Changes.take k)=some x∧VI x∧a8S h (k:Int)=(x,0):=by
 obtain ⟨x,hx⟩:=hv.pre hk
 refine ⟨x,hx,foldN_vi hv.b (fun c hc'=>hc c (List.mem_of_mem_take hc')) hx,?_⟩
 unfold a8S
 rw [if_neg (show ¬ ¬ HV h from fun h=>h hv),if_neg (by omega),Int.toNat_natCast]
 unfold a6q
 rw [hx]
theorem b5N {h:History} (hc:∀ c∈h.Changes,CF c) (n:Int):((a8S h n).2=0∧VI (a8S h n).1)∨((a8S h n).2≠0∧(a8S h n).1=⟨[]⟩):=by
 by_cases hv:HV h
 ·by_cases hr:n<0∨(h.Changes.length:Int)<n
  ·unfold a8S;rw [if_neg (show ¬ ¬ HV h from fun h=>h hv),if_pos hr];exact .inr ⟨by decide,rfl⟩
  ·obtain ⟨k,rfl⟩:∃ k:Nat,n=(k:Int):=⟨n.toNat,by omega⟩
   obtain ⟨x,_,h1,h2⟩:=hv.ver hc (k:=k) (by omega)
   rw [h2];exact .inl ⟨rfl,h1⟩
 ·unfold a8S;rw [if_pos hv];exact .inr ⟨by simp,rfl⟩
theorem b1x:VI ⟨[]⟩:=⟨⟨(fun c hc=>by cases hc),(fun c hc=>by cases hc),List.Pairwise.nil⟩,by simp,(fun c hc=>by cases hc)⟩
theorem nb_nil:NB ⟨[]⟩ 0:=⟨Nat.le_refl _,fun c hc=>by cases hc⟩
theorem b5t {d:Dice} (hd:DOK d) {n:Nat} (hn:n≤100):∃ inv d',a0z d (n:Int)=some (inv,d')∧VI inv∧NB inv n∧DOK d':=by
 unfold a0z
 rw [M0 (by omega)]
 obtain ⟨x,d1,e1,x0,x1,hd1⟩:=I7 hd (n:=((n+1:Nat):Int)) (by omega) (by omega)
 rw [e1]
 simp only [Option.bind_some]
 obtain ⟨m,rfl⟩:∃ m:Nat,x=(m:Int):=⟨x.toNat,by omega⟩
 obtain ⟨r,e,inv,d',rfl,h1,h2,h3⟩:=S9 (b1:=a1V) (fun k s=>∃ (d:Dice) (inv:Inventory),s=(d.L,d.At,inv.Channels,(k:Int))∧DOK d∧VI inv∧NB inv (m - k)∧k≤m) (fun r=>∃ (inv:Inventory) (d:Dice),r=(d.L,d.At,inv.Channels)∧VI inv∧NB inv m∧DOK d) (fun k s ⟨d,inv,es,hd,hv,hnb,hk⟩=>by
  subst es
  unfold a1V
  simp only
  by_cases hk0:0<k
  ·rw [if_pos (decide_eq_true (by omega))]
   obtain ⟨c,d2,e2,hc,hd2⟩:=a8W (d:=d) hd hv
   rw [show K4 ⟨d.L,d.At⟩ ⟨inv.Channels⟩=some (c,d2) from e2]
   simp only [Option.bind_some]
   rw [show a0i ⟨inv.Channels⟩ c=some (apN inv c) from (a4y hv.fi hc.cf).2.1]
   simp only [Option.bind_some]
   have hw:w64 ((k:Int) - 1)=((k - 1:Nat):Int):=by rw [I1 (by omega) (by omega)];omega
   unfold a0C
   simp only [Option.bind_some,hw]
   by_cases h0:(apN inv c).2=0
   ·rw [if_pos (by simpa using h0)]
    have hnb2:=apN_nb hv.fi hc.cf h0 hnb
    rw [show m - k+1=m - (k - 1) by omega] at hnb2
    exact .inl ⟨_,k - 1,rfl,⟨d2,(apN inv c).1,rfl,hd2,(a2U hv.fi hc.cf h0).out,hnb2,by omega⟩,by omega⟩
   ·rw [if_neg (by simpa using h0)]
    refine .inl ⟨_,k - 1,rfl,⟨d2,inv,rfl,hd2,hv,⟨by have:=hnb.1;omega,fun c hc=>by have:=hnb.2 c hc;omega⟩,by omega⟩,by omega⟩
  ·rw [if_neg (by simp;omega)]
   have hk0:k=0:=by omega
   subst hk0
   exact .inr ⟨_,rfl,inv,d,rfl,hv,hnb,hd⟩) m (d1.L,d1.At,[],(m:Int)) ⟨d1,⟨[]⟩,rfl,hd1,b1x,⟨by simp,fun c hc=>by cases hc⟩,Nat.le_refl _⟩
 rw [e]
 exact ⟨inv,d',rfl,h1,⟨by have:=h2.1;omega,fun c hc=>by have:=h2.2 c hc;omega⟩,h3⟩
theorem b6z {h:History} {c:Change} (hh:HV h) (hc:∀ d∈h.Changes,CD d) (hcd:CF c) (hn:h.Changes.length<256):∃ x,a2V h.Base h.Changes=some x∧VI x ∧
  (((apN x c).2=0∧a0g h c=some (⟨h.Base,h.Changes ++ [c]⟩,0))∨((apN x c).2≠0∧a0g h c=some (⟨⟨[]⟩,[]⟩,(apN x c).2))):=by
 have hf:HF h:=⟨hh.b.fi,by omega,fun d hd=>(hc d hd).cf⟩
 obtain ⟨x,hx,hv,_⟩:=hh.ver hf.c (Nat.le_refl _)
 rw [List.take_length] at hx
 refine ⟨x,hx,hv,?_⟩
 obtain ⟨b,_,b2,b3⟩:=a8Z hf
 have:=b3.2 hh
 subst this
 unfold a0g
 rw [b2]
 simp only [Option.bind_some,Bool.not_true,Bool.false_eq_true,if_false]
 rw [if_neg (by simp;omega),a8a (Nat.le_refl _) (by omega) hh.b hf.c,List.take_length]
 have hfr:a6q h.Base h.Changes=(x,true):=by unfold a6q;rw [hx]
 rw [hfr]
 simp only [Option.bind_some]
 rw [(a4y hv.fi hcd).2.1]
 simp only [Option.bind_some]
 by_cases h0:(apN x c).2=0
 ·refine .inl ⟨h0,?_⟩
  have hce:CE c.Epoch:=by
   have hck:=(a2U hv.fi hcd h0).ck
   by_cases k1:c.Kind=1
   ·rcases hck.2 with h | h | h
    ·omega
    ·rw [h.2];exact b3P
    ·omega
   ·exact (hck.ve k1).ce
  rw [if_neg (by rw [a0J h0];simp),a5m hce,a8B hh.b.ci]
  simp only [Option.bind_some]
  rw [b2a _ _ (by omega) (by decide)]
  simp only [Option.bind_some]
  rw [F8 _ _ _ (by simp;omega) (by decide)]
  rfl
 ·exact .inr ⟨h0,by rw [if_pos (a1B h0)]⟩
theorem HV.snoc {h:History} {c:Change} {x:Inventory} (hh:HV h) (hx:a2V h.Base h.Changes=some x) (h0:(apN x c).2=0) (hn:h.Changes.length<256):HV ⟨h.Base,h.Changes ++ [c]⟩:=⟨hh.b,by show (h.Changes ++ [c]).length≤256;simp;omega,by
 show (a2V h.Base (h.Changes ++ [c])).isSome=true
 rw [a9G hx,if_pos h0];rfl⟩
structure HD (h:History) (n:Nat):Prop where
 v:HV h
 c:∀ c∈h.Changes,CD c
 n:h.Changes.length≤n
theorem dhistory {d:Dice} (hd:DOK d) {n:Nat} (hn:n≤100):∃ h d',a0Y d (n:Int)=some (h,d')∧HD h n∧DOK d':=by
 unfold a0Y
 obtain ⟨base,d0,e0,hvb,_,hd0⟩:=b5t hd (n:=4) (by decide)
 rw [show a0z d 4=some (base,d0) from e0]
 simp only [Option.bind_some]
 rw [M0 (by omega)]
 obtain ⟨x,d1,e1,x0,x1,hd1⟩:=I7 hd0 (n:=((n+1:Nat):Int)) (by omega) (by omega)
 rw [e1]
 simp only [Option.bind_some]
 obtain ⟨m,rfl⟩:∃ m:Nat,x=(m:Int):=⟨x.toNat,by omega⟩
 obtain ⟨r,e,h,d',rfl,h1,h2⟩:=S9 (b1:=a2W) (fun k s=>∃ (d:Dice) (h:History),s=(d.L,d.At,h.Base.Channels,h.Changes,(k:Int))∧DOK d∧HD h (m - k)∧k≤m) (fun r=>∃ (h:History) (d:Dice),r=(d.L,d.At,h.Base.Channels,h.Changes)∧HD h m∧DOK d) (fun k s ⟨d,h,es,hd,hh,hk⟩=>by
  subst es
  unfold a2W
  simp only
  by_cases hk0:0<k
  ·rw [if_pos (decide_eq_true (by omega))]
   have hcf:∀ c∈h.Changes,CF c:=fun c hc=>(hh.c c hc).cf
   have hlen:=hh.n
   have hf:HF h:=⟨hh.v.b.fi,by omega,hcf⟩
   obtain ⟨y,hy,hvy,hver⟩:=hh.v.ver hcf (Nat.le_refl _)
   rw [show a0h ⟨⟨h.Base.Channels⟩,h.Changes⟩ (h.Changes.length:Int)=some (y,0) from (a7Z hf _).2.trans (by rw [hver])]
   simp only [Option.bind_some]
   obtain ⟨c,d2,e2,hc,hd2⟩:=a8W (d:=d) hd hvy
   rw [show K4 ⟨d.L,d.At⟩ y=some (c,d2) from e2]
   simp only [Option.bind_some]
   obtain ⟨z,hz,hvz,hap⟩:=b6z hh.v hh.c hc.cf (by omega)
   have hw:w64 ((k:Int) - 1)=((k - 1:Nat):Int):=by rw [I1 (by omega) (by omega)];omega
   unfold a0Z
   simp only [Option.bind_some,hw]
   rcases hap with ⟨h0,hap⟩ | ⟨h0,hap⟩
   ·rw [show a0g ⟨⟨h.Base.Channels⟩,h.Changes⟩ c=some (⟨h.Base,h.Changes ++ [c]⟩,0) from hap]
    refine .inl ⟨_,k - 1,rfl,⟨d2,⟨h.Base,h.Changes ++ [c]⟩,rfl,hd2,⟨hh.v.snoc hz h0 (by omega),fun e he=>?_,?_⟩,by omega⟩,by omega⟩
    ·rcases List.mem_append.1 he with he | he
     ·exact hh.c e he
     ·rcases List.mem_singleton.1 he with rfl;exact hc
    ·show (h.Changes ++ [c]).length≤_
     simp;omega
   ·rw [show a0g ⟨⟨h.Base.Channels⟩,h.Changes⟩ c=some (⟨⟨[]⟩,[]⟩,(apN z c).2) from hap]
    simp only [Option.bind_some]
    rw [if_neg (by simpa using h0)]
    exact .inl ⟨_,k - 1,rfl,⟨d2,h,rfl,hd2,⟨hh.v,hh.c,by omega⟩,by omega⟩,by omega⟩
  ·rw [if_neg (by simp;omega)]
   have hk0:k=0:=by omega
   subst hk0
   exact .inr ⟨_,rfl,h,d,rfl,hh,hd⟩) m (d1.L,d1.At,base.Channels,[],(m:Int)) ⟨d1,⟨base,[]⟩,rfl,hd1,⟨⟨hvb,by simp,rfl⟩,fun c hc=>(by cases hc),by simp⟩,Nat.le_refl _⟩
 rw [e]
 exact ⟨h,d',rfl,⟨h1.v,h1.c,by have:=h1.n;omega⟩,h2⟩
end Go.Proofs.YteanekphncdhiaaGreat.Sh
namespace Go.Proofs.YteanekphncdhiaaGreat.Sh
open Go
set_option linter.unusedVariables false
set_option linter.unusedSimpArgs false
theorem b0a {inv:Inventory} (h:CI inv):a5o inv inv=some true:=by
 unfold a5o
 rw [if_neg (by simp)]
 obtain ⟨r,er,rfl⟩:=Q0 (body:=a5J inv inv) (fun (_:Unit) i=>i) inv.Channels.length (fun _ _=>True) (fun r=>r=true) (fun i hi a _=>by
  refine ⟨(),?_,trivial⟩
  have hc:=h.2 _ (List.getElem_mem hi)
  have hn:=h.1
  unfold a5J
  rw [if_pos (decide_eq_true (by omega)),y8 _ _ hi]
  simp only [Option.bind_some,a6l,decide_eq_true (rfl:inv.Channels[i].Source=inv.Channels[i].Source),Bool.not_true,Bool.false_or,bne_self_eq_false,Bool.false_eq_true,if_false]
  obtain ⟨r,er,rfl⟩:=Q0 (body:=a4L (i:Int) inv.Channels[i] inv.Channels[i]) (fun (_:Unit) i=>i) inv.Channels[i].Epochs.length (fun _ _=>True) (fun r=>r=.inl ((i+1:Nat):Int)) (fun k hk a _=>by
   refine ⟨(),?_,trivial⟩
   have he:=hc.2 _ (List.getElem_mem hk)
   unfold a4L
   obtain ⟨c,e1,h1⟩:=a5P (a:=inv.Channels[i].Epochs[k]) (b:=inv.Channels[i].Epochs[k]) he.ef
   rw [if_pos (decide_eq_true (by omega)),y8 _ _ hk]
   simp only [Option.bind_some]
   rw [e1,h1.2 rfl,M0 (by omega)]
   rfl) (fun a _=>by
   unfold a4L
   rw [if_neg (by simp),M0 (by omega)]
   exact ⟨_,rfl,rfl⟩) () trivial
  exact er) (fun a _=>by
  unfold a5J
  rw [if_neg (by simp)]
  exact ⟨_,rfl,rfl⟩) () trivial
 exact er
theorem VI.vin {inv:Inventory} (h:VI inv) {s:SourceID} {e:Epoch} (he:InI inv s e):VE e:=by
 obtain ⟨c,hc,_,hm⟩:=he
 exact (h.e c hc).v e hm
theorem VI.one {inv:Inventory} (h:VI inv) {s:SourceID} {e f:Epoch} (he:InI inv s e) (hf:InI inv s f) (ho:a5T e f):e=f:=
 (h.toSI.vl s).one ((h.toSI.ep s e).2 he) ((h.toSI.ep s f).2 hf) ho
theorem VE.same_from {e f:Epoch} (he:VE e) (hf:VE f) (h:e.From=f.From):a5T e f:=⟨by have:=hf.ft;omega,by have:=he.ft;omega⟩
theorem VI.one_from {inv:Inventory} (h:VI inv) {s:SourceID} {e f:Epoch} (he:InI inv s e) (hf:InI inv s f) (ho:e.From=f.From):e=f:=h.one he hf ((h.vin he).same_from (h.vin hf) ho)
theorem VI.novr {inv:Inventory} (h:VI inv) (c:Change):¬ Over inv c:=by
 have:=h.n
 have:=h.ep32 c.Source
 unfold Over
 omega
theorem NB.novr {out:Inventory} {n:Nat} (h:NB out n) (hn:n≤32) (c:Change):¬ Over out c:=by
 have:=h.1
 have:(epL c.Source out.Channels).length≤n:=by
  rcases a4n c.Source out.Channels with ⟨h1,_⟩ | ⟨d,hd,_,h1⟩
  ·rw [h1];exact Nat.zero_le _
  ·rw [h1];exact h.2 d hd
 unfold Over
 omega
theorem ap_nb {inv:Inventory} {c:Change} {n:Nat} (hv:VI inv) (hk:CK c) (hc:CF c) (hf:Found inv c) (hn:¬ a9v inv c) (hb:NB inv n) (h32:n<32):∃ out,apN inv c=(out,0)∧Done inv c out:=by
 have h:=(a4y hv.fi hc).2.2
 revert h
 generalize apN inv c=r
 intro h
 cases h with
 | bad h=>exact absurd ⟨hv,hk⟩ h
 | none _ h=>exact absurd hf h
 | clash _ _ h=>exact absurd h hn
 | over _ _ _ o h h'=>exact absurd h' ((h.nb n hb).novr (by omega) c)
 | ok _ _ _ o h h'=>exact ⟨o,rfl,hv,hk,hf,hn,h,h'⟩
theorem b0Y {a b:Int} (h:a=b):(a == b)=true:=by simpa using h
def noCh:Change:=⟨0,b3o,0,b2j⟩
inductive InvTo (inv:Inventory) (c:Change):Change × Int→Prop where
 | bad (h:(apN inv c).2≠0):InvTo inv c (noCh,(apN inv c).2)
 | add (h:(apN inv c).2=0) (h0:c.Kind=0):InvTo inv c (⟨1,c.Source,c.From,b2j⟩,0)
 | rem (h:(apN inv c).2=0) (h0:c.Kind=1) (e:Epoch) (he:InI inv c.Source e) (hf:e.From=c.From):InvTo inv c (⟨0,c.Source,c.From,e⟩,0)
 | rep (h:(apN inv c).2=0) (h0:c.Kind=2) (e:Epoch) (he:InI inv c.Source e) (hf:e.From=c.From):InvTo inv c (⟨2,c.Source,c.Epoch.From,e⟩,0)
theorem b5z {inv:Inventory} {c:Change} (hf:FI inv) (hc:CF c):∃ r,a3q inv c=some r∧a5L inv c=some r∧InvTo inv c r:=by
 obtain ⟨h1,h2,h3⟩:=a4y hf hc
 unfold a3q a5L
 rw [h1,h2]
 simp only [Option.bind_some]
 by_cases h0:(apN inv c).2=0
 case neg=>
  simp only [a1B h0,if_true]
  exact ⟨_,rfl,rfl,.bad h0⟩
 simp only [a0J h0,Bool.false_eq_true,if_false]
 have hd:=a2U hf hc h0
 by_cases hk0:c.Kind=0
 ·simp only [b0Y hk0,if_true]
  exact ⟨_,rfl,rfl,.add h0 hk0⟩
 ·simp only [a9D hk0,Bool.false_eq_true,if_false]
  obtain ⟨e,he,hef⟩:=hd.fnd.resolve_left hk0
  have hv:=hd.vi
  have hel:=(hv.toSI.ep c.Source e).2 he
  rw [find_ok hv.ci]
  simp only [Option.bind_some,a4B]
  obtain ⟨w,ew,hw⟩:=b5v (fun e=>e.From == c.From) (fun y0=>a1L y0 c.From) (epL c.Source inv.Channels) (fun _=>rfl) (by have:=hv.ep32 c.Source;omega)
  have hc1:∃ i:Nat,∃ h:i<(epL c.Source inv.Channels).length,a3s (epL c.Source inv.Channels) c.From=some (i:Int)∧(epL c.Source inv.Channels)[i]=e:=by
   rcases hw with ⟨rfl,hw⟩ | ⟨i,hi,rfl,hw⟩
   ·have:=hw e hel
    rw [hef] at this
    simp at this
   ·refine ⟨i,hi,by unfold a3s;rw [ew];rfl,?_⟩
    exact hv.one_from ((hv.toSI.ep c.Source _).1 (List.getElem_mem hi)) he (by rw [hef];simpa using hw)
  obtain ⟨i,hi,e1,e2⟩:=hc1
  rw [e1]
  simp only [Option.bind_some]
  rw [y8 _ _ hi,e2]
  simp only [Option.bind_some]
  have hc2:∃ i k:Int,a4s inv c=some (i,k)∧∃ d,ix inv.Channels i=some d∧ix d.Epochs k=some e:=by
   obtain ⟨i,k,er,h⟩:=b3r hv c
   refine ⟨i,k,er,?_⟩
   obtain ⟨d,hdm,hds,hde⟩:=he
   rcases h with ⟨_,_,h⟩ | ⟨n,hn,rfl,hs,h⟩
   ·exact absurd hds (h d hdm)
   ·obtain rfl:=hv.toSI.src hdm (List.getElem_mem hn) (hds.trans hs.symm)
    rcases h with ⟨_,h⟩ | ⟨m,hm,rfl,hm'⟩
    ·exact absurd hef (h e hde)
    ·refine ⟨_,y8 _ _ hn,?_⟩
     rw [y8 _ _ hm]
     congr 1
     exact hv.one_from (s:=c.Source) ⟨_,List.getElem_mem hn,hs,List.getElem_mem hm⟩ ⟨_,List.getElem_mem hn,hs,hde⟩ (hm'.trans hef.symm)
  obtain ⟨a,b,f1,d,f2,f3⟩:=hc2
  rw [f1]
  simp only [Option.bind_some]
  rw [f2]
  simp only [Option.bind_some]
  rw [f3]
  simp only [Option.bind_some]
  rw [a5m (hv.vin he).ce]
  simp only [Option.bind_some]
  by_cases hk1:c.Kind=1
  ·rw [if_pos (b0Y hk1)]
   exact ⟨_,rfl,rfl,.rem h0 hk1 e he hef⟩
  ·rw [if_neg (by simpa using hk1)]
   refine ⟨_,rfl,rfl,.rep h0 ?_ e he hef⟩
   rcases hd.ck.2 with h | h | h
   ·exact absurd h.1 hk0
   ·exact absurd h.1 hk1
   ·exact h.1
theorem b6h:EF b2j:=b3P.ef
def exS:SourceID:=⟨⟨#[65]⟩,⟨#[66]⟩,ByteArray.empty,⟨#[72,72,90]⟩⟩
def exE (t:Int):Epoch:=⟨10,t,⟨100,1⟩,⟨0,0,0⟩,⟨[]⟩⟩
theorem b1a:a7g exS=true:=by decide
theorem exE_ok {t:Int} (h:10<t) (h1:t≤100):VE (exE t):=
 ⟨show (0:Int)≤10 by decide,h,show t≤9007199254740992 by omega,show RV ⟨100,1⟩ from ⟨by decide,by decide,by decide,by decide,by decide⟩,show RP [] from ⟨fun s hs=>(by cases hs),by decide,by decide⟩,
  show (-1048576:Int)≤0∧(0:Int)≤1048576 by decide,show (-1048576:Int)≤0∧(0:Int)≤1048576 by decide,show (-16384:Int)≤0∧(0:Int)≤1048576 by decide⟩
theorem sane20:a6s=some true:=by
 have v1:=exE_ok (t:=20) (by decide) (by decide)
 have v2:=exE_ok (t:=25) (by decide) (by decide)
 have hn:∀ s e,¬ InI ⟨[]⟩ s e:=fun s e ⟨c,hc,_⟩=>by cases hc
 obtain ⟨x,e1,d1⟩:=ap_nb (inv:=⟨[]⟩) (c:=⟨0,exS,10,exE 20⟩) b1x ⟨b1a,.inl ⟨rfl,v1,rfl⟩⟩ ⟨a9h b1a,v1.ce.ef⟩ (.inl rfl) (fun h=>by obtain ⟨_,e,he,_⟩:=h;exact hn _ _ he.1) nb_nil (by decide)
 have m1:∀ s e,InI x s e↔s=exS∧e=exE 20:=fun s e=>by
  rw [d1.res.mem]
  unfold After
  constructor
  ·rintro (h | h)
   ·exact absurd h.1 (hn _ _)
   ·exact ⟨h.1,h.2.2⟩
  ·exact fun h=>.inr ⟨h.1,by decide,h.2⟩
 obtain ⟨y,e2,d2⟩:=ap_nb (inv:=x) (c:=⟨2,exS,10,exE 25⟩) d1.out ⟨b1a,.inr (.inr ⟨rfl,v2⟩)⟩ ⟨a9h b1a,v2.ce.ef⟩ (.inr ⟨exE 20,(m1 _ _).2 ⟨rfl,rfl⟩,rfl⟩) (fun h=>by
  obtain ⟨_,e,he,_⟩:=h
  have:=((m1 _ _).1 he.1).2
  subst this
  exact he.2 (by decide) rfl) (d1.res.nb 0 nb_nil) (by decide)
 have m2:∀ s e,InI y s e↔s=exS∧e=exE 25:=fun s e=>by
  rw [d2.res.mem]
  unfold After
  constructor
  ·rintro (⟨h,h'⟩ | h)
   ·obtain ⟨rfl,rfl⟩:=(m1 _ _).1 h
    exact absurd rfl (h' rfl (by decide))
   ·exact ⟨h.1,h.2.2⟩
  ·exact fun h=>.inr ⟨h.1,by decide,h.2⟩
 have a1:∀ s z e,EpA (epL s x.Channels) z e↔(s=exS∧e=exE 20)∧e.From≤z∧z<e.To:=fun s z e=>by unfold EpA;rw [d1.out.toSI.ep,m1]
 have a2:∀ s z e,EpA (epL s y.Channels) z e↔(s=exS∧e=exE 25)∧e.From≤z∧z<e.To:=fun s z e=>by unfold EpA;rw [d2.out.toSI.ep,m2]
 have hA:AffP x y [⟨exS,[⟨20,25⟩]⟩]:=by
  refine ⟨List.pairwise_singleton _ _,fun f hf=>?_,fun s z=>?_⟩
  ·rcases List.mem_singleton.1 hf with rfl
   refine ⟨⟨fun t ht=>?_,List.pairwise_singleton _ _⟩,by simp,by simp⟩
   rcases List.mem_singleton.1 ht with rfl;decide
  ·unfold a9w
   simp only [a1,a2]
   constructor
   ·rintro ⟨f,hf,rfl,hm⟩
    rcases List.mem_singleton.1 hf with rfl
    rw [X3] at hm
    simp only at hm
    refine ⟨⟨exE 25,.inr ⟨⟨rfl,rfl⟩,by show (10:Int)≤z;omega,hm.2⟩⟩,?_⟩
    rintro ⟨e,f,⟨⟨_,rfl⟩,h⟩,_⟩
    have:z<20:=h.2
    omega
   ·rintro ⟨⟨e,h⟩,hn⟩
    have hs:s=exS:=h.elim (fun h=>h.1.1) (fun h=>h.1.1)
    refine ⟨_,List.mem_singleton.2 rfl,hs.symm,?_⟩
    rw [X3]
    have h10:10≤z∧z<25:=by
     rcases h with ⟨⟨_,rfl⟩,h1,h2⟩ | ⟨⟨_,rfl⟩,h1,h2⟩
     ·have h1:10≤z:=h1
      have h2:z<20:=h2
      omega
     ·have h1:10≤z:=h1
      have h2:z<25:=h2
      omega
    by_cases h20:z<20
    ·exact absurd ⟨exE 20,exE 25,⟨⟨hs,rfl⟩,h10.1,h20⟩,⟨⟨hs,rfl⟩,h10.1,h10.2⟩,rfl,rfl,rfl⟩ hn
    ·exact ⟨by show (20:Int)≤z;omega,h10.2⟩
 have hL:affN x y=[⟨exS,[⟨20,25⟩]⟩]:=by
  rw [b1Z ⟨d1.out,d2.out⟩]
  exact (b5S d1.out d2.out).uniq hA fun _ _=>Iff.rfl
 have f1:J4 ⟨[]⟩ ⟨0,exS,10,exE 20⟩=some (x,0):=by rw [(a4y b1x.fi ⟨a9h b1a,v1.ce.ef⟩).1,e1]
 have f2:J4 x ⟨2,exS,10,exE 25⟩=some (y,0):=by rw [(a4y d1.out.fi ⟨a9h b1a,v2.ce.ef⟩).1,e2]
 have f3:=(a6J d1.out.fi d2.out.fi).1
 rw [hL] at f3
 unfold a6s
 rw [show J4 (⟨([]:List Channel)⟩:Inventory) (⟨0,(⟨(⟨#[65]⟩:ByteArray),(⟨#[66]⟩:ByteArray),ByteArray.empty,(⟨#[72,72,90]⟩:ByteArray)⟩:SourceID),10,(⟨10,20,(⟨100,1⟩:Rate),(⟨0,0,0⟩:Position),(⟨([]:List Stage)⟩:Response)⟩:Epoch)⟩:Change)=some (x,0) from f1]
 simp only [Option.bind_some]
 rw [show J4 x (⟨2,(⟨(⟨#[65]⟩:ByteArray),(⟨#[66]⟩:ByteArray),ByteArray.empty,(⟨#[72,72,90]⟩:ByteArray)⟩:SourceID),10,(⟨10,25,(⟨100,1⟩:Rate),(⟨0,0,0⟩:Position),(⟨([]:List Stage)⟩:Response)⟩:Epoch)⟩:Change)=some (y,0) from f2]
 simp only [Option.bind_some]
 rw [f3]
 simp only [Option.bind_some]
 have i0:ix ([⟨exS,[⟨20,25⟩]⟩]:List Affected) 0=some ⟨exS,[⟨20,25⟩]⟩:=rfl
 rw [if_pos (by simp),i0]
 simp only [Option.bind_some]
 have hs:((exS.Network == (⟨#[65]⟩:ByteArray)) && ((exS.Station == (⟨#[66]⟩:ByteArray)) && ((exS.Location == ByteArray.empty) && ((exS.Channel == (⟨#[72,72,90]⟩:ByteArray)) && true))))=true:=(b4h (a:=exS) (b:=exS)).2 rfl
 rw [hs,if_pos rfl,b3t _ (by simp)]
 rfl
end Go.Proofs.YteanekphncdhiaaGreat.Sh
namespace Go.Proofs.YteanekphncdhiaaGreat.Sh
open Go
set_option linter.unusedVariables false
set_option linter.unusedSimpArgs false
theorem b4R {p q:List Span} {i:Nat} (hi:i<p.length) (hl:p.length≤100000∧q.length≤100) (out0:List Span) (h0:out0.length≤200000) (o:List Span) :
  ∃ r,o6 (a5C p q (o,(i:Int))) (out0,0)=some r∧(∀ z,Mem r z↔Mem out0 z∨((p[i].From≤z∧z<p[i].To)∧Mem q z))∧r.length≤out0.length+q.length:=
 Q0 (fun a i=>(a,i)) q.length (fun k a=>(∀ z,Mem a z↔Mem out0 z∨((p[i].From≤z∧z<p[i].To)∧Mem (q.take k) z))∧a.length≤out0.length+k) _ (fun k hk a ⟨h1,h2⟩=>by
  unfold a5C
  simp only
  unfold a5A
  simp only
  rw [if_pos (decide_eq_true (by omega)),y8 _ _ hi,y8 _ _ hk,a6F (n:=k) (by omega)]
  simp only [Option.bind_some]
  by_cases hlt:max p[i].From q[k].From<min p[i].To q[k].To
  ·rw [if_pos (decide_eq_true hlt),F8 _ _ _ (by simp;omega) (by decide)]
   refine ⟨_,rfl,fun z=>?_,by simp;omega⟩
   rw [mem_append,X3,h1,F4 hk,mem_append,X3]
   simp only
   constructor
   ·rintro ((h | h) | h)
    ·exact .inl h
    ·exact .inr ⟨h.1,.inl h.2⟩
    ·exact .inr ⟨by omega,.inr (by omega)⟩
   ·rintro (h | ⟨h,h' | h'⟩)
    ·exact .inl (.inl h)
    ·exact .inl (.inr ⟨h,h'⟩)
    ·exact .inr (by omega)
  ·rw [if_neg (by simpa using hlt)]
   refine ⟨_,rfl,fun z=>?_,by omega⟩
   rw [h1,F4 hk,mem_append,X3]
   constructor
   ·rintro (h | h)
    ·exact .inl h
    ·exact .inr ⟨h.1,.inl h.2⟩
   ·rintro (h | ⟨h,h' | h'⟩)
    ·exact .inl h
    ·exact .inr ⟨h,h'⟩
    ·omega) (fun a ⟨h1,h2⟩=>by
  unfold a5C
  simp only
  rw [if_neg (by simp)]
  rw [List.take_of_length_le (Nat.le_refl _)] at h1
  exact ⟨a,rfl,h1,h2⟩) out0 ⟨fun z=>by simp [Mem],by omega⟩
end Go.Proofs.YteanekphncdhiaaGreat.Sh
namespace Go.Proofs.YteanekphncdhiaaGreat.Sh
open Go
set_option linter.unusedVariables false
set_option linter.unusedSimpArgs false
structure MT (p q:List Span) (i k:Nat) (out:List Span):Prop where
 vs:VS out
 mem:∀ z,Mem out z↔Mem p z∧Mem q z∧¬ (Mem (p.drop i) z∧Mem (q.drop k) z)
 ord:∀ s∈out,(∀ u∈p.drop i,s.To<u.From)∨(∀ u∈q.drop k,s.To<u.From)
 len:out.length≤i+k
 eb:∀ lo hi,EB lo hi p→EB lo hi q→EB lo hi out
theorem MT.zero {p q:List Span}:MT p q 0 0 []:=⟨VS.nil,fun z=>by
 simp only [List.drop_zero]
 exact ⟨fun h=>absurd h Mem.nil,fun ⟨h1,h2,h3⟩=>absurd ⟨h1,h2⟩ h3⟩,fun s h=>(by cases h),Nat.le_refl _,fun _ _ _ _ s h=>(by cases h)⟩
theorem MT.step {p q out out':List Span} {i k:Nat} (hp:VS p) (hq:VS q) (h:MT p q i k out) (hi:i<p.length) (hk:k<q.length)
  (ho:out'=if max p[i].From q[k].From<min p[i].To q[k].To then out ++ [⟨max p[i].From q[k].From,min p[i].To q[k].To⟩] else out) :
  (p[i].To<q[k].To→MT p q (i+1) k out')∧(q[k].To≤p[i].To→MT p q i (k+1) out'):=by
 have nx:=hp.ne _ (List.getElem_mem hi)
 have ny:=hq.ne _ (List.getElem_mem hk)
 have hvs:VS out':=by
  rw [ho]
  split
  ·next hlt=>
   refine h.vs.snoc hlt (fun s hs=>?_)
   simp only
   rcases h.ord s hs with h1 | h1
   ·have:=h1 p[i] (by rw [List.drop_eq_getElem_cons hi];exact List.mem_cons_self)
    omega
   ·have:=h1 q[k] (by rw [List.drop_eq_getElem_cons hk];exact List.mem_cons_self)
    omega
  ·exact h.vs
 have hmem:∀ z,Mem out' z↔Mem out z∨((p[i].From≤z∧z<p[i].To)∧(q[k].From≤z∧z<q[k].To)):=by
  intro z
  rw [ho]
  split
  ·rw [mem_append,X3]
   simp only
   constructor
   ·rintro (h | h)
    ·exact .inl h
    ·exact .inr (by omega)
   ·rintro (h | h)
    ·exact .inl h
    ·exact .inr (by omega)
  ·constructor
   ·exact .inl
   ·rintro (h | h)
    ·exact h
    ·omega
 have hsub:∀ s∈out',s∈out∨(s.To=min p[i].To q[k].To):=by
  intro s hs
  rw [ho] at hs
  split at hs
  ·rcases List.mem_append.1 hs with hs | hs
   ·exact .inl hs
   ·rcases List.mem_singleton.1 hs with rfl;exact .inr rfl
  ·exact .inl hs
 have hlen:out'.length≤out.length+1:=by rw [ho];split <;> simp
 have heb:∀ lo hi,EB lo hi p→EB lo hi q→EB lo hi out':=by
  intro lo hi' hp' hq'
  rw [ho]
  have b1:=hp' _ (List.getElem_mem hi)
  have b2:=hq' _ (List.getElem_mem hk)
  split
  ·exact (h.eb lo hi' hp' hq').app (EB.one (by simp only;omega))
  ·exact h.eb lo hi' hp' hq'
 have xA:∀ z,(p[i].From≤z∧z<p[i].To)→Mem p z:=fun z hz=>⟨_,List.getElem_mem hi,hz⟩
 have yB:∀ z,(q[k].From≤z∧z<q[k].To)→Mem q z:=fun z hz=>⟨_,List.getElem_mem hk,hz⟩
 have p1:∀ z,Mem (p.drop (i+1)) z→p[i].To<z:=fun z hz=>hp.laterM hi hz
 have q1:∀ z,Mem (q.drop (k+1)) z→q[k].To<z:=fun z hz=>hq.laterM hk hz
 have hl:=h.len
 constructor
 ·intro hc
  refine ⟨hvs,fun z=>?_,fun s hs=>?_,by omega,heb⟩
  ·rw [hmem,h.mem,b0v hi,b0v hk]
   have a1:=xA z;have a2:=yB z;have a3:=p1 z;have a4:=q1 z
   constructor
   ·rintro (⟨h1,h2,h3⟩ | ⟨h1,h2⟩)
    ·exact ⟨h1,h2,fun h=>h3 ⟨.inr h.1,h.2⟩⟩
    ·exact ⟨a1 h1,a2 h2,fun h=>by have:=a3 h.1;omega⟩
   ·rintro ⟨h1,h2,h3⟩
    by_cases hx:p[i].From≤z∧z<p[i].To
    ·by_cases hy:q[k].From≤z∧z<q[k].To
     ·exact .inr ⟨hx,hy⟩
     ·refine .inl ⟨h1,h2,fun h=>?_⟩
      rcases h.2 with h | h
      ·exact hy h
      ·have:=a4 h;omega
    ·refine .inl ⟨h1,h2,fun h=>?_⟩
     rcases h.1 with h' | h'
     ·exact hx h'
     ·exact h3 ⟨h',h.2⟩
  ·rcases hsub s hs with hs | hs
   ·rcases h.ord s hs with h1 | h1
    ·exact .inl fun u hu=>h1 u (by rw [List.drop_eq_getElem_cons hi];exact List.mem_cons_of_mem _ hu)
    ·exact .inr h1
   ·refine .inl fun u hu=>?_
    have:=hp.later hi u hu
    omega
 ·intro hc
  refine ⟨hvs,fun z=>?_,fun s hs=>?_,by omega,heb⟩
  ·rw [hmem,h.mem,b0v hi,b0v hk]
   have a1:=xA z;have a2:=yB z;have a3:=p1 z;have a4:=q1 z
   constructor
   ·rintro (⟨h1,h2,h3⟩ | ⟨h1,h2⟩)
    ·exact ⟨h1,h2,fun h=>h3 ⟨h.1,.inr h.2⟩⟩
    ·exact ⟨a1 h1,a2 h2,fun h=>by have:=a4 h.2;omega⟩
   ·rintro ⟨h1,h2,h3⟩
    by_cases hy:q[k].From≤z∧z<q[k].To
    ·by_cases hx:p[i].From≤z∧z<p[i].To
     ·exact .inr ⟨hx,hy⟩
     ·refine .inl ⟨h1,h2,fun h=>?_⟩
      rcases h.1 with h | h
      ·exact hx h
      ·have:=a3 h;omega
    ·refine .inl ⟨h1,h2,fun h=>?_⟩
     rcases h.2 with h' | h'
     ·exact hy h'
     ·exact h3 ⟨h.1,h'⟩
  ·rcases hsub s hs with hs | hs
   ·rcases h.ord s hs with h1 | h1
    ·exact .inl h1
    ·exact .inr fun u hu=>h1 u (by rw [List.drop_eq_getElem_cons hk];exact List.mem_cons_of_mem _ hu)
   ·refine .inr fun u hu=>?_
    have:=hq.later hk u hu
    omega
structure MS (p q r:List Span):Prop where
 vs:VS r
 mem:∀ z,Mem r z↔Mem p z∧Mem q z
 len:r.length≤p.length+q.length
 eb:∀ lo hi,EB lo hi p→EB lo hi q→EB lo hi r
theorem b6R {p q:List Span} (hp:VS p) (hq:VS q) (hl:p.length+q.length≤100000):∃ r,o6 (a7W p q) ([],0,0)=some r∧MS p q r:=by
 refine S9 (fun n s=>∃ i k:Nat,s.2.1=(i:Int)∧s.2.2=(k:Int)∧i≤p.length∧k≤q.length∧n+i+k=p.length+q.length∧MT p q i k s.1) (MS p q) ?_ (p.length+q.length) _ ⟨0,0,rfl,rfl,Nat.zero_le _,Nat.zero_le _,rfl,MT.zero⟩
 rintro n ⟨out,i',k'⟩ ⟨i,k,hi',hk',h1,h2,hn,h⟩
 simp only at hi' hk' h
 subst hi'
 subst hk'
 have hol:=h.len
 unfold a7W
 simp only
 by_cases hc:i<p.length∧k<q.length
 ·left
  obtain ⟨hi,hk⟩:=hc
  rw [if_pos (by simp;omega),y8 _ _ hi,y8 _ _ hk]
  simp only [Option.bind_some]
  have hs:a9g (⟨max p[i].From q[k].From,min p[i].To q[k].To⟩:Span)=some (decide (max p[i].From q[k].From<min p[i].To q[k].To)):=rfl
  rw [hs]
  simp only [Option.bind_some]
  have key:∀ o:List Span,a1i p q (out,(i:Int),(k:Int)) o=if p[i].To<q[k].To then some (.inl (o,((i+1:Nat):Int),(k:Int))) else some (.inl (o,(i:Int),((k+1:Nat):Int))):=by
   intro o
   unfold a1i a6k
   simp only
   rw [y8 _ _ hi,y8 _ _ hk,a6F (n:=i) (by omega),a6F (n:=k) (by omega)]
   simp only [Option.bind_some]
   by_cases ht:p[i].To<q[k].To
   ·rw [if_pos (decide_eq_true ht),if_pos ht]
   ·rw [if_neg (by simpa using ht),if_neg ht]
  have hstep:=MT.step hp hq h hi hk (out':=if max p[i].From q[k].From<min p[i].To q[k].To then out ++ [⟨max p[i].From q[k].From,min p[i].To q[k].To⟩] else out) rfl
  have hbody:(if decide (max p[i].From q[k].From<min p[i].To q[k].To)=true then (T9 16 out [(⟨max p[i].From q[k].From,min p[i].To q[k].To⟩:Span)]).bind fun l=>a1i p q (out,(i:Int),(k:Int)) l else a1i p q (out,(i:Int),(k:Int)) out)
   =a1i p q (out,(i:Int),(k:Int)) (if max p[i].From q[k].From<min p[i].To q[k].To then out ++ [⟨max p[i].From q[k].From,min p[i].To q[k].To⟩] else out):=by
   by_cases hlt:max p[i].From q[k].From<min p[i].To q[k].To
   ·rw [if_pos (decide_eq_true hlt),if_pos hlt,F8 _ _ _ (by simp;omega) (by decide)]
    rfl
   ·rw [if_neg (by simpa using hlt),if_neg hlt]
  rw [hbody,key]
  by_cases ht:p[i].To<q[k].To
  ·rw [if_pos ht]
   exact ⟨_,n - 1,rfl,⟨i+1,k,rfl,rfl,by omega,h2,by omega,hstep.1 ht⟩,by omega⟩
  ·rw [if_neg ht]
   exact ⟨_,n - 1,rfl,⟨i,k+1,rfl,rfl,h1,by omega,by omega,hstep.2 (by omega)⟩,by omega⟩
 ·right
  rw [if_neg (by simp;omega)]
  refine ⟨out,rfl,h.vs,fun z=>?_,by omega,h.eb⟩
  rw [h.mem]
  have hnil:¬ (Mem (p.drop i) z∧Mem (q.drop k) z):=by
   rintro ⟨g1,g2⟩
   rcases Nat.lt_or_ge i p.length with hi | hi
   ·rw [List.drop_eq_nil_of_le (show q.length≤k by omega)] at g2
    exact Mem.nil g2
   ·rw [List.drop_eq_nil_of_le hi] at g1
    exact Mem.nil g1
  exact ⟨fun ⟨a,b,_⟩=>⟨a,b⟩,fun ⟨a,b⟩=>⟨a,b,hnil⟩⟩
theorem cut_ok {a:List Span} (ha:a.length≤5000) (x y:Int):∃ r,b0K a x y=some r∧(r=[]↔¬ ∃ z,Mem a z∧x≤z∧z<y):=by
 unfold b0K b1w
 obtain ⟨p,ep,hp⟩:=a6N (l:=a) (by omega)
 obtain ⟨q,eq,hq⟩:=a6N (l:=[⟨x,y⟩]) (by simp)
 rw [ep,eq]
 simp only [Option.bind_some]
 have l1:=hp.len
 have l2:=hq.len
 simp only [List.length_cons,List.length_nil] at l2
 obtain ⟨r,er,hr⟩:=b6R hp.vs hq.vs (by omega)
 rw [er]
 refine ⟨r,rfl,fun h=>?_,fun h=>?_⟩
 ·rintro ⟨z,h1,h2⟩
  have:=(hr.mem z).2 ⟨(hp.mem z).2 h1,(hq.mem z).2 (X3.2 h2)⟩
  rw [h] at this
  exact Mem.nil this
 ·by_cases hn:r=[]
  ·exact hn
  ·obtain ⟨z,hz⟩:=b4l hr.vs hn
   obtain ⟨h1,h2⟩:=(hr.mem z).1 hz
   exact absurd ⟨z,(hp.mem z).1 h1,X3.1 ((hq.mem z).1 h2)⟩ h
theorem rcut_ok {a:List Span} (ha:a.length≤5000) (x y:Int):∃ r,a7n a x y=some r∧(r=[]↔¬ ∃ z,Mem a z∧x≤z∧z<y):=by
 unfold a7n a9S
 obtain ⟨p,ep,hp⟩:=a3t (l:=a) (by omega)
 obtain ⟨q,eq,hq⟩:=a3t (l:=[⟨x,y⟩]) (by simp)
 rw [ep,eq]
 simp only [Option.bind_some]
 have l1:=hp.len
 have l2:=hq.len
 simp only [List.length_cons,List.length_nil] at l2
 obtain ⟨o,eo,ho,hol⟩:=Q0 (body:=a5B p q) (fun a i=>(a,i)) p.length (fun i a=>(∀ z,Mem a z↔Mem (p.take i) z∧Mem q z)∧a.length≤i) (fun r=>(∀ z,Mem r z↔Mem p z∧Mem q z)∧r.length≤5000) (fun i hi a ⟨h1,h2⟩=>by
  unfold a5B
  simp only
  rw [if_pos (decide_eq_true (by omega))]
  obtain ⟨r,er,hr,hrl⟩:=b4R hi (q:=q) (by omega) a (by omega) a
  rw [er,a6F (n:=i) (by omega)]
  refine ⟨r,rfl,fun z=>?_,by omega⟩
  rw [hr,h1,F4 hi,mem_append,X3]
  constructor
  ·rintro (h | h)
   ·exact ⟨.inl h.1,h.2⟩
   ·exact ⟨.inr h.1,h.2⟩
  ·rintro ⟨h | h,h'⟩
   ·exact .inl ⟨h,h'⟩
   ·exact .inr ⟨h,h'⟩) (fun a ⟨h1,h2⟩=>by
  unfold a5B
  simp only
  rw [if_neg (by simp)]
  rw [List.take_of_length_le (Nat.le_refl _)] at h1
  exact ⟨a,rfl,h1,by omega⟩) [] ⟨fun z=>by simp [Mem],by simp⟩
 rw [eo]
 simp only [Option.bind_some]
 obtain ⟨r,er,hr⟩:=a3t (l:=o) (by omega)
 rw [er]
 refine ⟨r,rfl,fun h=>?_,fun h=>?_⟩
 ·rintro ⟨z,h1,h2⟩
  have:=(hr.mem z).2 ((ho z).2 ⟨(hp.mem z).2 h1,(hq.mem z).2 (X3.2 h2)⟩)
  rw [h] at this
  exact Mem.nil this
 ·by_cases hn:r=[]
  ·exact hn
  ·obtain ⟨z,hz⟩:=b4l hr.vs hn
   obtain ⟨h1,h2⟩:=(ho z).1 ((hr.mem z).1 hz)
   exact absurd ⟨z,(hp.mem z).1 h1,X3.1 ((hq.mem z).1 h2)⟩ h
def Hit (l:List Affected) (s:SourceID) (x y:Int):Prop:=∃ f∈l,f.Source=s∧∃ z,Mem f.Spans z∧x≤z∧z<y
noncomputable def a9k (l:List Affected) (s:SourceID) (x y:Int):Bool:=@decide (Hit l s x y) (Classical.propDecidable _)
theorem a8v {l:List Affected} {s:SourceID} {x y:Int}:a9k l s x y=true↔Hit l s x y:=by unfold a9k;exact @decide_eq_true_iff _ (Classical.propDecidable _)
theorem touch1 {f:Affected} (hf:f.Spans.length≤5000) (s:SourceID) (x y:Int):X0 f s x y=some (a9k [f] s x y):=by
 obtain ⟨r,e,h⟩:=cut_ok hf x y
 unfold X0
 simp only [a6l]
 have hh:a9k [f] s x y=true↔f.Source=s∧r≠[]:=by
  rw [a8v]
  unfold Hit
  constructor
  ·rintro ⟨g,hg,h1,h2⟩
   rcases List.mem_singleton.1 hg with rfl
   exact ⟨h1,fun e=>(h.1 e) h2⟩
  ·rintro ⟨h1,h2⟩
   refine ⟨f,List.mem_singleton.2 rfl,h1,?_⟩
   exact Classical.byContradiction fun hn=>h2 (h.2 hn)
 by_cases hs:f.Source=s
 ·rw [if_pos (decide_eq_true hs),e]
  simp only [Option.bind_some]
  congr 1
  rw [Bool.eq_iff_iff,hh,decide_eq_true_eq]
  cases r <;> simp [hs]
 ·rw [if_neg (by simpa using hs)]
  simp only [Option.bind_some]
  congr 1
  rw [eq_comm,← Bool.not_eq_true,hh]
  exact fun h=>hs h.1
theorem b1P (l:List Affected) (s:SourceID) (x y:Int):(l.any fun f=>a9k [f] s x y)=a9k l s x y:=by
 rw [Bool.eq_iff_iff,List.any_eq_true,a8v]
 constructor
 ·rintro ⟨f,hf,h⟩
  obtain ⟨g,hg,h'⟩:=a8v.1 h
  rcases List.mem_singleton.1 hg with rfl
  exact ⟨_,hf,h'⟩
 ·rintro ⟨f,hf,h⟩
  exact ⟨f,hf,a8v.2 ⟨f,List.mem_singleton.2 rfl,h⟩⟩
theorem b5M {l:List Affected} (hl:l.length≤1000000) (hf:∀ f∈l,f.Spans.length≤5000) (s:SourceID) (x y:Int):a3r l s x y=some (a9k l s x y):=by
 unfold a3r N9 P8
 obtain ⟨r,e,hr⟩:=S9 (b1:=O0 l (fun y0=>X0 y0 s x y)) (fun k q=>∃ i:Nat,q=(i:Int)∧k+i=l.length∧∀ f∈l.take i,a9k [f] s x y=false)
  (fun r=>(0≤r↔a9k l s x y=true)) (fun k q ⟨i,hi,hk,hall⟩=>by
  subst hi
  unfold O0
  by_cases hil:i<l.length
  ·rw [if_pos (decide_eq_true (by omega)),y8 _ _ hil]
   simp only [Option.bind_some]
   rw [touch1 (hf _ (List.getElem_mem hil))]
   simp only [Option.bind_some]
   cases hb:a9k [l[i]] s x y with
   | true=>
    refine .inr ⟨_,rfl,⟨fun _=>?_,fun _=>by omega⟩⟩
    rw [← b1P,List.any_eq_true]
    exact ⟨_,List.getElem_mem hil,hb⟩
   | false=>
    refine .inl ⟨((i+1:Nat):Int),k - 1,?_,⟨i+1,rfl,by omega,fun f hf'=>?_⟩,by omega⟩
    ·rw [M0 (by omega)];rfl
    ·rw [F4 hil] at hf'
     rcases List.mem_append.1 hf' with hf' | hf'
     ·exact hall f hf'
     ·rcases List.mem_singleton.1 hf' with rfl;exact hb
  ·rw [if_neg (by simp;omega)]
   rw [List.take_of_length_le (by omega)] at hall
   refine .inr ⟨_,rfl,⟨fun h=>absurd h (by decide),fun h=>?_⟩⟩
   rw [← b1P,List.any_eq_true] at h
   obtain ⟨f,h1,h2⟩:=h
   rw [hall f h1] at h2
   cases h2) l.length 0 ⟨0,rfl,rfl,by simp⟩
 rw [e]
 simp only [Option.bind_some]
 congr 1
 rw [Bool.eq_iff_iff,decide_eq_true_eq,hr]
theorem b4W {l:List Affected} (hl:l.length≤1000000) (hf:∀ f∈l,f.Spans.length≤5000) (s:SourceID) (x y:Int):a5M l s x y=some (a9k l s x y):=by
 unfold a5M
 obtain ⟨r,e,hr⟩:=S9 (b1:=a5p l s x y) (fun k q=>∃ i:Nat,q=(i:Int)∧k+i=l.length∧∀ f∈l.take i,a9k [f] s x y=false)
  (fun r=>r=a9k l s x y) (fun k q ⟨i,hi,hk,hall⟩=>by
  subst hi
  unfold a5p
  by_cases hil:i<l.length
  ·rw [if_pos (decide_eq_true (by omega)),y8 _ _ hil]
   simp only [Option.bind_some,a6l]
   obtain ⟨r,e,h⟩:=rcut_ok (hf _ (List.getElem_mem hil)) x y
   have hh:a9k [l[i]] s x y=true↔l[i].Source=s∧r≠[]:=by
    rw [a8v]
    unfold Hit
    constructor
    ·rintro ⟨g,hg,h1,h2⟩
     rcases List.mem_singleton.1 hg with rfl
     exact ⟨h1,fun e=>(h.1 e) h2⟩
    ·rintro ⟨h1,h2⟩
     refine ⟨_,List.mem_singleton.2 rfl,h1,?_⟩
     exact Classical.byContradiction fun hn=>h2 (h.2 hn)
   have hc:(if decide (l[i].Source=s)=true then (a7n l[i].Spans x y).bind fun rv337=>some (decide (0<(rv337.length:Int))) else some false)=some (a9k [l[i]] s x y):=by
    by_cases hs:l[i].Source=s
    ·rw [if_pos (decide_eq_true hs),e]
     simp only [Option.bind_some]
     congr 1
     rw [Bool.eq_iff_iff,hh,decide_eq_true_eq]
     cases r <;> simp [hs]
    ·rw [if_neg (by simpa using hs)]
     congr 1
     rw [eq_comm,← Bool.not_eq_true,hh]
     exact fun h=>hs h.1
   rw [hc]
   simp only [Option.bind_some]
   cases hb:a9k [l[i]] s x y with
   | true=>
    refine .inr ⟨_,rfl,Eq.symm ?_⟩
    rw [← b1P,List.any_eq_true]
    exact ⟨_,List.getElem_mem hil,hb⟩
   | false=>
    refine .inl ⟨((i+1:Nat):Int),k - 1,?_,⟨i+1,rfl,by omega,fun f hf'=>?_⟩,by omega⟩
    ·rw [M0 (by omega)];rfl
    ·rw [F4 hil] at hf'
     rcases List.mem_append.1 hf' with hf' | hf'
     ·exact hall f hf'
     ·rcases List.mem_singleton.1 hf' with rfl;exact hb
  ·rw [if_neg (by simp;omega)]
   rw [List.take_of_length_le (by omega)] at hall
   refine .inr ⟨_,rfl,Eq.symm ?_⟩
   rw [← Bool.not_eq_true,← b1P,List.any_eq_true]
   rintro ⟨f,h1,h2⟩
   rw [hall f h1] at h2
   cases h2) l.length 0 ⟨0,rfl,rfl,by simp⟩
 rw [e,hr]
end Go.Proofs.YteanekphncdhiaaGreat.Sh
namespace Go.Proofs.YteanekphncdhiaaGreat.Sh
open Go
set_option linter.unusedVariables false
set_option linter.unusedSimpArgs false
theorem apN_vi {inv:Inventory} {c:Change} (hf:FI inv) (hc:CF c):VI (apN inv c).1:=by
 by_cases h0:(apN inv c).2=0
 ·exact (a2U hf hc h0).out
 ·rw [(a4y hf hc).2.2.fail h0];exact b1x
theorem b1S {h:History} (hc:∀ c∈h.Changes,CF c) (n:Int):VI (a8S h n).1:=by
 rcases b5N hc n with ⟨_,h⟩ | ⟨_,h⟩
 ·exact h
 ·rw [h];exact b1x
def Small (l:List Affected):Prop:=l.length≤1000∧∀ f∈l,f.Spans.length≤5000
theorem b1u:Small []:=⟨by simp,fun f hf=>by cases hf⟩
theorem b0W (a b:Inventory):Small (affN a b):=by
 by_cases h:VI a∧VI b
 ·rw [b1Z h]
  refine ⟨?_,fun f hf=>((b5S h.1 h.2).vs f hf).2.2⟩
  have h1:=b2C a b
  have h2:=h.1.n
  have h3:=h.2.n
  have:=a4C (f:=a8s a b) (m:=1) (l:=a2j a b) fun _ _=>b0V _ _ _
  unfold affL
  omega
 ·rw [b4s h];exact b1u
theorem a7c {l:List Affected} (h:Small l):a0d l l=some true:=by
 have hl:=h.1
 unfold a0d
 rw [if_neg (by simp)]
 obtain ⟨r,er,rfl⟩:=Q0 (body:=a0R l l) (fun (_:Unit) i=>i) l.length (fun _ _=>True) (fun r=>r=true) (fun i hi a _=>by
  refine ⟨(),?_,trivial⟩
  unfold a0R
  rw [if_pos (decide_eq_true (by omega)),y8 _ _ hi]
  simp only [Option.bind_some,a6l,decide_eq_true (rfl:l[i].Source=l[i].Source),Bool.not_true,Bool.false_eq_true,if_false]
  rw [b3t _ (by have:=h.2 _ (List.getElem_mem hi);omega),M0 (by omega)]
  rfl) (fun a _=>by
  unfold a0R
  rw [if_neg (by simp)]
  exact ⟨_,rfl,rfl⟩) () trivial
 exact er
theorem b0G {c:Change} (h:EF c.Epoch):a1I c c=some true:=by
 obtain ⟨b,e,hb⟩:=a5P (a:=c.Epoch) (b:=c.Epoch) h
 unfold a1I
 rw [e,hb.2 rfl]
 simp only [a6l,decide_eq_true (rfl:c.Source=c.Source),beq_self_eq_true,Bool.and_self,if_true,Option.bind_some]
 rfl
theorem InvTo.ef {inv:Inventory} {c:Change} (hf:FI inv) (hc:CF c) {r:Change × Int} (h:InvTo inv c r):EF r.1.Epoch:=by
 cases h with
 | bad=>exact b6h
 | add=>exact b6h
 | rem h0 _ e he=>exact ((a2U hf hc h0).vi.vin he).ce.ef
 | rep h0 _ e he=>exact ((a2U hf hc h0).vi.vin he).ce.ef
theorem b5q {h:History} (hf:HF h) (n m:Int):∃ r,a3p h n m=some r∧a5K h n m=some r∧Small r.1:=by
 unfold a3p a5K
 rw [(a7Z hf n).1,(a7Z hf n).2,(a7Z hf m).1,(a7Z hf m).2]
 simp only [Option.bind_some]
 by_cases h1:(a8S h n).2=0
 case neg=>
  simp only [a1B h1,if_true]
  exact ⟨_,rfl,rfl,b1u⟩
 simp only [a0J h1,Bool.false_eq_true,if_false]
 by_cases h2:(a8S h m).2=0
 case neg=>
  simp only [a1B h2,if_true]
  exact ⟨_,rfl,rfl,b1u⟩
 simp only [a0J h2,Bool.false_eq_true,if_false]
 obtain ⟨e1,e2⟩:=a6J (b1S hf.c n).fi (b1S hf.c m).fi
 rw [e1,e2]
 exact ⟨_,rfl,rfl,b0W _ _⟩
theorem CK.ce {c:Change} (h:CK c):CE c.Epoch:=by
 by_cases k1:c.Kind=1
 ·rcases h.2 with h | h | h
  ·omega
  ·rw [h.2];exact b3P
  ·omega
 ·exact (h.ve k1).ce
theorem foldN_ck {l:List Change}:∀ {inv x:Inventory},VI inv→(∀ c∈l,CF c)→a2V inv l=some x→∀ c∈l,CK c:=by
 induction l with
 | nil=>intro inv x _ _ _ c hc;cases hc
 | cons d l ih=>
  intro inv x hv hc h c hm
  unfold a2V at h
  split at h
  ·rename_i h0
   have hd:=a2U hv.fi (hc d List.mem_cons_self) h0
   rcases List.mem_cons.1 hm with rfl | hm
   ·exact hd.ck
   ·exact ih hd.out (fun e he=>hc e (List.mem_cons_of_mem _ he)) h c hm
  ·cases h
theorem b5H {c:Change} (h:CE c.Epoch):a4e c=some c:=by
 unfold a4e
 rw [b0Z h]
 rfl
theorem b5o {h:History} (hf:HF h) {c:Change} (hc:CF c):∃ r,a4d h c=some r∧a0g h c=some r∧CI r.1.Base∧r.1.Changes.length≤1000∧∀ d∈r.1.Changes,EF d.Epoch:=by
 have hbad:∀ e:Int,CI (⟨⟨[]⟩,[]⟩:History).Base∧(⟨⟨[]⟩,[]⟩:History).Changes.length≤1000∧∀ d∈(⟨⟨[]⟩,[]⟩:History).Changes,EF d.Epoch:=fun e=>⟨b1x.ci,by simp,fun d hd=>by cases hd⟩
 obtain ⟨b,_,b2,b3⟩:=a8Z hf
 unfold a4d a0g
 rw [b2,(a7Z hf _).1]
 simp only [Option.bind_some]
 by_cases hh:HV h
 case neg=>
  have hb:b=false:=by rw [← Bool.not_eq_true,b3];exact hh
  have hv:a8S h (h.Changes.length:Int)=(⟨[]⟩,1):=by unfold a8S;rw [if_pos hh]
  rw [hb,hv]
  exact ⟨_,rfl,rfl,hbad 1⟩
 rw [b3.2 hh]
 obtain ⟨x,hx,hv,hver⟩:=hh.ver hf.c (Nat.le_refl _)
 rw [List.take_length] at hx
 rw [hver]
 simp only [bne_self_eq_false,Bool.not_true,Bool.false_eq_true,if_false]
 have hn:=hh.n
 by_cases h256:h.Changes.length=256
 ·rw [if_pos (decide_eq_true (by omega)),if_pos (b0Y (by omega))]
  exact ⟨_,rfl,rfl,hbad 8⟩
 rw [if_neg (by simp;omega),if_neg (by simp;omega),a8a (Nat.le_refl _) (by omega) hh.b hf.c,List.take_length]
 have hfr:a6q h.Base h.Changes=(x,true):=by unfold a6q;rw [hx]
 rw [hfr]
 simp only [Option.bind_some]
 rw [(a4y hv.fi hc).1,(a4y hv.fi hc).2.1]
 simp only [Option.bind_some]
 by_cases h0:(apN x c).2=0
 case neg=>
  simp only [a1B h0,if_true]
  exact ⟨_,rfl,rfl,hbad 1⟩
 simp only [a0J h0,Bool.false_eq_true,if_false]
 have hce:CE c.Epoch:=(a2U hv.fi hc h0).ck.ce
 have hall:∀ d∈h.Changes ++ [c],CE d.Epoch:=fun d hd=>by
  rcases List.mem_append.1 hd with hd | hd
  ·exact (foldN_ck hh.b hf.c hx d hd).ce
  ·rcases List.mem_singleton.1 hd with rfl;exact hce
 rw [a5m hce,a8B hh.b.ci,b3E hh.b.ci]
 simp only [Option.bind_some]
 have hcl:J9 h.Changes=some h.Changes:=by
  unfold J9
  rw [b2a _ _ (by omega) (by decide)]
  rfl
 rw [hcl,b2a _ _ (by omega) (by decide)]
 simp only [Option.bind_some]
 rw [F8 _ _ _ (by simp;omega) (by decide)]
 simp only [Option.bind_some]
 obtain ⟨L,hL⟩:∃ L,h.Changes ++ [c]=L:=⟨_,rfl⟩
 have hLl:L.length≤1000:=by rw [← hL];simp;omega
 rw [hL] at hall ⊢
 obtain ⟨r,er,rfl⟩:=Q0 (body:=a2b L) (fun (a:List Change) i=>(a,i)) L.length (fun _ a=>a=L) (fun r=>r=L) (fun i hi a ha=>by
  subst ha
  refine ⟨_,?_,rfl⟩
  unfold a2b
  simp only
  rw [if_pos (decide_eq_true (by omega)),y8 _ _ hi]
  simp only [Option.bind_some]
  rw [b5H (hall _ (List.getElem_mem hi))]
  simp only [Option.bind_some]
  rw [a2N _ _ _ (by omega) (by omega),Int.toNat_natCast,M0 (by omega)]
  simp only [Option.bind_some]
  rw [b0I hi]) (fun a ha=>by
  subst ha
  unfold a2b
  simp only
  rw [if_neg (by simp)]
  exact ⟨_,rfl,rfl⟩) L rfl
 rw [er]
 exact ⟨_,rfl,rfl,hh.b.ci,hLl,fun d hd=>(hall d hd).ef⟩
end Go.Proofs.YteanekphncdhiaaGreat.Sh
namespace Go.Proofs.YteanekphncdhiaaGreat.Sh
open Go
set_option linter.unusedVariables false
set_option linter.unusedSimpArgs false
theorem b6I {raw:Change} {last:Inventory × Int} {st:List Int × Int × Int} {inv:Inventory} {p q:Change × Dice} (hf:FI inv) (hl:VI last.1) (hp:CF p.1) (hq:CF q.1) (hr:CF raw):o6 (V4 raw last st inv p q) 0=some (.inl (q.2.L,q.2.At,w64 (st.2.2+1))):=by
 obtain ⟨r,er,rfl⟩:=Q0 (body:=V4 raw last st inv p q) (fun (_:Unit) i=>i) 3 (fun _ _=>True) (fun r=>r=.inl (q.2.L,q.2.At,w64 (st.2.2+1))) (fun i hi a _=>by
  refine ⟨(),?_,trivial⟩
  have hi':i<[p.1,q.1,raw].length:=hi
  obtain ⟨c,hcd⟩:∃ c,[p.1,q.1,raw][i]=c:=⟨_,rfl⟩
  have hc:CF c:=by
   have:=List.getElem_mem hi'
   rw [hcd] at this
   simp only [List.mem_cons,List.not_mem_nil,or_false] at this
   rcases this with rfl | rfl | rfl
   ·exact hp
   ·exact hq
   ·exact hr
  unfold V4
  rw [if_pos (decide_eq_true (by simp;omega)),y8 _ _ hi',hcd]
  simp only [Option.bind_some]
  obtain ⟨e1,e2,_⟩:=a4y hf hc
  obtain ⟨w,f1,f2,f3⟩:=b5z hf hc
  have hv:=apN_vi hf hc
  obtain ⟨g1,g2⟩:=a6J hf hv.fi
  rw [e1,e2,f1,f2]
  simp only [Option.bind_some,bne_self_eq_false,Bool.false_eq_true,if_false]
  rw [b0a hv.ci]
  simp only [Option.bind_some,bne_self_eq_false,Bool.not_true,Bool.or_self,Bool.false_eq_true,if_false]
  rw [b0G (f3.ef hf hc)]
  simp only [Option.bind_some,Bool.not_true,Bool.false_eq_true,if_false]
  rw [g1,g2]
  simp only [Option.bind_some]
  rw [a7c (b0W _ _),M0 (by omega)]
  rfl) (fun a _=>by
  obtain ⟨g1,g2⟩:=a6J hf hl.fi
  unfold V4
  rw [if_neg (by simp),g1,g2]
  simp only [Option.bind_some]
  rw [a7c (b0W _ _)]
  exact ⟨_,rfl,rfl⟩) () trivial
 exact er
theorem b6L {f u:Int} {st:List Int × Int × Int} {r:List Affected × Int} (hr:Small r.1) (a b c d:ByteArray) (p q:Int × Dice):o6 (V7 f u st r a b c d p q) 0=some (.inl (q.2.L,q.2.At,w64 (st.2.2+1))):=by
 obtain ⟨w,er,rfl⟩:=Q0 (body:=V7 f u st r a b c d p q) (fun (_:Unit) i=>i) 2 (fun _ _=>True) (fun r=>r=.inl (q.2.L,q.2.At,w64 (st.2.2+1))) (fun i hi _ _=>by
  refine ⟨(),?_,trivial⟩
  unfold V7
  obtain ⟨z,hz⟩:∃ z,ix ([(⟨f,u⟩:(Arr2 Int)),(⟨(w64 (1000000000000+(w64 (1000 * p.1)))),(w64 (1000000000000+(w64 (1000 * q.1))))⟩:(Arr2 Int))]:List (Arr2 Int)) (i:Int)=some z:=⟨_,y8 _ i (by simpa using hi)⟩
  rw [if_pos (decide_eq_true (by simp;omega)),hz]
  simp only [Option.bind_some]
  rw [b5M (by have:=hr.1;omega) hr.2,b4W (by have:=hr.1;omega) hr.2,M0 (by omega)]
  simp only [Option.bind_some,beq_self_eq_true,Bool.not_true,Bool.false_eq_true,if_false]) (fun _ _=>by
  unfold V7
  rw [if_neg (by simp)]
  exact ⟨_,rfl,rfl⟩) () trivial
 exact er
theorem b6N {r:History × Int} (h1:r.1.Changes.length≤1000) (h2:∀ d∈r.1.Changes,EF d.Epoch) {i:Nat} (hi:i≤1000):o6 (V9 (i:Int) r r) 0=some (.inl ((i+1:Nat):Int)):=by
 obtain ⟨w,er,rfl⟩:=Q0 (body:=V9 (i:Int) r r) (fun (_:Unit) i=>i) r.1.Changes.length (fun _ _=>True) (fun r=>r=.inl ((i+1:Nat):Int)) (fun j hj _ _=>by
  refine ⟨(),?_,trivial⟩
  unfold V9
  rw [if_pos (decide_eq_true (by omega)),y8 _ _ hj]
  simp only [Option.bind_some]
  rw [b0G (h2 _ (List.getElem_mem hj)),M0 (by omega)]
  rfl) (fun _ _=>by
  unfold V9
  rw [if_neg (by simp),M0 (by omega)]
  exact ⟨_,rfl,rfl⟩) () trivial
 exact er
theorem b6M {raw:Change} {st:List Int × Int × Int} {h:History} (hf:HF h) (hr:CF raw) {q:Change × Dice} (hq:CF q.1):o6 (V8 raw st h q) 0=some (.inl (q.2.L,q.2.At,w64 (st.2.2+1))):=by
 obtain ⟨w,er,rfl⟩:=Q0 (body:=V8 raw st h q) (fun (_:Unit) i=>i) 2 (fun _ _=>True) (fun r=>r=.inl (q.2.L,q.2.At,w64 (st.2.2+1))) (fun i hi _ _=>by
  refine ⟨(),?_,trivial⟩
  have hi':i<[raw,q.1].length:=hi
  obtain ⟨c,hcd⟩:∃ c,[raw,q.1][i]=c:=⟨_,rfl⟩
  have hc:CF c:=by
   have:=List.getElem_mem hi'
   rw [hcd] at this
   simp only [List.mem_cons,List.not_mem_nil,or_false] at this
   rcases this with rfl | rfl
   ·exact hr
   ·exact hq
  obtain ⟨r,e1,e2,h1,h2,h3⟩:=b5o hf hc
  unfold V8
  rw [if_pos (decide_eq_true (by simp;omega)),y8 _ _ hi',hcd]
  simp only [Option.bind_some]
  rw [e1,e2]
  simp only [Option.bind_some,bne_self_eq_false,Bool.or_self,Bool.false_eq_true,if_false]
  rw [b0a h1]
  simp only [Option.bind_some,Bool.not_true,Bool.false_eq_true,if_false]
  exact b6N h2 h3 (by omega)) (fun _ _=>by
  unfold V8
  rw [if_neg (by simp)]
  exact ⟨_,rfl,rfl⟩) () trivial
 exact er
theorem b6K {raw:Change} {n m f u:Int} {last:Inventory × Int} {st:List Int × Int × Int} {h:History} {p q:Int × Dice} (hf:HF h) (hl:VI last.1) (hr:CF raw) (hd:DOK q.2):∃ d,o6 (V6 raw n m f u last st h p q) (q.2.L,q.2.At,0)=some (.inl (d.L,d.At,w64 (st.2.2+1)))∧DOK d:=by
 obtain ⟨w,er,d,hw,hd'⟩:=Q0 (body:=V6 raw n m f u last st h p q) (fun (d:Dice) i=>(d.L,d.At,i)) 2 (fun _ d=>DOK d) (fun r=>∃ d:Dice,r=.inl (d.L,d.At,w64 (st.2.2+1))∧DOK d) (fun i hi d hd=>by
  unfold V6
  simp only
  obtain ⟨z,hz⟩:∃ z,ix ([(⟨n,m⟩:(Arr2 Int)),(⟨(w64 (p.1 - 1)),q.1⟩:(Arr2 Int))]:List (Arr2 Int)) (i:Int)=some z:=⟨_,y8 _ i (by simpa using hi)⟩
  rw [if_pos (decide_eq_true (by simp;omega)),hz]
  simp only [Option.bind_some]
  rw [(a7Z hf _).1,(a7Z hf _).2]
  obtain ⟨r,e1,e2,hs⟩:=b5q hf z.e0 z.e1
  rw [e1,e2]
  simp only [Option.bind_some,bne_self_eq_false,Bool.false_eq_true,if_false]
  rw [b0a (b1S hf.c _).ci]
  simp only [Option.bind_some,Bool.not_true,bne_self_eq_false,Bool.or_self,Bool.false_eq_true,if_false]
  rw [a7c hs]
  simp only [Option.bind_some,Bool.not_true,Bool.false_eq_true,if_false]
  obtain ⟨s,d1,f1,_,hd1⟩:=b0o hd
  rw [show a0H ⟨d.L,d.At⟩=some (s,d1) from f1]
  simp only [Option.bind_some]
  obtain ⟨x,d2,f2,_,_,hd2⟩:=I7 hd1 (n:=20) (by decide) (by decide)
  obtain ⟨y,d3,f3,_,_,hd3⟩:=I7 hd2 (n:=30) (by decide) (by decide)
  have hj:∀ a b c e:ByteArray,X7 f u (d.L,d.At,(i:Int)) r (s,d1) a b c e=some (.inl (d3.L,d3.At,((i+1:Nat):Int))):=fun a b c e=>by
   unfold X7
   simp only
   rw [f2]
   simp only [Option.bind_some]
   rw [f3]
   simp only [Option.bind_some]
   rw [b6L hs,M0 (by omega)]
  refine ⟨d3,?_,hd3⟩
  by_cases h0:0<r.1.length
  ·rw [if_pos (decide_eq_true (by omega)),show (0:Int)=((0:Nat):Int) from rfl,y8 _ _ h0]
   exact hj _ _ _ _
  ·rw [if_neg (fun h=>h0 (by have:=of_decide_eq_true h;omega))]
   exact hj _ _ _ _) (fun d hd=>by
  obtain ⟨c,d1,f1,hc,hd1⟩:=a8W hd hl
  unfold V6
  simp only
  rw [if_neg (by simp),show K4 ⟨d.L,d.At⟩ last.1=some (c,d1) from f1]
  simp only [Option.bind_some]
  rw [b6M hf hr hc.cf]
  exact ⟨_,rfl,d1,rfl,hd1⟩) q.2 hd
 exact ⟨d,by rw [er,hw],hd'⟩
theorem b6J {raw:Change} {n m f u:Int} {h:History × Dice} {l:List Change} {last:Inventory × Int} (hh:HF h.1) (ho:HF ⟨h.1.Base,l⟩) (hl:VI last.1) (hr:CF raw) {d:Dice} (hd:DOK d):o6 (V5 raw n m f u h l last) (d.L,d.At,0)=some true:=by
 obtain ⟨w,er,rfl⟩:=Q0 (body:=V5 raw n m f u h l last) (fun (d:Dice) i=>(d.L,d.At,i)) 2 (fun _ d=>DOK d) (fun r=>r=true) (fun i hi d hd=>by
  have hi':i<[h.1,⟨h.1.Base,l⟩].length:=hi
  obtain ⟨x,hx⟩:∃ x,[h.1,⟨h.1.Base,l⟩][i]=x:=⟨_,rfl⟩
  have hxf:HF x:=by
   have:=List.getElem_mem hi'
   rw [hx] at this
   simp only [List.mem_cons,List.not_mem_nil,or_false] at this
   rcases this with rfl | rfl
   ·exact hh
   ·exact ho
  unfold V5
  simp only
  rw [if_pos (decide_eq_true (by simp;omega)),y8 _ _ hi',hx]
  simp only [Option.bind_some]
  obtain ⟨b,b1,b2,_⟩:=a8Z hxf
  rw [b1,b2]
  simp only [Option.bind_some,beq_self_eq_true,Bool.not_true,Bool.false_eq_true,if_false]
  obtain ⟨p,d2,f2,_,_,hd2⟩:=I7 hd (n:=7) (by decide) (by decide)
  obtain ⟨q,d3,f3,_,_,hd3⟩:=I7 hd2 (n:=7) (by decide) (by decide)
  rw [show y9 ⟨d.L,d.At⟩ 7=some (p,d2) from f2]
  simp only [Option.bind_some]
  rw [f3]
  simp only [Option.bind_some]
  obtain ⟨d4,e4,hd4⟩:=b6K (raw:=raw) (n:=n) (m:=m) (f:=f) (u:=u) (last:=last) (st:=(d.L,d.At,(i:Int))) (h:=x) (p:=(p,d2)) (q:=(q,d3)) hxf hl hr hd3
  rw [e4,M0 (by omega)]
  exact ⟨d4,rfl,hd4⟩) (fun d hd=>by
  unfold V5
  simp only
  rw [if_neg (by simp),sane20]
  exact ⟨_,rfl,rfl⟩) d hd
 exact er
theorem a6Y (t:List Int) (raw:Change) (n m f u:Int) {P0 A1 A2 A3 A4 A5 A6 P2 P3 P4 P5:Prop} {B1 B2 B3 B4 B5 B6:Stage→Prop} (_:P0)
  (hraw:A1∧(((raw.Source.Network.size:Int)≤9223372036854775807)∧((raw.Source.Station.size:Int)≤9223372036854775807)∧((raw.Source.Location.size:Int)≤9223372036854775807)∧((raw.Source.Channel.size:Int)≤9223372036854775807))∧A2∧(A3∧A4∧A5∧A6 ∧
   (((raw.Epoch.Response.Stages.length:Int)≤140737488355328∧∀ y∈raw.Epoch.Response.Stages,(B1 y∧B2 y∧B3 y∧((y.Taps.length:Int)≤140737488355328∧B4 y)∧B5 y∧B6 y))))) (_:P2) (_:P3) (_:P4) (_:P5):a3D t raw n m f u=some true:=by
 obtain ⟨_,⟨s1,s2,s3,s4⟩,_,_,_,_,_,k1,k2⟩:=hraw
 unfold a3D
 rw [b5A]
 simp only [Option.bind_some]
 by_cases hl:t.length≤500∧raw.Epoch.Response.Stages.length≤12
 case neg=>
  have:(!decide (t.length≤500) || decide (12<(raw.Epoch.Response.Stages.length:Int)))=true:=by
   rw [Bool.or_eq_true,Bool.not_eq_true',decide_eq_false_iff_not,decide_eq_true_eq];omega
  rw [this,sane20];rfl
 have:(!decide (t.length≤500) || decide (12<(raw.Epoch.Response.Stages.length:Int)))=false:=by
  rw [Bool.or_eq_false_iff,Bool.not_eq_false',decide_eq_true_eq,decide_eq_false_iff_not];omega
 rw [this]
 simp only [Bool.false_eq_true,if_false,b1d,Option.bind_some]
 have hr:CF raw:=⟨⟨by omega,by omega,by omega,by omega⟩,by omega,fun y hy=>by have:=(k2 y hy).2.2.2.1.1;omega⟩
 obtain ⟨h,d1,e1,hh,hd1⟩:=dhistory (DOK.roll hl.1) (n:=5) (by decide)
 rw [show a0Y ⟨t,0⟩ 5=some (h,d1) from e1]
 simp only [Option.bind_some]
 have hcf:∀ c∈h.Changes,CF c:=fun c hc=>(hh.c c hc).cf
 have hn:=hh.n
 have hf:HF h:=⟨hh.v.b.fi,by omega,hcf⟩
 rw [b2a _ _ (by omega) (by decide)]
 simp only [Option.bind_some]
 obtain ⟨c,d2,e2,hc,hd2⟩:=a8W hd1 hh.v.b
 rw [e2]
 simp only [Option.bind_some]
 rw [F8 _ _ _ (by simp;omega) (by decide),(a7Z hf _).2]
 simp only [Option.bind_some]
 have hlast:=b1S hcf (h.Changes.length:Int)
 generalize a8S h (h.Changes.length:Int)=last at hlast ⊢
 have ho:HF ⟨h.Base,h.Changes ++ [c,raw]⟩:=⟨hh.v.b.fi,by show (h.Changes ++ [c,raw]).length≤_;simp;omega,fun x hx=>by
  rcases List.mem_append.1 hx with hx | hx
  ·exact hcf x hx
  ·simp only [List.mem_cons,List.not_mem_nil,or_false] at hx
   rcases hx with rfl | rfl
   ·exact hc.cf
   ·exact hr⟩
 obtain ⟨L,hL⟩:∃ L:List Inventory,[last.1,h.Base,(⟨([(⟨(⟨ByteArray.empty,ByteArray.empty,ByteArray.empty,ByteArray.empty⟩:SourceID),([]:List Epoch)⟩:Channel)]:List Channel)⟩:Inventory)]=L:=⟨_,rfl⟩
 have hL3:L.length=3:=by rw [← hL];rfl
 have hLf:∀ x∈L,FI x:=fun x hx=>by
  rw [← hL] at hx
  simp only [List.mem_cons,List.not_mem_nil,or_false] at hx
  rcases hx with rfl | rfl | rfl
  ·exact hlast.fi
  ·exact hh.v.b.fi
  ·refine ⟨by simp,fun c hc=>?_⟩
   rcases List.mem_singleton.1 hc with rfl
   exact ⟨⟨by decide,by decide,by decide,by decide⟩,by simp,fun e he=>by cases he⟩
 rw [hL]
 obtain ⟨w,er,rfl⟩:=Q0 (body:=a0B raw n m f u (h,d1) (h.Changes ++ [c,raw]) last L) (fun (d:Dice) i=>(d.L,d.At,i)) 3 (fun _ d=>DOK d) (fun r=>r=true) (fun i hi d hd=>by
  obtain ⟨p,d3,f3,hp,hd3⟩:=a8W hd hlast
  obtain ⟨q,d4,f4,hq,hd4⟩:=a8W hd3 hlast
  have hi':i<L.length:=by omega
  unfold a0B
  simp only
  rw [if_pos (decide_eq_true (by omega)),y8 _ _ hi',show K4 ⟨d.L,d.At⟩ last.1=some (p,d3) from f3]
  simp only [Option.bind_some]
  rw [f4]
  simp only [Option.bind_some]
  rw [b6I (hLf _ (List.getElem_mem hi')) hlast hp.cf hq.cf hr,M0 (by omega)]
  exact ⟨d4,rfl,hd4⟩) (fun d hd=>by
  unfold a0B
  simp only
  rw [if_neg (by simp;omega),b6J hf ho hlast hr hd]
  exact ⟨_,rfl,rfl⟩) d2 hd2
 exact er
end Go.Proofs.YteanekphncdhiaaGreat.Sh
